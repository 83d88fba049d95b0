/-
  What page.lay, page.Valid and page.Lay give for every page. Condition: a body no longer than memory holds.
-/
import Derived.Test.YtkgcihhpcbodnaaPackGet
import Derived.Test.YtkgcihhpcbodnaaRepeat
import Derived.Laws.BitsLemmas
namespace Go.Proofs.Ytkgcihhpcbodnaa
open Go Go.RowKit
attribute [local go_sem] cell_set_if

theorem i64_low32 (n : Int) : bits .and .i64 n 4294967295 = n % 4294967296 := by
  have h127 : (BitVec.ofInt 64 4294967295).toNat = 2 ^ 32 - 1 := by decide
  have key : (BitVec.ofInt 64 n &&& BitVec.ofInt 64 4294967295).toNat = (n % ((2 ^ 64 : Nat) : Int)).toNat % 2 ^ 32 := by
    rw [BitVec.toNat_and, BitVec.toNat_ofInt, h127, Nat.and_two_pow_sub_one_eq_mod]
  show IntKind.i64.wrap ((BitVec.ofInt 64 n &&& BitVec.ofInt 64 4294967295).toNat : Nat) = n % 4294967296
  rw [key, IntKind.wrap_i64]
  omega
theorem zeros_any (m : Nat) (w : World) (hm : m ≤ 140737488355328) :
    Calls Try.prog 48 #[.string ⟨#[0]⟩, .int .i64 m] w fun e w' => e = .returned (str (zerosL m)) ∧ Below w.heap.size w w' :=
  (repeat_any ⟨#[0]⟩ m w (by omega) (by show 1 * m ≤ _; omega)).mono fun e w' ⟨he, hb⟩ => ⟨by
    rw [he]
    have : Lib.repeatL (ByteArray.data ⟨#[0]⟩).toList m = zerosL m := by
      show Lib.repeatL (List.replicate 1 0) m = _
      rw [Lib.repeatL_replicate, Nat.mul_one]; rfl
    rw [this]; rfl, hb⟩

theorem PutAt.drew {base g : Nat} {w : World} {l : List UInt8} (h : PutAt base w g l) : PutAt base w.drew g l := by
  obtain ⟨h1, v, hB, hO⟩ := h; exact ⟨h1, v, hB.drew, hO⟩
theorem PutAt.new (w : World) (B : Nat) (hB : B ≤ w.heap.size) : PutAt B (w.alloc (.cells #[.slice none 0 0, .int .i64 0] 100)) w.heap.size [] :=
  ⟨hB, _, Blk.new _ _ _, World.ownsRow_nil _ _ _ _⟩
/-- A page in memory. -/
abbrev pageV (k i t : Int) (bd : ByteArray) : Value := .agg #[.int .i64 k, .int .i64 i, .int .i64 t, .string bd]
/-- Its cells. -/
def Pc (w : World) (g : Nat) (k i t : Int) (bd : ByteArray) : Prop := w.cell? ⟨g, 0, none⟩ = some (.int .i64 k) ∧ w.cell? ⟨g, 1, none⟩ = some (.int .i64 i) ∧ w.cell? ⟨g, 2, none⟩ = some (.int .i64 t) ∧ w.cell? ⟨g, 3, none⟩ = some (.string bd)
theorem Pc.below {w w' : World} {g B : Nat} {k i t : Int} {bd : ByteArray} (h : Pc w g k i t bd) (hb : Below B w w') (hg : g < B) : Pc w' g k i t bd := by
  obtain ⟨hc, _⟩ := below_cells hb
  unfold Pc
  rw [hc g 0 hg, hc g 1 hg, hc g 2 hg, hc g 3 hg]
  exact h

set_option maxRecDepth 100000 in
set_option maxHeartbeats 4000000 in
theorem play_any (k i t : Nat) (bd : ByteArray) (w : World) (h : (⟨k, i, t, bts bd⟩ : Pg).ok) :
    Calls Try.prog 44 #[pageV k i t bd] w fun e w' => e = .returned (str (layL ⟨k, i, t, bts bd⟩)) ∧ Below w.heap.size w w' := by
  obtain ⟨h1, h2, h3, h4, h5⟩ := h
  simp only [bts_len] at h1 h2 h3 h4 h5
  obtain ⟨m, hm⟩ : ∃ m : Nat, m = 232 - bd.size := ⟨_, rfl⟩
  have hme : (232 : Int) - (bd.size : Int) = (m : Int) := by omega
  have hm2 : m ≤ 232 := by omega
  have hwm : IntKind.i64.wrap (m : Int) = (m : Int) := IntWalk.i64_in _ (by omega)
  have hand := i64_low32 (t : Int)
  obtain ⟨tl, htl⟩ : ∃ tl : Nat, tl = t % 4294967296 := ⟨_, rfl⟩
  have hand2 : (t : Int) % 4294967296 = (tl : Int) := by omega
  rw [hand2] at hand
  have htl2 : tl < 4294967296 := by omega
  have HTL := Lib.hid htl
  have HM := Lib.hid hm
  clear hand2 htl hm
  go_enter Try.func44, Try.ntmps44
  go_wp2
  have P0 : PutAt (w.heap.size + 1) ((w.alloc (.cells #[.int .i64 k, .int .i64 i, .int .i64 t, .string bd] 23)).alloc (.cells #[.slice none 0 0, .int .i64 0] 100)).drew (w.heap.size + 1) [] := by
    have := (PutAt.new (w.alloc (.cells #[.int .i64 k, .int .i64 i, .int .i64 t, .string bd] 23)) (w.heap.size + 1) (by simp)).drew
    simpa using this
  have C0 : Pc ((w.alloc (.cells #[.int .i64 k, .int .i64 i, .int .i64 t, .string bd] 23)).alloc (.cells #[.slice none 0 0, .int .i64 0] 100)).drew w.heap.size k i t bd := by
    unfold Pc; simp [World.cell?_drew, World.cell?_alloc_past, World.cell?_alloc_new]
  have B0 : Below w.heap.size w ((w.alloc (.cells #[.int .i64 k, .int .i64 i, .int .i64 t, .string bd] 23)).alloc (.cells #[.slice none 0 0, .int .i64 0] 100)) := ((Below.refl _ _).alloc (Nat.le_refl _) _).alloc (by simp) _
  generalize (w.alloc (.cells #[.int .i64 k, .int .i64 i, .int .i64 t, .string bd] 23)).alloc (.cells #[.slice none 0 0, .int .i64 0] 100) = W at P0 C0 B0 ⊢
  have HG : w.heap.size < w.heap.size + 1 := Nat.lt_succ_self _
  generalize w.heap.size + 1 = G at P0 HG ⊢
  have D0 := C0
  obtain ⟨d0, d1, d2, d3⟩ := D0
  have l0 : ([] : List UInt8).length ≤ 140737488351000 := by simp
  have l1 : ([] ++ lowB k 1).length ≤ 140737488351000 := by simp [lowB_len]
  have l2 : ([] ++ lowB k 1 ++ lowB bd.size 1).length ≤ 140737488351000 := by simp [lowB_len]
  have l3 : ([] ++ lowB k 1 ++ lowB bd.size 1 ++ lowB i 2).length ≤ 140737488351000 := by simp [lowB_len]
  have l4 : ([] ++ lowB k 1 ++ lowB bd.size 1 ++ lowB i 2 ++ lowB tl 4).length ≤ 140737488351000 := by simp [lowB_len]
  have v0 : k < 256 := by omega
  have v1 : bd.size < 256 := by omega
  have v2 : i < 65536 := by omega
  have v4 : t < 9223372036854775808 := by omega
  go_region_held3 (fun w' => w'.cell? ⟨w.heap.size, 0, none⟩ = some (.int .i64 k) ∧ w'.cell? ⟨w.heap.size, 1, none⟩ = some (.int .i64 i) ∧ w'.cell? ⟨w.heap.size, 2, none⟩ = some (.int .i64 t) ∧ w'.cell? ⟨w.heap.size, 3, none⟩ = some (.string bd))
    (first | exact ⟨d0, d1, d2, d3⟩ | assumption)
    (first
      | (go_at_call 59; with_reducible refine (pbyte_any G G [] k _ P0 v0 l0).mono ?_; rintro e w1 ⟨rfl, P1, b1⟩; have C1 := C0.below b1 HG; have D1 := C1; unfold Pc at D1)
      | (go_at_call 59; with_reducible refine (pbyte_any G G _ bd.size _ P1 v1 l1).mono ?_; rintro e w2 ⟨rfl, P2, b2⟩; have C2 := C1.below b2 HG; have D2 := C2; unfold Pc at D2)
      | (go_at_call 60; with_reducible refine (phalf_any G G _ i _ P2 v2 l2).mono ?_; rintro e w3 ⟨rfl, P3, b3⟩; have C3 := C2.below b3 HG; have D3 := C3; unfold Pc at D3)
      | (go_at_call 61; with_reducible refine (pword_any G G _ tl _ P3 htl2 l3).mono ?_; rintro e w4 ⟨rfl, P4, b4⟩; have C4 := C3.below b4 HG; have D4 := C4; unfold Pc at D4)
      | (go_at_call 54; with_reducible refine (pint_any G G _ t _ P4 v4 l4).mono ?_; rintro e w5 ⟨rfl, P5, b5⟩; have C5 := C4.below b5 HG; have D5 := C5; unfold Pc at D5))
  have B5 : Below w.heap.size w w5 := below_of b5 (below_of b4 (below_of b3 (below_of b2 (below_of b1 B0.drew (by omega)) (by omega)) (by omega)) (by omega)) (by omega)
  have HH : Hid ([] ++ lowB k 1 ++ lowB bd.size 1 ++ lowB i 2 ++ lowB tl 4 ++ lowB t 8 = headL ⟨k, i, t, bts bd⟩) := by
    unfold Hid; rw [HTL.out]; simp [headL, bts_len]
  have hH : ([] ++ lowB k 1 ++ lowB bd.size 1 ++ lowB i 2 ++ lowB tl 4 ++ lowB t 8).length = 16 := by simp [lowB_len]
  generalize [] ++ lowB k 1 ++ lowB bd.size 1 ++ lowB i 2 ++ lowB tl 4 ++ lowB t 8 = H at P5 HH hH
  clear P0 P1 P2 P3 P4 C0 C1 C2 C3 C4 D1 D2 D3 D4 D5 d0 d1 d2 d3 b1 b2 b3 b4 b5 l0 l1 l2 l3 l4 v0 v1 v2 v4 B0
  have q1 : H.length + bd.size ≤ 140737488351000 := by omega
  have q2 : (H ++ bts bd).length + (bs (zerosL m)).size ≤ 140737488351000 := by rw [bs_size, List.length_append, bts_len]; simp [zerosL]; omega
  have q3 : m ≤ 140737488355328 := by omega
  have P6 := P5.drew
  have C6 : Pc w5.drew w.heap.size k i t bd := C5
  have D6 := C6
  unfold Pc at D6
  go_wp2
  go_region_held3 (fun w' => w'.cell? ⟨w.heap.size, 0, none⟩ = some (.int .i64 k) ∧ w'.cell? ⟨w.heap.size, 1, none⟩ = some (.int .i64 i) ∧ w'.cell? ⟨w.heap.size, 2, none⟩ = some (.int .i64 t) ∧ w'.cell? ⟨w.heap.size, 3, none⟩ = some (.string bd))
    (with_reducible assumption)
    (first
      | (go_at_call 62; with_reducible refine (praw_any G G H bd _ P6 q1).mono ?_; rintro e w7 ⟨rfl, P7, b7⟩; have C7 := C6.below b7 HG; have D7 := C7; unfold Pc at D7)
      | (go_at_call 48; refine (zeros_any m _ q3).mono ?_; rintro e w8 ⟨rfl, b8⟩; have P8 := P7.below b8; have C8 := C7.below b8 (Nat.lt_trans HG P7.lt); have D8 := C8; unfold Pc at D8)
      | (go_at_call 62; with_reducible refine (praw_any G G _ (bs (zerosL m)) _ P8 q2).mono ?_; rintro e w9 ⟨rfl, P9, b9⟩; have C9 := C8.below b9 HG; have D9 := C9; unfold Pc at D9)
      | (go_at_call 55; with_reducible refine (pend_any G G _ _ P9).mono ?_; rintro e w10 ⟨rfl, hw10⟩; subst hw10))
  have B9 : Below w.heap.size w w10 := below_of b9 (below_of b8 (below_of b7 B5.drew (by omega)) (Nat.le_of_lt (Nat.lt_trans HG P7.lt))) (by omega)
  have HF : Hid (H ++ (bts bd ++ bts (bs (zerosL m))) = frontL ⟨k, i, t, bts bd⟩) := by
    unfold Hid; rw [HH.out, HM.out, bts_bs]; simp [frontL, bts_len]
  have hF : (H ++ (bts bd ++ bts (bs (zerosL m)))).length = 248 := by
    rw [bts_bs, List.length_append, List.length_append, bts_len, hH, HM.out]; simp [zerosL]; omega
  generalize H ++ (bts bd ++ bts (bs (zerosL m))) = F at HF hF
  clear P5 P6 P7 P8 P9 C5 C6 C7 C8 D6 D7 D8 D9 b7 b8 b9 q1 q2 q3 HG hH HH B5
  go_wp2
  have HG : w.heap.size < w10.heap.size := Nat.lt_of_le_of_ne B9.size (by
    intro e
    have := C9.1
    have := block_lt_of_cell this
    simp at this; omega)
  have P0 : PutAt w10.heap.size (w10.alloc (.cells #[.slice none 0 0, .int .i64 0] 100)).drew w10.heap.size [] := (PutAt.new w10 w10.heap.size (Nat.le_refl _)).drew
  have C0 : Pc (w10.alloc (.cells #[.slice none 0 0, .int .i64 0] 100)).drew w.heap.size k i t bd := C9.below (((Below.refl _ w10).alloc (Nat.le_refl _) _).drew) HG
  have B0 : Below w.heap.size w (w10.alloc (.cells #[.slice none 0 0, .int .i64 0] 100)) := B9.alloc B9.size _
  clear C9 B9
  have WG : w10.heap.size < (w10.alloc (.cells #[.slice none 0 0, .int .i64 0] 100)).heap.size := by simp
  generalize w10.alloc (.cells #[.slice none 0 0, .int .i64 0] 100) = W at P0 C0 B0 WG ⊢
  generalize w10.heap.size = G2 at P0 HG WG ⊢
  have D0 := C0
  unfold Pc at D0
  have AB := ((Below.refl W.drew.heap.size W.drew).alloc (Nat.le_refl _) (.cells #[.string (bs F)] 9))
  have P0a : PutAt G2 (W.alloc (.cells #[.string (bs F)] 9)).drew G2 [] := P0.below AB
  have C0a : Pc (W.alloc (.cells #[.string (bs F)] 9)).drew w.heap.size k i t bd := C0.below AB (Nat.lt_trans HG WG)
  have K0 : Blk (W.alloc (.cells #[.string (bs F)] 9)).drew W.heap.size 9 #[.string (bs F)] := Blk.new W _ _
  have D0a := C0a
  unfold Pc at D0a
  have hz : (bs F).size ≤ 140737488351232 := by rw [bs_size]; omega
  have q0 : ([] : List UInt8).length + (bs F).size ≤ 140737488351000 := by rw [bs_size]; simp; omega
  have HO := fun w => of_one (bs F) w hz
  have HO2 := fun A c w => of_at (bs F) A c w hz
  simp only [bts_bs] at HO HO2
  have hcl := crc_lt F
  obtain ⟨c, hc⟩ : ∃ c, c = crc F := ⟨_, rfl⟩
  rw [← hc] at hcl
  simp only [← hc] at HO HO2
  have hwc : IntKind.i64.wrap (c : Int) = (c : Int) := IntWalk.i64_in _ (by omega)
  have HC := Lib.hid hc
  clear hc
  have q1 : ([] ++ bts (bs F)).length ≤ 140737488351000 := by rw [bts_bs]; simp; omega
  have q2 : ([] ++ bts (bs F) ++ lowB c 4).length ≤ 140737488351000 := by rw [bts_bs]; simp [lowB_len]; omega
  go_region_held3 (fun w' => w'.cell? ⟨w.heap.size, 0, none⟩ = some (.int .i64 k) ∧ w'.cell? ⟨w.heap.size, 1, none⟩ = some (.int .i64 i) ∧ w'.cell? ⟨w.heap.size, 2, none⟩ = some (.int .i64 t) ∧ w'.cell? ⟨w.heap.size, 3, none⟩ = some (.string bd))
    (with_reducible assumption)
    (first
      | (go_at_call 62; with_reducible refine (praw_any G2 G2 [] (bs F) _ P0 q0).mono ?_; rintro e w1 ⟨rfl, P1, b1⟩; have C1 := C0.below b1 HG; have A1 := (Below.refl w1.heap.size w1).alloc (Nat.le_refl _) (.cells #[.string (bs F)] 9); have D1 := C1; have C1a := C1.below A1 (Nat.lt_trans HG P1.lt); have D1a := C1a; unfold Pc at D1 D1a; have P1a := P1.below A1)
      | (go_at_call 62; with_reducible refine (praw_keep G2 G2 [] (bs F) _ P0a q0).mono ?_; rintro e w1 ⟨rfl, P1, b1, k1⟩; have C1 := C0a.below b1 HG; have D1 := C1; unfold Pc at D1; have R1 : Rd w1 (some ⟨W.heap.size, 0, none⟩) [.string (bs F)] := Rd.row (by intro j x hx; rw [Nat.zero_add, (k1 _ _ _ K0 (by decide) (by decide)).cell]; simpa using hx))
      | (go_at_call 63; refine (HO2 _ _ _ R1).mono ?_; rintro e w2 ⟨rfl, b2⟩; have C2 := C1.below b2 (Nat.lt_trans HG P1.lt); have D2 := C2; unfold Pc at D2; have P2 := P1.below b2)
      | (go_at_call 63; refine (HO _).mono ?_; rintro e w2 ⟨rfl, b2⟩; have C2 := C1.below b2 (Nat.lt_trans HG P1.lt); have D2 := C2; unfold Pc at D2; have P2 := P1.below b2)
      | (go_at_call 61; with_reducible refine (pword_any G2 G2 _ c _ P2 hcl q1).mono ?_; rintro e w3 ⟨rfl, P3, b3⟩; have C3 := C2.below b3 HG; have D3 := C3; unfold Pc at D3)
      | (go_at_call 61; with_reducible refine (pword_any G2 G2 _ tl _ P3 htl2 q2).mono ?_; rintro e w4 ⟨rfl, P4, b4⟩; have C4 := C3.below b4 HG; have D4 := C4; unfold Pc at D4)
      | (go_at_call 55; with_reducible refine (pend_any G2 G2 _ _ P4).mono ?_; rintro e w5 ⟨rfl, hw5⟩; subst hw5))
  all_goals
    go_wp2
    go_ret
    have BE : Below w.heap.size w w1 := by
      first
        | exact below_of b1 B0.drew (by omega)
        | exact below_of b1 (B0.alloc B0.size _).drew (by omega)
    refine ⟨?_, below_of b4 (below_of b3 (below_of b2 BE (by have := BE.size; omega)) (by omega)) (by omega)⟩
    have e : bts (bs F) ++ (lowB c 4 ++ lowB tl 4) = layL ⟨k, i, t, bts bd⟩ := by
      rw [bts_bs, HC.out, HTL.out, HF.out]; rfl
    rw [← e]; rfl
end Go.Proofs.Ytkgcihhpcbodnaa
