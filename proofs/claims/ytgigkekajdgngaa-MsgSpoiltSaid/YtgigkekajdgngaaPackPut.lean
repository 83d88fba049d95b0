/-
  What the methods of pack.Put do with a Put of the call's own that bears no error. Conditions: no more bytes than memory holds; numbers that fit.
-/
import Derived.Test.YtgigkekajdgngaaSumRef
import Derived.Test.YtgigkekajdgngaaStepApp
namespace Go.Proofs.Ytgigkekajdgngaa
open Go Go.RowKit
attribute [local go_sem] cell_set_if

abbrev ptr (g : Nat) : Value := .pointer (some ⟨g, 0, none⟩)
/-- A Put of the call's own that bears these bytes and no error. -/
structure PutAt (base : Nat) (w : World) (g : Nat) (l : List UInt8) : Prop where
  lo : base ≤ g
  at_ : ∃ v, Blk w g 53 #[v, .int .i64 0] ∧ w.ownsRow base 5 1 v l.length (u8s l)
theorem PutAt.lt {base g : Nat} {w : World} {l : List UInt8} (h : PutAt base w g l) : g < w.heap.size := by
  obtain ⟨_, v, hB, _⟩ := h; exact hB.lt
theorem PutAt.drewN {base g : Nat} {w : World} {l : List UInt8} (h : PutAt base w g l) (n : Nat) : PutAt base (w.drewN n) g l := by
  obtain ⟨h1, v, hB, hO⟩ := h; exact ⟨h1, v, hB.drewN n, hO⟩
/-- Others' doing above it leaves it. -/
theorem PutAt.below {base g : Nat} {w w' : World} {l : List UInt8} (h : PutAt base w g l) (hb : Below w.heap.size w w') : PutAt base w' g l := by
  obtain ⟨h1, v, hB, hO⟩ := h
  exact ⟨h1, v, hB.below hb, own_frm hO (Frm.of_below hb (S := no)) fun _ _ h => h⟩

theorem Blk.grown {w w' : World} {g : Nat} {t : TypeId} {cs : Array Value} {row : Option Nat} (h : Blk w g t cs) (hg : w.grownBy w' row) (hne : row ≠ some g) : Blk w' g t cs := (hg.block g h.lt (Ne.symm hne)).trans h
theorem byte_at {v : Nat} (k : Nat) (hk : k < 8) (_hv : v < 18446744073709551616) : IntKind.u8.wrap ((v : Int) / 2 ^ (8 * (k : Int)).toNat) = ((UInt8.ofNat (v / 256 ^ k)).toNat : Int) := by
  have e : (8 * (k : Int)).toNat = 8 * k := by omega
  have e2 : (2 : Int) ^ (8 * k) = ((256 ^ k : Nat) : Int) := by rw [Int.pow_mul]; simp
  rw [e, e2]
  rcases k with _ | _ | _ | _ | _ | _ | _ | _ | k <;> first | omega | (simp [IntKind.wrap, IntKind.bits, IntKind.signed]; try omega)

theorem own_set {w : World} {g base n : Nat} {t e : TypeId} {cs : Array Value} {v : Value} {xs : List Value} {size : Nat} (hB : Blk w g t cs) (hO : w.ownsRow base e size v n xs) (hne : e ≠ t) {i : Nat} (u : Value) : (w.setCell ⟨g, i, none⟩ u).ownsRow base e size v n xs :=
  own_frm hO ((Frm.refl (at1 g) w).setCell (p := ⟨g, i, none⟩) (fun _ => rfl) u) fun k hk he => (Blk.own_ne hB hO hne) (by unfold at1 at he; rw [hk, he])

/-- All that lies below a block number stands, and every block that is no writer and no bytes. -/
def BK (base : Nat) (w w' : World) : Prop := Below base w w' ∧ ∀ q t cs, Blk w q t cs → t ≠ 53 → t ≠ 5 → Blk w' q t cs
theorem BK.refl (base : Nat) (w : World) : BK base w w := ⟨Below.refl _ _, fun _ _ _ h _ _ => h⟩
theorem BK.trans {base : Nat} {a b c : World} (h : BK base a b) (k : BK base b c) : BK base a c := ⟨h.1.trans k.1, fun q t cs hq h1 h2 => k.2 q t cs (h.2 q t cs hq h1 h2) h1 h2⟩
set_option maxHeartbeats 1000000 in
theorem putlow_keep (base g : Nat) (l : List UInt8) (v n : Nat) (w : World) (h : PutAt base w g l) (hv : v < 18446744073709551616) (hn : n ≤ 8) (hl : l.length + n ≤ 140737488351232) :
    Calls Try.prog 49 #[ptr g, .int .u64 v, .int .i64 n] w fun e w' => e = .returned (ptr g) ∧ PutAt base w' g (l ++ lowB v n) ∧ BK base w w' := by
  obtain ⟨i0, hi0, hz0, hz1, hz2⟩ := info_parts u8info
  obtain ⟨hlo, v0, hB, hO⟩ := h
  have hsz : base ≤ w.heap.size := by have := hB.lt; omega
  go_enter Try.func49, Try.ntmps49
  go_wp2
  go_loopw [7, 9] (fun u7 u9 wr => ∃ (k : Nat) (vk : Value), k ≤ n ∧ u9 = .int .i64 k ∧ Blk wr g 53 #[vk, .int .i64 0] ∧ wr.ownsRow base 5 1 vk (l.length + k) (u8s (l ++ lowB v k)) ∧ BK base w wr) (fun _ u9 _ => n - (intOf u9).toNat)
  case atStart => exact ⟨0, v0, by omega, rfl, hB, by simpa [lowB] using hO, BK.refl _ _⟩
  case round =>
    obtain ⟨k, vk, hk, rfl, hBk, hOk, hb, hkp⟩ := hrel
    have HKP := Lib.hid hkp
    clear hkp
    by_cases hlt : k < n
    · have c0 : wr.cell? ⟨g, 0, none⟩ = some vk := by rw [hBk.cell 0]; rfl
      have c0a : (wr.alloc (.cells #[.int .u8 (IntKind.u8.wrap ((v : Int) / 2 ^ (8 * (k : Int)).toNat))] 5)).cell? ⟨g, 0, none⟩ = some vk := by rw [(hBk.alloc _).cell 0]; rfl
      have HS := Lib.hid (lowB_snoc v k)
      have hq : v / 256 ^ k < 18446744073709551616 := Nat.lt_of_le_of_lt (Nat.div_le_self _ _) hv
      have hne := Blk.own_ne hBk hOk (by decide)
      have hw : IntKind.i64.wrap (8 * (k : Int)) = 8 * (k : Int) := IntWalk.i64_in _ (by omega)
      have hw0 : (0 : Int) ≤ 8 * (k : Int) := by omega
      go_wp2
      go_region_law (first
        | (refine step_app rfl (.tmp 16) (.tmp 22) 30 rfl base 5 i0 _ 1 1 Try.underlying30 hi0 hz0 hz1 hz2 rfl (by omega) vk (l.length + k) _ rfl (hOk.alloc _) _ 1 1 [.int .u8 (IntKind.u8.wrap ((v : Int) / 2 ^ (8 * (k : Int)).toNat))] rfl (by exact Rd.one _ _ _) rfl (one_int _ _) (by unfold maxLen; omega) (by omega) (by have := hb.size; simp; omega) ?_
           intro v1 w1 hown1 hg1 hb1 hat1
           obtain ⟨A1, cp1, rfl, hcp1⟩ := own_form hown1
           have hB1 := ((hBk.alloc (.cells #[.int .u8 (IntKind.u8.wrap ((v : Int) / 2 ^ (8 * (k : Int)).toNat))] 5)).drew).grown hg1 hne
           have c1 := hB1.cell 0
           have f1 := hB1.free 0))
      all_goals
        have HW := Lib.hid (byte_at k (by omega) hv)
        go_wp2
        go_roundw
        case rel =>
          refine ⟨k + 1, _, by omega, by go_num, hB1.set_ 0 _, ?_, ((((hb.alloc (by have := hb.size; omega) _).drew).trans hb1).setCell hlo _), fun q t cs hq t1 t2 => ((((HKP.out q t cs hq t1 t2).alloc _).drew).grown hg1 (Blk.own_ne (HKP.out q t cs hq t1 t2) hOk (Ne.symm t2))).far (by show q ≠ g; exact Blk.ne_ (HKP.out q t cs hq t1 t2) hBk t1) _⟩
          rw [HW.out] at hown1
          rw [HS.out, ← List.append_assoc, show u8s (l ++ lowB v k ++ [UInt8.ofNat (v / 256 ^ k)]) = u8s (l ++ lowB v k) ++ [.int .u8 ((UInt8.ofNat (v / 256 ^ k)).toNat : Int)] by simp [u8s]]
          exact own_set hB1 hown1 (by decide) _
        case measure => simp [intOf]; omega
    · obtain rfl : k = n := by omega
      go_wp2
      go_ret
      exact ⟨rfl, ⟨hlo, vk, hBk, by simpa [lowB_len] using hOk⟩, hb, HKP.out⟩

theorem putlow_any (base g : Nat) (l : List UInt8) (v n : Nat) (w : World) (h : PutAt base w g l) (hv : v < 18446744073709551616) (hn : n ≤ 8) (hl : l.length + n ≤ 140737488351232) :
    Calls Try.prog 49 #[ptr g, .int .u64 v, .int .i64 n] w fun e w' => e = .returned (ptr g) ∧ PutAt base w' g (l ++ lowB v n) ∧ Below base w w' :=
  (putlow_keep base g l v n w h hv hn hl).mono fun _ _ ⟨h1, h2, h3⟩ => ⟨h1, h2, h3.1⟩

set_option maxHeartbeats 1000000 in
theorem small_keep (base g : Nat) (l : List UInt8) (v n : Nat) (w : World) (h : PutAt base w g l) (hn : 1 ≤ n ∧ n ≤ 4) (hv : v < 256 ^ n) (hl : l.length + n ≤ 140737488351232) :
    Calls Try.prog 33 #[ptr g, .int .i64 v, .int .i64 n] w fun e w' => e = .returned (ptr g) ∧ PutAt base w' g (l ++ lowB v n) ∧ BK base w w' := by
  have hv4 : v < 4294967296 := Nat.lt_of_lt_of_le hv (Nat.le_trans (Nat.pow_le_pow_right (by omega) hn.2) (by decide))
  have h' := h
  obtain ⟨hlo, v0, hB, hO⟩ := h'
  have c1 : w.cell? ⟨g, 1, none⟩ = some (.int .i64 0) := by rw [hB.cell 1]; rfl
  have hw : IntKind.i64.wrap (8 * (n : Int)) = 8 * (n : Int) := IntWalk.i64_in _ (by omega)
  have hw0 : (0 : Int) ≤ 8 * (n : Int) := by omega
  have hs0 : (v : Int) / 2 ^ (8 * (n : Int)).toNat = 0 := by
    have e : (8 * (n : Int)).toNat = 8 * n := by omega
    have e2 : (2 : Int) ^ (8 * n) = ((256 ^ n : Nat) : Int) := by rw [Int.pow_mul]; simp
    rw [e, e2]
    exact Int.ediv_eq_zero_of_lt (by omega) (by omega)
  go_enter Try.func33, Try.ntmps33
  go_wp2_with (first
    | (go_at_call 49; refine (putlow_keep base g l v n _ h (by omega) (by omega) hl).mono ?_; rintro e w1 ⟨rfl, q1⟩)
    | go_in)
  go_ret
  exact ⟨rfl, q1⟩
theorem small_any (base g : Nat) (l : List UInt8) (v n : Nat) (w : World) (h : PutAt base w g l) (hn : 1 ≤ n ∧ n ≤ 4) (hv : v < 256 ^ n) (hl : l.length + n ≤ 140737488351232) :
    Calls Try.prog 33 #[ptr g, .int .i64 v, .int .i64 n] w fun e w' => e = .returned (ptr g) ∧ PutAt base w' g (l ++ lowB v n) ∧ Below base w w' :=
  (small_keep base g l v n w h hn hv hl).mono fun _ _ ⟨h1, h2, h3⟩ => ⟨h1, h2, h3.1⟩

theorem pbyte_any (base g : Nat) (l : List UInt8) (v : Nat) (w : World) (h : PutAt base w g l) (hv : v < 256) (hl : l.length ≤ 140737488351000) :
    Calls Try.prog 16 #[ptr g, .int .i64 v] w fun e w' => e = .returned (ptr g) ∧ PutAt base w' g (l ++ lowB v 1) ∧ Below base w w' := by
  go_enter Try.func16, Try.ntmps16
  go_wp2_with (go_at_call 33; refine (small_any base g l v 1 _ h (by omega) (by omega) (by omega)).mono ?_; rintro e w1 ⟨rfl, q1⟩)
  go_ret
  exact ⟨rfl, q1⟩
theorem phalf_any (base g : Nat) (l : List UInt8) (v : Nat) (w : World) (h : PutAt base w g l) (hv : v < 65536) (hl : l.length ≤ 140737488351000) :
    Calls Try.prog 35 #[ptr g, .int .i64 v] w fun e w' => e = .returned (ptr g) ∧ PutAt base w' g (l ++ lowB v 2) ∧ Below base w w' := by
  go_enter Try.func35, Try.ntmps35
  go_wp2_with (go_at_call 33; refine (small_any base g l v 2 _ h (by omega) (by omega) (by omega)).mono ?_; rintro e w1 ⟨rfl, q1⟩)
  go_ret
  exact ⟨rfl, q1⟩
theorem pword_any (base g : Nat) (l : List UInt8) (v : Nat) (w : World) (h : PutAt base w g l) (hv : v < 4294967296) (hl : l.length ≤ 140737488351000) :
    Calls Try.prog 17 #[ptr g, .int .i64 v] w fun e w' => e = .returned (ptr g) ∧ PutAt base w' g (l ++ lowB v 4) ∧ Below base w w' := by
  go_enter Try.func17, Try.ntmps17
  go_wp2_with (go_at_call 33; refine (small_any base g l v 4 _ h (by omega) (by omega) (by omega)).mono ?_; rintro e w1 ⟨rfl, q1⟩)
  go_ret
  exact ⟨rfl, q1⟩
theorem pint_any (base g : Nat) (l : List UInt8) (v : Nat) (w : World) (h : PutAt base w g l) (hv : v < 9223372036854775808) (hl : l.length ≤ 140737488351000) :
    Calls Try.prog 58 #[ptr g, .int .i64 v] w fun e w' => e = .returned (ptr g) ∧ PutAt base w' g (l ++ lowB v 8) ∧ Below base w w' := by
  have h' := h
  obtain ⟨hlo, v0, hB, hO⟩ := h'
  have c1 : w.cell? ⟨g, 1, none⟩ = some (.int .i64 0) := by rw [hB.cell 1]; rfl
  go_enter Try.func58, Try.ntmps58
  go_wp2_with (first
    | (go_at_call 49; refine (putlow_any base g l v 8 _ h (by omega) (by omega) (by omega)).mono ?_; rintro e w1 ⟨rfl, q1⟩)
    | go_in)
  go_ret
  exact ⟨rfl, q1⟩

set_option maxRecDepth 100000 in
theorem praw_keep (base g : Nat) (l : List UInt8) (s : ByteArray) (w : World) (h : PutAt base w g l) (hl : l.length + s.size ≤ 140737488351000) :
    Calls Try.prog 36 #[ptr g, .string s] w fun e w' => e = .returned (ptr g) ∧ PutAt base w' g (l ++ bts s) ∧ Below base w w' ∧ ∀ q t cs, Blk w q t cs → t ≠ 53 → t ≠ 5 → Blk w' q t cs := by
  obtain ⟨i0, hi0, hz0, hz1, hz2⟩ := info_parts u8info
  obtain ⟨hlo, v0, hB, hO⟩ := h
  have hlt := hB.lt
  have hne := Blk.own_ne hB hO (by decide)
  have c1 : w.cell? ⟨g, 1, none⟩ = some (.int .i64 0) := by rw [hB.cell 1]; rfl
  have c0 : w.cell? ⟨g, 0, none⟩ = some v0 := by rw [hB.cell 0]; rfl
  go_enter Try.func36, Try.ntmps36
  go_wp2_with (first
    | (at_builtin
       refine Lib.wpList_append_own_string _ rfl (.tmp 16) (.tmp 17) 30 9 rfl base 5 i0 Try.underlying30 Try.underlying9 hi0 hz0 hz1 hz2 v0 l.length _ rfl hO s rfl (by unfold maxLen; omega) (by omega) (by omega) ?_
       intro v1 w1 hown1 hg1 hat1
       obtain ⟨A1, cp1, rfl, hcp1⟩ := own_form hown1
       have hB1 := hB.grown hg1 hne
       have f1 := hB1.free 0
       have d0 := hB1.cell 0)
    | go_in)
  go_ret
  have hb1 : Below base w w1 := (Below.refl base w).grown hg1 (by omega) fun k hk => (hO.lt k hk).1
  refine ⟨rfl, ⟨hlo, _, hB1.set_ 0 _, ?_⟩, hb1.setCell hlo _, fun q t cs hq ht1 ht2 => (hq.grown hg1 (Blk.own_ne hq hO (Ne.symm ht2))).far (by show q ≠ g; exact Blk.ne_ hq hB ht1) _⟩
  rw [strCells_u8s] at hown1
  rw [List.length_append, bts_len, show u8s (l ++ bts s) = u8s l ++ u8s (bts s) by simp [u8s]]
  exact own_set hB1 hown1 (by decide) _

theorem praw_any (base g : Nat) (l : List UInt8) (s : ByteArray) (w : World) (h : PutAt base w g l) (hl : l.length + s.size ≤ 140737488351000) :
    Calls Try.prog 36 #[ptr g, .string s] w fun e w' => e = .returned (ptr g) ∧ PutAt base w' g (l ++ bts s) ∧ Below base w w' :=
  (praw_keep base g l s w h hl).mono fun _ _ ⟨h1, h2, h3, _⟩ => ⟨h1, h2, h3⟩

theorem pend_any (base g : Nat) (l : List UInt8) (w : World) (h : PutAt base w g l) :
    Calls Try.prog 20 #[ptr g] w fun e w' => e = .returned (.tuple #[str l, .int .i64 0]) ∧ w' = w := by
  obtain ⟨hlo, v0, hB, hO⟩ := h
  have c1 : w.cell? ⟨g, 1, none⟩ = some (.int .i64 0) := by rw [hB.cell 1]; rfl
  have c0 : w.cell? ⟨g, 0, none⟩ = some v0 := by rw [hB.cell 0]; rfl
  obtain ⟨A, c, rfl, hcap⟩ := own_form hO
  have HR := Lib.hid (Rd.of_own hO)
  clear hO
  go_enter Try.func20, Try.ntmps20
  go_wp2_with (refine wpList_bytes_str rfl 30 9 (.tmp 20) rfl 5 Try.underlying30 Try.underlying5 Try.underlying9 _ l.length _ l rfl HR.out rfl ?_)
  go_ret2
  exact ⟨rfl, rfl⟩
end Go.Proofs.Ytgigkekajdgngaa
