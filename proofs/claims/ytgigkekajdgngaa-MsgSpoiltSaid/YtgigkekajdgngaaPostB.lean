/-
  A message without entries, laid. Conditions: a right message.
-/
import Derived.Test.YtgigkekajdgngaaPostA
namespace Go.Proofs.Ytgigkekajdgngaa
open Go Go.RowKit
attribute [local go_sem] cell_set_if

def numsB (ns : List Nat) : List UInt8 := ns.flatMap fun v => lowB v 4
theorem numsB_len (ns : List Nat) : (numsB ns).length = ns.length * 4 := by
  induction ns with
  | nil => rfl
  | cons v ns ih => show (lowB v 4 ++ numsB ns).length = _; rw [List.length_append, ih, lowB_len, List.length_cons]; omega
theorem numsB_take {ns : List Nat} {k v : Nat} (h : ns[k]? = some v) : numsB (ns.take (k + 1)) = numsB (ns.take k) ++ lowB v 4 := by
  unfold numsB; rw [List.take_add_one, h, List.flatMap_append]; simp
/-- A message's bytes up to its entries. -/
def headM (kind : Nat) (ns : List Nat) (ok : Bool) (txt : ByteArray) (ne : Nat) : List UInt8 := lowB kind 1 ++ numsB ns ++ lowB (if ok then 1 else 0) 1 ++ (lowB txt.size 2 ++ bts txt) ++ lowB ne 1
def msgV (kind : Int) (a b c d r : Int) (ok : Bool) (txt : ByteArray) (E : Value) : Value := .agg #[.int .i64 kind, .int .i64 a, .int .i64 b, .int .i64 c, .int .i64 d, .int .i64 r, .bool ok, .string txt, E]
theorem ptext_ok (base g : Nat) (l : List UInt8) (t : ByteArray) (w : World) (h : PutAt base w g l) (ht : t.size ≤ 65535) (hl : l.length + t.size ≤ 140737488350000) :
    Calls Try.prog 18 #[ptr g, .string t] w fun e w' => e = .returned (ptr g) ∧ PutAt base w' g (l ++ (lowB t.size 2 ++ bts t)) ∧ Below base w w' := by
  refine (ptext_s base g (l, 0) t w h.s hl).mono fun e w' ⟨h1, h2, h3⟩ => ⟨h1, ?_, h3⟩
  have e1 : putText (bts t) (l, 0) = (l ++ (lowB t.size 2 ++ bts t), 0) := by
    unfold putText
    rw [if_pos rfl, bts_len, if_neg (by omega)]
    show (l ++ lowB t.size 2 ++ bts t, (0 : Int)) = _
    rw [List.append_assoc]
  rw [e1] at h2
  exact h2.at0
set_option maxRecDepth 100000 in
set_option maxHeartbeats 8000000 in
theorem lay0_any (kind a b c d r : Nat) (ok : Bool) (txt : ByteArray) (w : World) (hk : 1 ≤ kind ∧ kind ≤ 9) (ha : a ≤ 2147483647) (hb : b ≤ 2147483647) (hc : c ≤ 2147483647) (hd : d ≤ 2147483647) (hr : r ≤ 2147483647) (ht : txt.size ≤ 1000) :
    Calls Try.prog 6 #[msgV kind a b c d r ok txt (.slice none 0 0)] w fun e w' => e = .returned (.tuple #[.string (sealB (bs (headM kind [a, b, c, d, r] ok txt 0))), .int .i64 0]) ∧ Below w.heap.size w w' := by
  obtain ⟨ns, hns⟩ : ∃ ns, ns = [a, b, c, d, r] := ⟨_, rfl⟩
  have hz : ([(a : Int), b, c, d, r] : List Int) = ns.map (fun v : Nat => (v : Int)) := by rw [hns]; rfl
  have hnl : ns.length = 5 := by rw [hns]; rfl
  have hall : ∀ v ∈ ns, v ≤ 2147483647 := fun v hv => by
    rw [hns] at hv; simp at hv
    rcases hv with rfl | rfl | rfl | rfl | rfl <;> assumption
  have hmn : ∀ m : Int, m ∈ ([(a : Int), b, c, d, r] : List Int) → 0 ≤ m ∧ m ≤ 2147483647 := fun m hm => by
    rw [hz] at hm
    obtain ⟨v, hv, rfl⟩ := List.mem_map.1 hm
    have := hall v hv
    omega
  have HMN := Lib.hid hmn
  have HALL := Lib.hid hall
  have HNL := Lib.hid hnl
  have HZ := Lib.hid hz
  have hts : (txt.size : Int) ≤ 1000 := by omega
  have hk1 : 1 ≤ (kind : Int) := by omega
  have hk9 : (kind : Int) ≤ 9 := by omega
  rw [← hns]
  obtain ⟨S, hS⟩ : ∃ S, S = headM kind ns ok txt 0 := ⟨_, rfl⟩
  rw [← hS]
  have HS := Lib.hid hS
  have hSl : S.length ≤ 2000 := by
    rw [hS]; unfold headM
    simp only [List.length_append, numsB_len, lowB_len, bts_len, hnl]; omega
  have HSL := Lib.hid hSl
  clear hmn hall hz hns hS hSl hnl
  have ba : Below w.heap.size w (w.alloc (.cells #[.int .i64 kind, .int .i64 a, .int .i64 b, .int .i64 c, .int .i64 d, .int .i64 r, .bool ok, .string txt, .slice none 0 0] 24)) := (Below.refl _ _).alloc (Nat.le_refl _) _
  have KM := Blk.new w 24 #[.int .i64 kind, .int .i64 a, .int .i64 b, .int .i64 c, .int .i64 d, .int .i64 r, .bool ok, .string txt, .slice none 0 0]
  unfold msgV
  go_enter Try.func6, Try.ntmps6
  go_upto_region 1 with fail
  obtain ⟨gm, hgm⟩ : ∃ gm, gm = w.heap.size := ⟨_, rfl⟩
  rw [← hgm] at KM ⊢
  generalize w.alloc (.cells #[.int .i64 kind, .int .i64 a, .int .i64 b, .int .i64 c, .int .i64 d, .int .i64 r, .bool ok, .string txt, .slice none 0 0] 24) = W at ba KM ⊢
  have HGM := Lib.hid hgm
  clear hgm
  have m0 : W.cell? ⟨gm, 0, none⟩ = some (.int .i64 kind) := KM.cell 0
  have m1 : W.cell? ⟨gm, 1, none⟩ = some (.int .i64 a) := KM.cell 1
  have m2 : W.cell? ⟨gm, 2, none⟩ = some (.int .i64 b) := KM.cell 2
  have m3 : W.cell? ⟨gm, 3, none⟩ = some (.int .i64 c) := KM.cell 3
  have m4 : W.cell? ⟨gm, 4, none⟩ = some (.int .i64 d) := KM.cell 4
  have m5 : W.cell? ⟨gm, 5, none⟩ = some (.int .i64 r) := KM.cell 5
  go_upto_region 2 with fail
  have KN := Blk.new W 3 #[.int .i64 a, .int .i64 b, .int .i64 c, .int .i64 d, .int .i64 r]
  have ban : Below W.heap.size W (W.alloc (.cells #[.int .i64 a, .int .i64 b, .int .i64 c, .int .i64 d, .int .i64 r] 3)) := (Below.refl _ _).alloc (Nat.le_refl _) _
  have KM2 := KM.below ban
  have RNm : Rd (W.alloc (.cells #[.int .i64 a, .int .i64 b, .int .i64 c, .int .i64 d, .int .i64 r] 3)) (some ⟨W.heap.size, 0, none⟩) (flatZ [(a : Int), b, c, d, r]) := Rd.new W #[.int .i64 a, .int .i64 b, .int .i64 c, .int .i64 d, .int .i64 r] 3
  have BW := ba.trans (ban.mono ba.size)
  obtain ⟨gn, hgn⟩ : ∃ gn, gn = W.heap.size := ⟨_, rfl⟩
  rw [← hgn] at KN RNm ⊢
  generalize W.alloc (.cells #[.int .i64 a, .int .i64 b, .int .i64 c, .int .i64 d, .int .i64 r] 3) = V at KN KM2 RNm BW ⊢
  have HGN := Lib.hid hgn
  clear hgn
  clear m0 m1 m2 m3 m4 m5 ba ban KM
  have m0 : V.cell? ⟨gm, 0, none⟩ = some (.int .i64 kind) := KM2.cell 0
  have m7 : V.cell? ⟨gm, 7, none⟩ = some (.string txt) := KM2.cell 7
  have m8 : V.cell? ⟨gm, 8, none⟩ = some (.slice none 0 0) := KM2.cell 8
  have HMI := Lib.hid (smin_any gn 5 5 [(a : Int), b, c, d, r] V RNm rfl (by omega) (by omega))
  have HMA := Lib.hid (smax_any gn 5 5 [(a : Int), b, c, d, r] V RNm rfl (by omega) (by omega))
  go_upto_region 4 with (first
    | (go_at_call 14; refine HMI.out.mono ?_; rintro e w1 ⟨⟨mn, rfl, hmm, _⟩, hw1⟩; obtain rfl := hw1.symm; have hmn0 := (HMN.out mn hmm).1)
    | (go_at_call 15; refine HMA.out.mono ?_; rintro e w1 ⟨⟨mx, rfl, hmm, _⟩, hw1⟩; obtain rfl := hw1.symm; have hmx0 := (HMN.out mx hmm).2))
  have hgmV := KM2.lt
  have HKM := Lib.hid KM2
  have HRN := Lib.hid RNm
  have HBW := Lib.hid BW
  have bap : Below V.heap.size V (V.alloc (.cells #[.slice none 0 0, .int .i64 0] 53)) := (Below.refl _ _).alloc (Nat.le_refl _) _
  have P0 : PutAt V.heap.size (V.alloc (.cells #[.slice none 0 0, .int .i64 0] 53)) V.heap.size [] := ⟨Nat.le_refl _, _, Blk.new _ _ _, World.ownsRow_nil _ _ _ _⟩
  have HPB := Lib.hid (pbyte_any V.heap.size V.heap.size [] kind _ P0 (by omega) (by simp))
  have HBP := Lib.hid bap
  clear KM2 RNm BW KN HMI HMA P0 bap m7 m8
  go_wp2_with (go_at_call 16; refine HPB.out.mono ?_; rintro e w2 ⟨rfl, P2, b2⟩)
  obtain ⟨gp, hgp⟩ : ∃ gp, gp = V.heap.size := ⟨_, rfl⟩
  have B2 : Below V.heap.size V w2 := HBP.out.trans b2
  rw [← hgp] at P2 B2 ⊢
  have HGP := Lib.hid hgp
  have HP2 := Lib.hid P2
  have HB2 := Lib.hid B2
  clear hgp P2 B2 b2 HPB HBP
  go_loopw [7, 63] (fun _ u63 wr => ∃ k : Nat, k ≤ 5 ∧ u63 = .int .i64 k ∧ Hid (PutAt gp wr gp (lowB kind 1 ++ numsB (ns.take k))) ∧ Hid (Below gp V wr)) (fun _ u63 _ => 5 - (intOf u63).toNat)
  case atStart => exact ⟨0, by omega, rfl, by (have e : numsB (ns.take 0) = [] := by simp [numsB]); rw [e, List.append_nil]; exact HP2.out, HB2.out⟩
  case round =>
    clear HP2 HB2
    obtain ⟨k, hk5, rfl, HP, HB⟩ := hrel
    by_cases hlt : k < 5
    · have hki : (k : Int) < 5 := by omega
      obtain ⟨b1, o1, x, e1, hbl, hx, d0⟩ := HRN.out.num (k := k) hlt
      injection e1 with e1
      injection e1 with e1 e2
      subst e1 e2
      rw [Nat.zero_add] at d0
      have d1 : wr.cell? ⟨gn, k, none⟩ = some (.int .i64 x) := (HB.out.cell (p := ⟨gn, k, none⟩) (by have := HGP.out; show gn < gp; omega)).trans d0
      rw [HZ.out, List.getElem?_map] at hx
      obtain ⟨v, hv⟩ : ∃ v, ns[k]? = some v := ⟨_, List.getElem?_eq_getElem (by have := HNL.out; omega)⟩
      rw [hv] at hx
      have hxv : x = (v : Int) := (Option.some.inj hx).symm
      subst hxv
      have hv2 := HALL.out v (List.mem_of_getElem? hv)
      have HW := Lib.hid (pword_any gp gp _ v wr HP.out (by omega) (by
        simp only [List.length_append, numsB_len, lowB_len, List.length_take]; omega))
      have HV := Lib.hid (numsB_take hv)
      clear hx hv hbl d0
      go_wp2_with (go_at_call 17; with_reducible refine HW.out.mono ?_; rintro e w3 ⟨rfl, P3, b3⟩; have HP3 := Lib.hid P3; have HB3 := Lib.hid (HB.out.trans b3))
      go_roundw
      case rel => exact ⟨k + 1, by omega, by go_num, by rw [HV.out, ← List.append_assoc]; exact HP3.out, HB3.out⟩
      case measure => simp [intOf]; omega
    · obtain rfl : k = 5 := by omega
      have ht5 : ns.take 5 = ns := by rw [← HNL.out, List.take_length]
      have hP := HP.out
      rw [ht5] at hP
      have HP := Lib.hid hP
      have hc : ∀ i, wr.cell? ⟨gm, i, none⟩ = V.cell? ⟨gm, i, none⟩ := fun i => HB.out.cell (p := ⟨gm, i, none⟩) (by have := HGP.out; have := HKM.out.lt; show gm < gp; omega)
      have m6 : wr.cell? ⟨gm, 6, none⟩ = some (.bool ok) := (hc 6).trans (HKM.out.cell 6)
      have m7 : wr.cell? ⟨gm, 7, none⟩ = some (.string txt) := (hc 7).trans (HKM.out.cell 7)
      have m8 : wr.cell? ⟨gm, 8, none⟩ = some (.slice none 0 0) := (hc 8).trans (HKM.out.cell 8)
      have hmp : gm < gp := by have := HGP.out; have := HKM.out.lt; omega
      clear ht5 hP hlt hk5 m0 hc
      cases ok
      · have hP1 : PutAt gp wr.drew gp (lowB kind 1 ++ numsB ns) := HP.out.below (Below.refl _ _).drew
        have hC1 : Calls Try.prog 16 #[ptr gp, .int .i64 0] wr.drew fun e w' => e = .returned (ptr gp) ∧ PutAt gp w' gp (lowB kind 1 ++ numsB ns ++ lowB 0 1) ∧ Below gp wr.drew w' := pbyte_any gp gp _ 0 wr.drew hP1 (by omega) (by simp only [List.length_append, numsB_len, lowB_len, HNL.out]; omega)
        have HC1 := Lib.hid hC1
        have HBD : Hid (Below gp V wr.drew) := HB.out.drew
        clear hC1 hP1
        go_wp2
        go_region_held3 (fun W => W.cell? ⟨gm, 7, none⟩ = some (.string txt) ∧ W.cell? ⟨gm, 8, none⟩ = some (.slice none 0 0)) (first | exact ⟨m7, m8⟩ | with_reducible assumption)
          (first
            | (go_at_call 16; with_reducible refine HC3.out.mono ?_; rintro e w5 ⟨rfl, P5, b5⟩
               have HP5 := Lib.hid P5
               have HB5 := Lib.hid (HB4.out.trans b5)
               have S5 : w5.cell? ⟨gm, 7, none⟩ = some (.string txt) ∧ w5.cell? ⟨gm, 8, none⟩ = some (.slice none 0 0) := ⟨(b5.cell (p := ⟨gm, 7, none⟩) hmp).trans S4.1, (b5.cell (p := ⟨gm, 8, none⟩) hmp).trans S4.2⟩)
            | (go_at_call 18; with_reducible refine HC2.out.mono ?_; rintro e w4 ⟨rfl, P4, b4⟩
               have HB4 := Lib.hid (HB3.out.trans b4)
               have S4 : w4.cell? ⟨gm, 7, none⟩ = some (.string txt) ∧ w4.cell? ⟨gm, 8, none⟩ = some (.slice none 0 0) := ⟨(b4.cell (p := ⟨gm, 7, none⟩) hmp).trans S3.1, (b4.cell (p := ⟨gm, 8, none⟩) hmp).trans S3.2⟩
               have hC3 : Calls Try.prog 16 #[ptr gp, .int .i64 0] w4 fun e w' => e = .returned (ptr gp) ∧ PutAt gp w' gp (lowB kind 1 ++ numsB ns ++ lowB 0 1 ++ (lowB txt.size 2 ++ bts txt) ++ lowB 0 1) ∧ Below gp w4 w' := pbyte_any gp gp _ 0 w4 P4 (by omega) (by simp only [List.length_append, numsB_len, lowB_len, bts_len, HNL.out]; omega)
               have HC3 := Lib.hid hC3
               clear hC3)
            | (go_at_call 16; with_reducible refine HC1.out.mono ?_; rintro e w3 ⟨rfl, P3, b3⟩
               have HB3 := Lib.hid (HBD.out.trans b3)
               have S3 : w3.cell? ⟨gm, 7, none⟩ = some (.string txt) ∧ w3.cell? ⟨gm, 8, none⟩ = some (.slice none 0 0) := ⟨(b3.cell (p := ⟨gm, 7, none⟩) hmp).trans m7, (b3.cell (p := ⟨gm, 8, none⟩) hmp).trans m8⟩
               have HC2 := Lib.hid (ptext_ok gp gp _ txt w3 P3 (by omega) (by simp only [List.length_append, numsB_len, lowB_len, HNL.out]; omega))))
        have s8 := S5.2
        have HSE : Hid (lowB kind 1 ++ numsB ns ++ lowB 0 1 ++ (lowB txt.size 2 ++ bts txt) ++ lowB 0 1 = S) := HS.out.symm
        have hP5 := HP5.out
        rw [HSE.out] at hP5
        have HE := Lib.hid (pend_any gp gp S w5 hP5)
        have HSL2 := Lib.hid (seal_any (bs S) w5 (by rw [bs_size]; have := HSL.out; omega))
        clear m7 m8 hP5 S5
        go_wp2
        go_loopw [86] (fun u86 wr => u86 = .int .i64 0 ∧ wr = w5) (fun _ _ => 0)
        case atStart => exact ⟨rfl, rfl⟩
        case round =>
          obtain ⟨rfl, rfl⟩ := hrel
          go_wp2_with (first
            | (go_at_call 20; with_reducible refine HE.out.mono ?_; rintro e w6 ⟨rfl, hw6⟩; obtain rfl := hw6.symm)
            | (go_at_call 21; with_reducible refine HSL2.out.mono ?_; rintro e w7 ⟨rfl, b7⟩))
          go_ret2
          exact ⟨rfl, (HBW.out.trans (HB5.out.mono (by have := HGP.out; have := HBW.out.size; omega))).trans (b7.mono (HBW.out.trans (HB5.out.mono (by have := HGP.out; have := HBW.out.size; omega))).size)⟩
      · have hP1 : PutAt gp wr.drew gp (lowB kind 1 ++ numsB ns) := HP.out.below (Below.refl _ _).drew
        have hC1 : Calls Try.prog 16 #[ptr gp, .int .i64 1] wr.drew fun e w' => e = .returned (ptr gp) ∧ PutAt gp w' gp (lowB kind 1 ++ numsB ns ++ lowB 1 1) ∧ Below gp wr.drew w' := pbyte_any gp gp _ 1 wr.drew hP1 (by omega) (by simp only [List.length_append, numsB_len, lowB_len, HNL.out]; omega)
        have HC1 := Lib.hid hC1
        have HBD : Hid (Below gp V wr.drew) := HB.out.drew
        clear hC1 hP1
        go_wp2
        go_region_held3 (fun W => W.cell? ⟨gm, 7, none⟩ = some (.string txt) ∧ W.cell? ⟨gm, 8, none⟩ = some (.slice none 0 0)) (first | exact ⟨m7, m8⟩ | with_reducible assumption)
          (first
            | (go_at_call 16; with_reducible refine HC3.out.mono ?_; rintro e w5 ⟨rfl, P5, b5⟩
               have HP5 := Lib.hid P5
               have HB5 := Lib.hid (HB4.out.trans b5)
               have S5 : w5.cell? ⟨gm, 7, none⟩ = some (.string txt) ∧ w5.cell? ⟨gm, 8, none⟩ = some (.slice none 0 0) := ⟨(b5.cell (p := ⟨gm, 7, none⟩) hmp).trans S4.1, (b5.cell (p := ⟨gm, 8, none⟩) hmp).trans S4.2⟩)
            | (go_at_call 18; with_reducible refine HC2.out.mono ?_; rintro e w4 ⟨rfl, P4, b4⟩
               have HB4 := Lib.hid (HB3.out.trans b4)
               have S4 : w4.cell? ⟨gm, 7, none⟩ = some (.string txt) ∧ w4.cell? ⟨gm, 8, none⟩ = some (.slice none 0 0) := ⟨(b4.cell (p := ⟨gm, 7, none⟩) hmp).trans S3.1, (b4.cell (p := ⟨gm, 8, none⟩) hmp).trans S3.2⟩
               have hC3 : Calls Try.prog 16 #[ptr gp, .int .i64 0] w4 fun e w' => e = .returned (ptr gp) ∧ PutAt gp w' gp (lowB kind 1 ++ numsB ns ++ lowB 1 1 ++ (lowB txt.size 2 ++ bts txt) ++ lowB 0 1) ∧ Below gp w4 w' := pbyte_any gp gp _ 0 w4 P4 (by omega) (by simp only [List.length_append, numsB_len, lowB_len, bts_len, HNL.out]; omega)
               have HC3 := Lib.hid hC3
               clear hC3)
            | (go_at_call 16; with_reducible refine HC1.out.mono ?_; rintro e w3 ⟨rfl, P3, b3⟩
               have HB3 := Lib.hid (HBD.out.trans b3)
               have S3 : w3.cell? ⟨gm, 7, none⟩ = some (.string txt) ∧ w3.cell? ⟨gm, 8, none⟩ = some (.slice none 0 0) := ⟨(b3.cell (p := ⟨gm, 7, none⟩) hmp).trans m7, (b3.cell (p := ⟨gm, 8, none⟩) hmp).trans m8⟩
               have HC2 := Lib.hid (ptext_ok gp gp _ txt w3 P3 (by omega) (by simp only [List.length_append, numsB_len, lowB_len, HNL.out]; omega))))
        have s8 := S5.2
        have HSE : Hid (lowB kind 1 ++ numsB ns ++ lowB 1 1 ++ (lowB txt.size 2 ++ bts txt) ++ lowB 0 1 = S) := HS.out.symm
        have hP5 := HP5.out
        rw [HSE.out] at hP5
        have HE := Lib.hid (pend_any gp gp S w5 hP5)
        have HSL2 := Lib.hid (seal_any (bs S) w5 (by rw [bs_size]; have := HSL.out; omega))
        clear m7 m8 hP5 S5
        go_wp2
        go_loopw [86] (fun u86 wr => u86 = .int .i64 0 ∧ wr = w5) (fun _ _ => 0)
        case atStart => exact ⟨rfl, rfl⟩
        case round =>
          obtain ⟨rfl, rfl⟩ := hrel
          go_wp2_with (first
            | (go_at_call 20; with_reducible refine HE.out.mono ?_; rintro e w6 ⟨rfl, hw6⟩; obtain rfl := hw6.symm)
            | (go_at_call 21; with_reducible refine HSL2.out.mono ?_; rintro e w7 ⟨rfl, b7⟩))
          go_ret2
          exact ⟨rfl, (HBW.out.trans (HB5.out.mono (by have := HGP.out; have := HBW.out.size; omega))).trans (b7.mono (HBW.out.trans (HB5.out.mono (by have := HGP.out; have := HBW.out.size; omega))).size)⟩
end Go.Proofs.Ytgigkekajdgngaa
