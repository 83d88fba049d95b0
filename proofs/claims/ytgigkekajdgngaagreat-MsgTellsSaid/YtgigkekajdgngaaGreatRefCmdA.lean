/-
  The document's requests and entries, laid, or why not. Conditions: commands whose texts are no longer than memory holds.
-/
import Derived.Test.YtgigkekajdgngaaGreatCmdD
import Derived.Test.YtgigkekajdgngaaGreatRefGet
import Derived.Test.YtgigkekajdgngaaGreatMtOne
namespace Go.Proofs.YtgigkekajdgngaaGreat
open Go Go.RowKit
attribute [local go_sem] cell_set_if

set_option maxRecDepth 100000 in
theorem rvalid_any (x : Cm) (w : World) (hs : x.short) : Calls Tryz.prog 141 #[x.v] w fun e w' => e = .returned (.bool (validC x)) ∧ Below w.heap.size w w' := by
  obtain ⟨kind, path, key, val, old⟩ := x
  obtain ⟨s1, s2, s3, s4⟩ := hs
  simp only [] at s1 s2 s3 s4
  unfold maxLen at s1 s2 s3 s4
  have hV : validC ⟨kind, path, key, val, old⟩ = (decide (1 ≤ kind) && decide (kind ≤ 9) && decide ((path.size : Int) ≤ 140) && decide ((key.size : Int) ≤ 3000) && decide ((val.size : Int) ≤ 3000) && decide ((old.size : Int) ≤ 3000)) := by
    rw [Bool.eq_iff_iff]
    simp only [validC, Bool.and_eq_true, decide_eq_true_eq]
    omega
  rw [hV]
  clear hV
  have ba : Below w.heap.size w (w.alloc (.cells #[.int .i64 kind, .string path, .string key, .string val, .string old] 117)) := (Below.refl _ _).alloc (Nat.le_refl _) _
  unfold Cm.v
  go_enter Tryz.func141, Tryz.ntmps141
  by_cases k0 : 1 ≤ kind
  case neg =>
    have d0 : decide (1 ≤ kind) = false := decide_eq_false k0
    simp only [d0, Bool.false_and]
    go_wp2
    go_ret
    exact ⟨rfl, ba⟩
  have d0 : decide (1 ≤ kind) = true := decide_eq_true k0
  rw [d0]
  try rw [Bool.true_and]
  by_cases k1 : kind ≤ 9
  case neg =>
    have d1 : decide (kind ≤ 9) = false := decide_eq_false k1
    simp only [d1, Bool.false_and]
    go_wp2
    go_ret
    exact ⟨rfl, ba⟩
  have d1 : decide (kind ≤ 9) = true := decide_eq_true k1
  rw [d1]
  try rw [Bool.true_and]
  by_cases k2 : (path.size : Int) ≤ 140
  case neg =>
    have d2 : decide ((path.size : Int) ≤ 140) = false := decide_eq_false k2
    simp only [d2, Bool.false_and]
    go_wp2
    go_ret
    exact ⟨rfl, ba⟩
  have d2 : decide ((path.size : Int) ≤ 140) = true := decide_eq_true k2
  rw [d2]
  try rw [Bool.true_and]
  by_cases k3 : (key.size : Int) ≤ 3000
  case neg =>
    have d3 : decide ((key.size : Int) ≤ 3000) = false := decide_eq_false k3
    simp only [d3, Bool.false_and]
    go_wp2
    go_ret
    exact ⟨rfl, ba⟩
  have d3 : decide ((key.size : Int) ≤ 3000) = true := decide_eq_true k3
  rw [d3]
  try rw [Bool.true_and]
  by_cases k4 : (val.size : Int) ≤ 3000
  case neg =>
    have d4 : decide ((val.size : Int) ≤ 3000) = false := decide_eq_false k4
    simp only [d4, Bool.false_and]
    go_wp2
    go_ret
    exact ⟨rfl, ba⟩
  have d4 : decide ((val.size : Int) ≤ 3000) = true := decide_eq_true k4
  rw [d4]
  try rw [Bool.true_and]
  go_wp2
  go_ret
  exact ⟨rfl, ba⟩
theorem rtext19_any (t : ByteArray) (w : World) (h : t.size ≤ 65535) : Calls Tryz.prog 133 #[.string t] w fun e w' => e = .returned (.string (bs (textB t))) ∧ Below w.heap.size w w' := by
  have hr := rtext_yes t w h
  have H : Hid (Calls Tryz.prog 34 #[.string t] w fun e w' => e = .returned (.tuple #[.string (bs (textB t)), .bool true]) ∧ Below w.heap.size w w') := hr.mono fun e w' ⟨⟨T, hT, he⟩, hb⟩ => ⟨by rw [he]; have : T = bs (textB t) := bts_inj (by rw [hT, bts_bs]; rfl); rw [this], hb⟩
  obtain ⟨S, hS⟩ : ∃ S, S = bs (textB t) := ⟨_, rfl⟩
  rw [← hS] at H ⊢
  clear hr hS h
  go_enter Tryz.func133, Tryz.ntmps133
  go_wp2_with (go_at_call 34; with_reducible refine H.out.mono ?_; rintro e w1 ⟨rfl, b1⟩)
  go_ret
  exact ⟨rfl, b1⟩
set_option maxRecDepth 100000 in
set_option maxHeartbeats 4000000 in
theorem rcheck_any (client seq : Int) (A : Option Addr) (n c : Nat) (l : List Cm) (w : World) (hr : Rd w A (flatCm l)) (hn : l.length = n) (hm : n ≤ maxLen) (hS : ∀ x ∈ l, x.short) :
    Calls Tryz.prog 132 #[reqV client seq A n c] w fun e w' => e = .returned (.int .i64 (checkQ client seq l)) ∧ Below w.heap.size w w' := by
  have ba : Below w.heap.size w (w.alloc (.cells #[.int .i64 client, .int .i64 seq, .slice A n c] 59)) := (Below.refl _ _).alloc (Nat.le_refl _) _
  have KM := Blk.new w 59 #[.int .i64 client, .int .i64 seq, .slice A n c]
  have HR := Lib.hid (hr.below ba)
  have HSS := Lib.hid hS
  have hl0 : (l = []) ↔ n = 0 := by rw [← hn, List.length_eq_zero_iff]
  have HN := Lib.hid hn
  obtain ⟨q, hq⟩ : ∃ q, q = checkQ client seq l := ⟨_, rfl⟩
  rw [← hq]
  have hq2 := hq
  unfold checkQ at hq2
  simp only [hl0] at hq2
  rw [hn] at hq2
  have hni : (n : Int) ≤ 9223372036854775807 := by unfold maxLen at hm; omega
  clear hr hS hl0 hn hq
  unfold reqV
  go_enter Tryz.func132, Tryz.ntmps132
  go_upto_region 1 with fail
  obtain ⟨gm, hgm⟩ : ∃ gm, gm = w.heap.size := ⟨_, rfl⟩
  rw [← hgm] at KM ⊢
  have BA := Lib.hid ba
  generalize w.alloc (.cells #[.int .i64 client, .int .i64 seq, .slice A n c] 59) = W at ba BA KM HR ⊢
  clear hgm ba
  have m0 : W.cell? ⟨gm, 0, none⟩ = some (.int .i64 client) := KM.cell 0
  have m1 : W.cell? ⟨gm, 1, none⟩ = some (.int .i64 seq) := KM.cell 1
  have m2 : W.cell? ⟨gm, 2, none⟩ = some (.slice A n c) := KM.cell 2
  by_cases k1 : client < 0
  · have hv : q = 1 := by rw [hq2, if_pos (Or.inl k1)]
    subst hv
    clear hq2
    have d1 : decide (client < 0) = true := decide_eq_true k1
    go_wp2
    go_ret
    exact ⟨rfl, BA.out⟩
  have d1 : decide (client < 0) = false := decide_eq_false k1
  by_cases k2 : 1099511627776 < client
  · have hv : q = 1 := by rw [hq2, if_pos (Or.inr (Or.inl k2))]
    subst hv
    clear hq2
    have d2 : decide (1099511627776 < client) = true := decide_eq_true k2
    go_wp2
    go_ret
    exact ⟨rfl, BA.out⟩
  have d2 : decide (1099511627776 < client) = false := decide_eq_false k2
  by_cases k3 : seq < 0
  · have hv : q = 1 := by rw [hq2, if_pos (Or.inr (Or.inr (Or.inl k3)))]
    subst hv
    clear hq2
    have d3 : decide (seq < 0) = true := decide_eq_true k3
    go_wp2
    go_ret
    exact ⟨rfl, BA.out⟩
  have d3 : decide (seq < 0) = false := decide_eq_false k3
  by_cases k4 : 1099511627776 < seq
  · have hv : q = 1 := by rw [hq2, if_pos (Or.inr (Or.inr (Or.inr (Or.inl k4))))]
    subst hv
    clear hq2
    have d4 : decide (1099511627776 < seq) = true := decide_eq_true k4
    go_wp2
    go_ret
    exact ⟨rfl, BA.out⟩
  have d4 : decide (1099511627776 < seq) = false := decide_eq_false k4
  by_cases k5 : n = 0
  · have hv : q = 1 := by rw [hq2, if_pos (Or.inr (Or.inr (Or.inr (Or.inr k5))))]
    subst hv k5
    clear hq2
    go_wp2
    go_ret
    exact ⟨rfl, BA.out⟩
  have k5i : ¬ (n : Int) = 0 := by omega
  rw [if_neg (by omega)] at hq2
  by_cases k6 : 6 < n
  · have hv : q = 2 := by rw [hq2, if_pos k6]
    subst hv
    have d6 : decide (6 < (n : Int)) = true := decide_eq_true (by omega)
    clear hq2
    go_wp2
    go_ret
    exact ⟨rfl, BA.out⟩
  have d6 : decide (6 < (n : Int)) = false := decide_eq_false (by omega)
  rw [if_neg k6] at hq2
  have HQ2 := Lib.hid hq2
  have HKM := Lib.hid KM
  have h6i : (n : Int) ≤ 6 := by omega
  clear hq2 KM
  go_wp2
  go_loopw [2, 3, 4, 5] (fun u2 u3 u4 _ wr => ∃ k z : Nat, k ≤ n ∧ u2 = .int .i64 0 ∧ u3 = .int .i64 z ∧ u4 = .int .i64 k ∧ z ≤ 60000 ∧ Hid (z = 17 + (cmsB (l.take k)).length) ∧ Hid (∀ x ∈ l.take k, validC x = true) ∧ Hid (Below W.heap.size W wr)) (fun _ _ u4 _ _ => n - (intOf u4).toNat)
  case atStart => exact ⟨0, 17, by omega, rfl, rfl, rfl, by omega, rfl, fun x hx => absurd hx (by simp), Below.refl _ _⟩
  case round =>
    clear m0 m1 m2
    obtain ⟨k, z, hkn, rfl, rfl, rfl, hz6, HZ, HV, HB⟩ := hrel
    have m2 : wr.cell? ⟨gm, 2, none⟩ = some (.slice A n c) := (HKM.out.below HB.out).cell 2
    by_cases hlt : k < n
    · have hki : (k : Int) < (n : Int) := by omega
      obtain ⟨b1, o1, x, rfl, hbl, hx, c0, c1, c2, c3, c4⟩ := (HR.out.below HB.out).cm (k := k) (by have := HN.out; omega)
      have hv := fun W => rvalid_any x W (HSS.out x (List.mem_of_getElem? hx))
      obtain ⟨v, hve⟩ : ∃ v, v = validC x := ⟨_, rfl⟩
      rw [← hve] at hv
      unfold Cm.v at hv
      have HVX := Lib.hid hv
      have HVE := Lib.hid hve
      have HX := Lib.hid hx
      have X0 := Blk.new wr 117 #[.int .i64 x.kind, .string x.path, .string x.key, .string x.val, .string x.old]
      have bx : Below wr.heap.size wr (wr.alloc (.cells #[.int .i64 x.kind, .string x.path, .string x.key, .string x.val, .string x.old] 117)) := (Below.refl _ _).alloc (Nat.le_refl _) _
      clear hv hve hx hbl
      go_upto_region 10 with fail
      have x0 := X0.cell 0
      have x1 := X0.cell 1
      have x2 := X0.cell 2
      have x3 := X0.cell 3
      have x4 := X0.cell 4
      generalize wr.alloc (.cells #[.int .i64 x.kind, .string x.path, .string x.key, .string x.val, .string x.old] 117) = Wx at bx X0 x0 x1 x2 x3 x4 ⊢
      have HX0 := Lib.hid X0
      have HBX := Lib.hid (HB.out.trans (bx.mono HB.out.size))
      clear bx X0 HB
      cases v
      · have hno : l.all validC = false := by
          rw [List.all_eq_false]
          exact ⟨x, List.mem_of_getElem? HX.out, by rw [← HVE.out]; simp⟩
        have hv : q = 1 := by rw [HQ2.out, hno]; rfl
        subst hv
        clear hno
        go_wp2_with (go_at_call 141; (refine (HVX.out _).mono ?_); rintro e w2 ⟨rfl, b2⟩)
        go_ret
        exact ⟨rfl, BA.out.trans ((HBX.out.trans (b2.mono HBX.out.size)).mono BA.out.size)⟩
      · obtain ⟨_, v1, v2, v3, v4⟩ := validC_iff.1 HVE.out.symm
        have HNX : Hid (z + 9 + x.path.size + x.key.size + x.val.size + x.old.size = 17 + (cmsB (l.take (k + 1))).length) := by
          have h1 := congrArg List.length (cmsB_take l k x HX.out)
          rw [List.length_append, cmB_len] at h1
          have h2 := HZ.out
          unfold Hid
          omega
        have HVN : Hid (∀ y ∈ l.take (k + 1), validC y = true) := fun y hy => by
          rw [List.take_add_one, HX.out] at hy
          rcases List.mem_append.1 hy with h | h
          · exact HV.out y h
          · have h' : y = x := by simpa using h
            rw [h']; exact HVE.out.symm
        have hz9 : z + 9 + x.path.size + x.key.size + x.val.size + x.old.size ≤ 60000 := by
          have h1 := cmsB_len HVN.out
          rw [List.length_take] at h1
          have h2 := HNX.out
          omega
        go_wp2_with (go_at_call 141; (refine (HVX.out _).mono ?_); rintro e w2 ⟨rfl, b2⟩
                     have X2 := HX0.out.below b2
                     have y1 := X2.cell 1
                     have y2 := X2.cell 2
                     have y3 := X2.cell 3
                     have y4 := X2.cell 4)
        go_roundw
        case rel => exact ⟨k + 1, z + 9 + x.path.size + x.key.size + x.val.size + x.old.size, by omega, rfl, by go_num, by go_num, hz9, HNX, HVN, HBX.out.trans (b2.mono HBX.out.size)⟩
        case measure => simp [intOf]; omega
    · obtain rfl : k = n := by omega
      have hlt9 : l.take k = l := by rw [← HN.out, List.take_length]
      have hz := HZ.out
      have hV := HV.out
      rw [hlt9] at hz hV
      have hall : l.all validC = true := List.all_eq_true.2 hV
      have hq := HQ2.out
      rw [hall, if_pos rfl, reqB_len, ← hz] at hq
      have BB := BA.out.trans (HB.out.mono BA.out.size)
      clear hz hV hall
      by_cases k8 : 8000 < z
      · have hv : q = 2 := by rw [hq, if_pos k8]
        have d8 : decide (8000 < (z : Int)) = true := decide_eq_true (by omega)
        subst hv
        clear hq
        go_wp2
        go_ret
        exact ⟨rfl, BB⟩
      · have hv : q = 0 := by rw [hq, if_neg k8]
        have d8 : decide (8000 < (z : Int)) = false := decide_eq_false (by omega)
        subst hv
        clear hq
        go_wp2
        go_ret
        exact ⟨rfl, BB⟩
end Go.Proofs.YtgigkekajdgngaaGreat
