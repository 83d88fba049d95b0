/-
  Members: what conf.right, the document's Right, slices.Contains at ints and the document's number give. Condition: no more than a hundred thousand.
-/
import Derived.Test.YtkbfcmkocgkdjaaGreatDoorQuorC
namespace Go.Proofs.YtkbfcmkocgkdjaaGreatDoor
open Go Go.RowKit
attribute [local go_sem] cell_set_if

set_option maxRecDepth 100000 in
set_option maxHeartbeats 8000000 in
theorem cright_any (A : Option Addr) (n c : Nat) (l : List Int) (w : World) (hr : Rd w A (flatZ l)) (hn : l.length = n) (hm : n ≤ 100000) :
    Calls Tryz.prog 26 #[.slice A n c] w fun e w' => e = .returned (.bool (rightV l)) ∧ Qt w w' := by
  have HR := Lib.hid hr
  have HN := Lib.hid hn
  have hni : (n : Int) ≤ 100000 := by omega
  clear hr hn
  go_enter Tryz.func26, Tryz.ntmps26
  go_wp2
  go_loopw [3, 4, 7] (fun u3 u4 u7 wr => ∃ k : Nat, k ≤ n ∧ u7 = .int .i64 k ∧ (∀ i, i < k → okAt l i = true) ∧ Qt w wr) (fun _ _ u7 _ => n - (intOf u7).toNat)
  case atStart => exact ⟨0, by omega, rfl, fun i h => by omega, Qt.refl _⟩
  case round =>
    obtain ⟨k, hk, rfl, hS, hQ⟩ := hrel
    have HS := Lib.hid hS
    have hqc : ∀ p, wr.cell? p = w.cell? p := fun p => by obtain ⟨m, rfl⟩ := hQ; rfl
    clear hS
    by_cases hlt : k < n
    · obtain ⟨b1, o1, x, rfl, _, hx, d0⟩ := HR.out.num (k := k) (by have := HN.out; omega)
      rw [← hqc] at d0
      have HX : Hid (l.getD k 0 = x) := by unfold Hid; rw [List.getD_eq_getElem?_getD, hx]; rfl
      have HK : Hid (k < l.length) := by unfold Hid; rw [HN.out]; exact hlt
      have hki : (k : Int) < (n : Int) := by omega
      clear hx
      by_cases h0 : x < 0
      · have HB : Hid (rightV l = false) := rightV_bad HK.out (by unfold okAt; rw [HX.out, decide_eq_false (show ¬ 0 ≤ x by omega)]; rfl)
        clear hqc
        go_wp2
        skip
        go_ret
        exact ⟨ret_bool HB.out.symm, hQ⟩
      by_cases h7 : 7 ≤ x
      · have h0' : 0 ≤ x := by omega
        have hd0 : decide (x < 0) = false := decide_eq_false (by omega)
        have hd7 : decide (7 ≤ x) = true := decide_eq_true (by omega)
        have HB : Hid (rightV l = false) := rightV_bad HK.out (by unfold okAt; rw [HX.out, decide_eq_false (show ¬ x < 7 by omega)]; simp)
        clear hqc h0
        go_wp2
        skip
        go_ret
        exact ⟨ret_bool HB.out.symm, hQ⟩
      have h0' : 0 ≤ x := by omega
      have h7' : x < 7 := by omega
      have hd0 : decide (x < 0) = false := decide_eq_false (by omega)
      have hd7 : decide (7 ≤ x) = false := decide_eq_false (by omega)
      clear h0 h7
      rcases Nat.eq_zero_or_pos k with hk0 | hk0
      · have HO : Hid (okAt l k = true) := by unfold Hid okAt; rw [HX.out, decide_eq_true h0', decide_eq_true h7', decide_eq_true hk0]; rfl
        have hk0i : (k : Int) ≤ 0 := by omega
        have hdk : decide ((0 : Int) < (k : Int)) = false := decide_eq_false (by omega)
        have hdn : decide (0 < k) = false := decide_eq_false (by omega)
        have HK0 := Lib.hid hk0
        clear hqc hk0
        go_wp2
        skip
        go_roundw
        case rel => exact ⟨k + 1, by omega, by go_num, fun i hi => by
          obtain rfl : i = k := by have := HK0.out; omega
          exact HO.out, hQ⟩
        case measure => simp [intOf]; omega
      · obtain ⟨j, rfl⟩ : ∃ j, k = j + 1 := ⟨k - 1, by omega⟩
        obtain ⟨b2, o2, y, e2, _, hy, d1⟩ := HR.out.num (k := j) (by have := HN.out; omega)
        injection e2 with e2
        injection e2 with e21 e22
        subst e21 e22
        rw [← hqc] at d1
        have HY : Hid (l.getD j 0 = y) := by unfold Hid; rw [List.getD_eq_getElem?_getD, hy]; rfl
        have hj0 : (0 : Int) < (j : Int) + 1 := by omega
        have hj1 : ((j + 1 : Nat) : Int) - 1 = (j : Int) := by omega
        have hj2 : (j : Int) < (n : Int) := by omega
        have hdj : decide ((0 : Int) < (j : Int) + 1) = true := decide_eq_true (by omega)
        clear hy hqc
        by_cases hxy : x ≤ y
        · have hdxy : decide (x ≤ y) = true := decide_eq_true (by omega)
          have HB : Hid (rightV l = false) := rightV_bad HK.out (by unfold okAt; rw [HX.out, show j + 1 - 1 = j by omega, HY.out, decide_eq_false (show ¬ j + 1 = 0 by omega), decide_eq_false (show ¬ y < x by omega)]; simp)
          go_wp2
          skip
          go_ret
          exact ⟨ret_bool HB.out.symm, hQ⟩
        · have hxy' : y < x := by omega
          have hdxy : decide (x ≤ y) = false := decide_eq_false (by omega)
          have HO : Hid (okAt l (j + 1) = true) := by unfold Hid okAt; rw [HX.out, show j + 1 - 1 = j by omega, HY.out, decide_eq_true h0', decide_eq_true h7', decide_eq_true hxy']; simp
          clear hxy
          go_wp2
          skip
          go_roundw
          case rel => exact ⟨j + 1 + 1, by omega, by go_num, fun i hi => by
            by_cases hc : i < j + 1
            · exact HS.out i hc
            · obtain rfl : i = j + 1 := by omega
              exact HO.out, hQ⟩
          case measure => simp [intOf]; omega
    · obtain rfl : n = k := by omega
      have HB : Hid (rightV l = decide (0 < n)) := by unfold Hid; rw [rightV_all (fun i hi => HS.out i (by have := HN.out; omega)), HN.out]
      clear hqc
      go_wp2
      go_ret
      exact ⟨ret_bool (by (rw [HB.out]) <;> simp), hQ⟩
set_option maxRecDepth 100000 in
set_option maxHeartbeats 1000000 in
theorem index_any (A : Option Addr) (n c : Nat) (l : List Int) (x : Int) (w : World) (hr : Rd w A (flatZ l)) (hn : l.length = n) (hm : n ≤ 100000) :
    Calls Tryz.prog 87 #[.slice A n c, .int .i64 x] w fun e w' => (∃ z : Int, e = .returned (.int .i64 z) ∧ (0 ≤ z ↔ x ∈ l)) ∧ w' = w := by
  have HR := Lib.hid hr
  have HN := Lib.hid hn
  have hni : (n : Int) ≤ 100000 := by omega
  clear hr hn
  go_enter Tryz.func87, Tryz.ntmps87
  go_wp2
  go_loopw [5, 8] (fun u5 u8 wr => ∃ k : Nat, k ≤ n ∧ u8 = .int .i64 k ∧ (∀ i y, i < k → l[i]? = some y → y ≠ x) ∧ wr = w) (fun _ u8 _ => n - (intOf u8).toNat)
  case atStart => exact ⟨0, by omega, rfl, fun i y h => by omega, rfl⟩
  case round =>
    obtain ⟨k, hk, rfl, hS, rfl⟩ := hrel
    have HS := Lib.hid hS
    clear hS
    by_cases hlt : k < n
    · obtain ⟨b1, o1, y, rfl, _, hy, d0⟩ := HR.out.num (k := k) (by have := HN.out; omega)
      have HY := Lib.hid hy
      have hki : (k : Int) < (n : Int) := by omega
      clear hy
      by_cases hxy : x = y
      · have hq : (x == y) = true := by simpa using hxy
        have HM : Hid (x ∈ l) := by unfold Hid; rw [hxy]; exact List.mem_of_getElem? HY.out
        clear hxy
        go_wp2
        go_ret
        exact ⟨⟨k, rfl, fun _ => HM.out, fun _ => by omega⟩, rfl⟩
      · have hq : (x == y) = false := by simpa using hxy
        have HXY := Lib.hid hxy
        clear hxy
        go_wp2
        go_roundw
        case rel => exact ⟨k + 1, by omega, by go_num, fun i z hi hz => by
          by_cases hc : i < k
          · exact HS.out i z hc hz
          · obtain rfl : i = k := by omega
            rw [HY.out] at hz
            injection hz with hz
            subst hz
            exact fun e => HXY.out e.symm, by first | rfl | trivial⟩
        case measure => simp [intOf]; omega
    · obtain rfl : n = k := by omega
      have HM : Hid (¬ x ∈ l) := fun h => by
        obtain ⟨i, hi⟩ := List.getElem?_of_mem h
        exact HS.out i x (by have := HN.out; have := (List.getElem?_eq_some_iff.1 hi).1; omega) hi rfl
      go_wp2
      go_ret
      exact ⟨⟨-1, rfl, fun h => by omega, fun h => absurd h HM.out⟩, rfl⟩
theorem contains_any (A : Option Addr) (n c : Nat) (l : List Int) (x : Int) (w : World) (hr : Rd w A (flatZ l)) (hn : l.length = n) (hm : n ≤ 100000) :
    Calls Tryz.prog 40 #[.slice A n c, .int .i64 x] w fun e w' => e = .returned (.bool (decide (x ∈ l))) ∧ w' = w := by
  have HI := Lib.hid (index_any A n c l x w hr hn hm)
  clear hr hn
  go_enter Tryz.func40, Tryz.ntmps40
  go_wp2_with (go_at_call 87; refine HI.out.mono ?_; rintro e w1 ⟨⟨z, rfl, hz⟩, hw1⟩; subst hw1; have HZ := Lib.hid hz; clear hz)
  go_ret
  exact ⟨ret_bool (by rw [decide_eq_decide]; exact HZ.out), rfl⟩
theorem number_any (A : Option Addr) (n c : Nat) (l : List Int) (x : Int) (w : World) (hr : Rd w A (flatZ l)) (hn : l.length = n) (hm : n ≤ 100000) :
    Calls Tryz.prog 41 #[.slice A n c, .int .i64 x] w fun e w' => e = .returned (.int .i64 (numAt l x)) ∧ w' = w := by
  have hni : (n : Int) ≤ 100000 := by omega
  by_cases h0 : x < 0
  · have HE : Hid (numAt l x = 0) := numAt_out (.inl h0)
    go_enter Tryz.func41, Tryz.ntmps41
    go_wp2
    go_ret
    exact ⟨by (rw [HE.out]) <;> rfl, rfl⟩
  by_cases h1 : (n : Int) ≤ x
  · have HE : Hid (numAt l x = 0) := numAt_out (.inr (by rw [hn]; exact h1))
    have h0' : 0 ≤ x := by omega
    clear h0
    go_enter Tryz.func41, Tryz.ntmps41
    go_wp2
    go_ret
    exact ⟨by (rw [HE.out]) <;> rfl, rfl⟩
  · obtain ⟨k, rfl⟩ := Int.eq_ofNat_of_zero_le (show 0 ≤ x by omega)
    obtain ⟨b, o, y, rfl, _, hy, d0⟩ := hr.num (k := k) (by omega)
    have HE : Hid (numAt l (k : Int) = y) := numAt_in rfl (by omega) hy
    have h0' : (0 : Int) ≤ (k : Int) := by omega
    have h1' : (k : Int) < (n : Int) := by omega
    clear h0 h1 hr hn hy
    go_enter Tryz.func41, Tryz.ntmps41
    go_wp2
    go_ret
    exact ⟨by (rw [HE.out]) <;> rfl, rfl⟩
end Go.Proofs.YtkbfcmkocgkdjaaGreatDoor
