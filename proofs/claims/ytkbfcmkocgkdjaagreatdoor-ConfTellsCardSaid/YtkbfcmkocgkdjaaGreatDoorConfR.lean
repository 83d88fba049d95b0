/-
  What the document's Right gives. Condition: no more than a hundred thousand.
-/
import Derived.Test.YtkbfcmkocgkdjaaGreatDoorQuorC
namespace Go.Proofs.YtkbfcmkocgkdjaaGreatDoor
open Go Go.RowKit
attribute [local go_sem] cell_set_if

set_option maxRecDepth 100000 in
set_option maxHeartbeats 8000000 in
theorem rright_any (A : Option Addr) (n c : Nat) (l : List Int) (w : World) (hr : Rd w A (flatZ l)) (hn : l.length = n) (hm : n ≤ 100000) :
    Calls Tryz.prog 29 #[.slice A n c] w fun e w' => e = .returned (.bool (rightV l)) ∧ Qt w w' := by
  have HR := Lib.hid hr
  have HN := Lib.hid hn
  have hni : (n : Int) ≤ 100000 := by omega
  clear hr hn
  go_enter Tryz.func29, Tryz.ntmps29
  go_wp2
  go_loopw [3] (fun u3 wr => ∃ k : Nat, k ≤ n ∧ u3 = .int .i64 k ∧ (∀ i, i < k → okAt l i = true) ∧ Qt w wr) (fun u3 _ => n - (intOf u3).toNat)
  case atStart => exact ⟨0, by omega, rfl, fun i h => by omega, Qt.refl _⟩
  case round =>
    obtain ⟨k, hk, rfl, hS, hQ⟩ := hrel
    have HS := Lib.hid hS
    have hqc : ∀ p, wr.cell? p = w.cell? p := fun p => by obtain ⟨m, rfl⟩ := hQ; rfl
    clear hS
    by_cases hlt : k < n
    · obtain ⟨b1, o1, x, rfl, _, hx, d0⟩ := HR.out.num (k := k) (by have := HN.out; omega)
      rw [← hqc] at d0
      have HX : Hid (l.getD k 0 = x) := by unfold Hid; rw [List.getD_eq_getElem?_getD, hx]; rfl
      have HK : Hid (k < l.length) := by unfold Hid; rw [HN.out]; exact hlt
      have hki : (k : Int) < (n : Int) := by omega
      clear hx
      by_cases h0 : x < 0
      · have HB : Hid (rightV l = false) := rightV_bad HK.out (by unfold okAt; rw [HX.out, decide_eq_false (show ¬ 0 ≤ x by omega)]; rfl)
        clear hqc
        go_wp2
        (go_quiet (fail); go_wp2)
        go_ret
        exact ⟨ret_bool HB.out.symm, hQ.trans (Qt.drewN _ _)⟩
      by_cases h7 : 7 ≤ x
      · have h0' : 0 ≤ x := by omega
        have hd0 : decide (x < 0) = false := decide_eq_false (by omega)
        have hd7 : decide (7 ≤ x) = true := decide_eq_true (by omega)
        have HB : Hid (rightV l = false) := rightV_bad HK.out (by unfold okAt; rw [HX.out, decide_eq_false (show ¬ x < 7 by omega)]; simp)
        clear hqc h0
        go_wp2
        (go_quiet (fail); go_wp2)
        go_ret
        exact ⟨ret_bool HB.out.symm, hQ.trans (Qt.drewN _ _)⟩
      have h0' : 0 ≤ x := by omega
      have h7' : x < 7 := by omega
      have hd0 : decide (x < 0) = false := decide_eq_false (by omega)
      have hd7 : decide (7 ≤ x) = false := decide_eq_false (by omega)
      clear h0 h7
      rcases Nat.eq_zero_or_pos k with hk0 | hk0
      · have HO : Hid (okAt l k = true) := by unfold Hid okAt; rw [HX.out, decide_eq_true h0', decide_eq_true h7', decide_eq_true hk0]; rfl
        have hk0i : (k : Int) ≤ 0 := by omega
        have hdk : decide ((0 : Int) < (k : Int)) = false := decide_eq_false (by omega)
        have hdn : decide (0 < k) = false := decide_eq_false (by omega)
        have HK0 := Lib.hid hk0
        clear hqc hk0
        go_wp2
        (go_quiet (fail); go_wp2)
        go_roundw
        case rel => exact ⟨k + 1, by omega, by go_num, fun i hi => by
          obtain rfl : i = k := by have := HK0.out; omega
          exact HO.out, hQ.trans (Qt.drewN _ _)⟩
        case measure => simp [intOf]; omega
      · obtain ⟨j, rfl⟩ : ∃ j, k = j + 1 := ⟨k - 1, by omega⟩
        obtain ⟨b2, o2, y, e2, _, hy, d1⟩ := HR.out.num (k := j) (by have := HN.out; omega)
        injection e2 with e2
        injection e2 with e21 e22
        subst e21 e22
        rw [← hqc] at d1
        have HY : Hid (l.getD j 0 = y) := by unfold Hid; rw [List.getD_eq_getElem?_getD, hy]; rfl
        have hj0 : (0 : Int) < (j : Int) + 1 := by omega
        have hj1 : ((j + 1 : Nat) : Int) - 1 = (j : Int) := by omega
        have hj2 : (j : Int) < (n : Int) := by omega
        have hdj : decide ((0 : Int) < (j : Int) + 1) = true := decide_eq_true (by omega)
        clear hy hqc
        by_cases hxy : x ≤ y
        · have hdxy : decide (x ≤ y) = true := decide_eq_true (by omega)
          have HB : Hid (rightV l = false) := rightV_bad HK.out (by unfold okAt; rw [HX.out, show j + 1 - 1 = j by omega, HY.out, decide_eq_false (show ¬ j + 1 = 0 by omega), decide_eq_false (show ¬ y < x by omega)]; simp)
          go_wp2
          (go_quiet (fail); go_wp2)
          go_ret
          exact ⟨ret_bool HB.out.symm, hQ.trans (Qt.drewN _ _)⟩
        · have hxy' : y < x := by omega
          have hdxy : decide (x ≤ y) = false := decide_eq_false (by omega)
          have HO : Hid (okAt l (j + 1) = true) := by unfold Hid okAt; rw [HX.out, show j + 1 - 1 = j by omega, HY.out, decide_eq_true h0', decide_eq_true h7', decide_eq_true hxy']; simp
          clear hxy
          go_wp2
          (go_quiet (fail); go_wp2)
          go_roundw
          case rel => exact ⟨j + 1 + 1, by omega, by go_num, fun i hi => by
            by_cases hc : i < j + 1
            · exact HS.out i hc
            · obtain rfl : i = j + 1 := by omega
              exact HO.out, hQ.trans (Qt.drewN _ _)⟩
          case measure => simp [intOf]; omega
    · obtain rfl : n = k := by omega
      have HB : Hid (rightV l = decide (0 < n)) := by unfold Hid; rw [rightV_all (fun i hi => HS.out i (by have := HN.out; omega)), HN.out]
      clear hqc
      go_wp2
      go_ret
      exact ⟨ret_bool (by (rw [HB.out]) <;> simp), hQ⟩
end Go.Proofs.YtkbfcmkocgkdjaaGreatDoor
