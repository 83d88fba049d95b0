/-
  Members: what conf.right, the document's Right, slices.Contains at ints and the document's number give. Condition: no more than a hundred thousand.
-/
import Derived.Test.YtfgihfhpnhedkaaQuorC
namespace Go.Proofs.Ytfgihfhpnhedkaa
open Go Go.RowKit
attribute [local go_sem] cell_set_if

set_option maxRecDepth 100000 in
set_option maxHeartbeats 1000000 in
theorem index_any (A : Option Addr) (n c : Nat) (l : List Int) (x : Int) (w : World) (hr : Rd w A (flatZ l)) (hn : l.length = n) (hm : n ≤ 100000) :
    Calls Try.prog 44 #[.slice A n c, .int .i64 x] w fun e w' => (∃ z : Int, e = .returned (.int .i64 z) ∧ (0 ≤ z ↔ x ∈ l)) ∧ w' = w := by
  have HR := Lib.hid hr
  have HN := Lib.hid hn
  have hni : (n : Int) ≤ 100000 := by omega
  clear hr hn
  go_enter Try.func44, Try.ntmps44
  go_wp2
  go_loopw [5, 8] (fun u5 u8 wr => ∃ k : Nat, k ≤ n ∧ u8 = .int .i64 k ∧ (∀ i y, i < k → l[i]? = some y → y ≠ x) ∧ wr = w) (fun _ u8 _ => n - (intOf u8).toNat)
  case atStart => exact ⟨0, by omega, rfl, fun i y h => by omega, rfl⟩
  case round =>
    obtain ⟨k, hk, rfl, hS, rfl⟩ := hrel
    have HS := Lib.hid hS
    clear hS
    by_cases hlt : k < n
    · obtain ⟨b1, o1, y, rfl, _, hy, d0⟩ := HR.out.num (k := k) (by have := HN.out; omega)
      have HY := Lib.hid hy
      have hki : (k : Int) < (n : Int) := by omega
      clear hy
      by_cases hxy : x = y
      · have hq : (x == y) = true := by simpa using hxy
        have HM : Hid (x ∈ l) := by unfold Hid; rw [hxy]; exact List.mem_of_getElem? HY.out
        clear hxy
        go_wp2
        go_ret
        exact ⟨⟨k, rfl, fun _ => HM.out, fun _ => by omega⟩, rfl⟩
      · have hq : (x == y) = false := by simpa using hxy
        have HXY := Lib.hid hxy
        clear hxy
        go_wp2
        go_roundw
        case rel => exact ⟨k + 1, by omega, by go_num, fun i z hi hz => by
          by_cases hc : i < k
          · exact HS.out i z hc hz
          · obtain rfl : i = k := by omega
            rw [HY.out] at hz
            injection hz with hz
            subst hz
            exact fun e => HXY.out e.symm, by first | rfl | trivial⟩
        case measure => simp [intOf]; omega
    · obtain rfl : n = k := by omega
      have HM : Hid (¬ x ∈ l) := fun h => by
        obtain ⟨i, hi⟩ := List.getElem?_of_mem h
        exact HS.out i x (by have := HN.out; have := (List.getElem?_eq_some_iff.1 hi).1; omega) hi rfl
      go_wp2
      go_ret
      exact ⟨⟨-1, rfl, fun h => by omega, fun h => absurd h HM.out⟩, rfl⟩
theorem contains_any (A : Option Addr) (n c : Nat) (l : List Int) (x : Int) (w : World) (hr : Rd w A (flatZ l)) (hn : l.length = n) (hm : n ≤ 100000) :
    Calls Try.prog 29 #[.slice A n c, .int .i64 x] w fun e w' => e = .returned (.bool (decide (x ∈ l))) ∧ w' = w := by
  have HI := Lib.hid (index_any A n c l x w hr hn hm)
  clear hr hn
  go_enter Try.func29, Try.ntmps29
  go_wp2_with (go_at_call 44; refine HI.out.mono ?_; rintro e w1 ⟨⟨z, rfl, hz⟩, hw1⟩; subst hw1; have HZ := Lib.hid hz; clear hz)
  go_ret
  exact ⟨ret_bool (by rw [decide_eq_decide]; exact HZ.out), rfl⟩
end Go.Proofs.Ytfgihfhpnhedkaa
