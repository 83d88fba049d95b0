/-
  The document's In at ints. Condition: no more than a hundred thousand.
-/
import Derived.Test.YtfgihfhpnhedkaaConfW
namespace Go.Proofs.Ytfgihfhpnhedkaa
open Go Go.RowKit
attribute [local go_sem] cell_set_if

set_option maxRecDepth 100000 in
set_option maxHeartbeats 1000000 in
theorem in_ints (A : Option Addr) (n c : Nat) (l : List Int) (x : Int) (w : World) (hr : Rd w A (flatZ l)) (hn : l.length = n) (hm : n ≤ 100000) :
    Calls Try.prog 9 #[.slice A n c, .int .i64 x] w fun e w' => e = .returned (.bool (decide (x ∈ l))) ∧ w' = w := by
  have HR := Lib.hid hr
  have HN := Lib.hid hn
  have hni : (n : Int) ≤ 100000 := by omega
  clear hr hn
  go_enter Try.func9, Try.ntmps9
  go_wp2
  go_loopw [5] (fun u5 wr => ∃ k : Nat, k ≤ n ∧ u5 = .int .i64 k ∧ Hid (∀ j : Nat, j < k → l[j]? ≠ some x) ∧ wr = w) (fun u5 _ => n - (intOf u5).toNat)
  case atStart => exact ⟨0, by omega, rfl, fun j hj => by omega, rfl⟩
  case round =>
    obtain ⟨k, hk, rfl, hno, rfl⟩ := hrel
    by_cases hlt : k < n
    · obtain ⟨b1, o1, y, rfl, _, hy, d0⟩ := HR.out.num (k := k) (by have := HN.out; omega)
      have hki : (k : Int) < (n : Int) := by omega
      by_cases hyx : y = x
      · have HD : Hid (decide (x ∈ l) = true) := by unfold Hid; rw [← hyx]; exact decide_eq_true (List.mem_of_getElem? hy)
        have hq : (y == x) = true := by simpa using hyx
        clear hy hyx
        go_wp2
        go_ret
        exact ⟨by (rw [HD.out]) <;> rfl, rfl⟩
      · have HY : Hid (∀ j : Nat, j < k + 1 → l[j]? ≠ some x) := fun j hj => by
          by_cases e : j = k
          · subst e; rw [hy]; intro h; exact hyx (Option.some.inj h)
          · exact hno.out j (by omega)
        have hq : (y == x) = false := by simpa using hyx
        clear hy hyx
        go_wp2
        go_roundw
        case rel => exact ⟨k + 1, by omega, by go_num, HY.out, by first | rfl | trivial⟩
        case measure => simp [intOf]; omega
    · obtain rfl : n = k := by omega
      have HD : Hid (decide (x ∈ l) = false) := by
        unfold Hid
        refine decide_eq_false fun hm => ?_
        obtain ⟨j, hj⟩ := List.mem_iff_getElem?.1 hm
        exact hno.out j (by have := (List.getElem?_eq_some_iff.1 hj).1; have := HN.out; omega) hj
      go_wp2
      go_ret
      exact ⟨by (rw [HD.out]) <;> rfl, rfl⟩
end Go.Proofs.Ytfgihfhpnhedkaa
