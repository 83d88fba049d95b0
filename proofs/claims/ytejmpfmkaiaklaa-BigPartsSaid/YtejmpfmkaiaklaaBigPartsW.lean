/-
  The walk of the law BigParts. Condition: none on the text but that memory holds it.
-/
import Derived.Test.YtejmpfmkaiaklaaBigAlive
import Derived.Test.YtejmpfmkaiaklaaPageLaws
namespace Go.Proofs.Ytejmpfmkaiaklaa
open Go Go.RowKit
attribute [local go_sem] cell_set_if

set_option maxRecDepth 100000 in
set_option maxHeartbeats 1000000 in
theorem bigparts_long (v : ByteArray) (first tx : Int) (w : World) (h : 2000 < v.size) :
    Calls Try.prog 3 #[.string v, .int .i64 first, .int .i64 tx] w fun e w' => e = .returned (.bool true) ∧ Below w.heap.size w w' := by
  have h' : (2000 : Int) < v.size := by omega
  clear h
  go_enter Try.func3, Try.ntmps3
  go_wp2_with (go_at_call 12; refine (alive11_any _).mono ?_; rintro e wa ⟨rfl, ba⟩)
  go_ret
  exact ⟨rfl, ba⟩

set_option maxRecDepth 100000 in
set_option maxHeartbeats 1000000 in
theorem bigparts_far (v : ByteArray) (first tx : Int) (w : World) (h0 : v.size ≤ 2000) (h : first < 2 ∨ 4000 ≤ first) :
    Calls Try.prog 3 #[.string v, .int .i64 first, .int .i64 tx] w fun e w' => e = .returned (.bool true) ∧ Below w.heap.size w w' := by
  have h' : (v.size : Int) ≤ 2000 := by omega
  have HF := Lib.hid (fun w => blay_far v first tx w (by omega) (.inr h))
  have HN := Lib.hid (fun w => need_nat v.size w (by omega))
  generalize needN v.size = N at *
  have hcs : first < 2 ∨ (2 ≤ first ∧ 4000 ≤ first) := by omega
  clear h h0
  rcases hcs with h | ⟨h, h2⟩
  all_goals
    go_enter Try.func3, Try.ntmps3
    go_wp2_with (first
      | (go_at_call 12; refine (alive11_any _).mono ?_; rintro e wa ⟨rfl, ba⟩)
      | (go_at_call 13; refine (HF.out _).mono ?_; rintro e wb ⟨rfl, hwb⟩; subst hwb)
      | (go_at_call 14; refine (HN.out _).mono ?_; rintro e wc ⟨rfl, hwc⟩; subst hwc))
    all_goals
      go_ret
      exact ⟨rfl, ba⟩

set_option maxRecDepth 100000 in
set_option maxHeartbeats 2000000 in
theorem bigparts_refused (v : ByteArray) (first tx : Int) (w : World) (hz : v.size ≤ 2000) (h0 : 2 ≤ first) (h1 : first < 4000) (hno : ¬ (0 ≤ tx ∧ tx ≤ 1099511627776 ∧ first + needN v.size ≤ 4000)) :
    Calls Try.prog 3 #[.string v, .int .i64 first, .int .i64 tx] w fun e w' => e = .returned (.bool true) ∧ Below w.heap.size w w' := by
  have h' : (v.size : Int) ≤ 2000 := by omega
  have hl : ∀ w, Calls Try.prog 13 #[.string v, .int .i64 first, .int .i64 tx] w fun e w' => e = .returned (.tuple #[.slice none 0 0, .int .i64 1]) ∧ Below w.heap.size w w' := fun w => by
    refine (blay_any v first tx w hz h0 h1).mono ?_
    rintro e w' ⟨h | h, hb⟩
    · exact absurd (of_decide_eq_true h.1) hno
    · exact ⟨h.2, hb⟩
  have hle := needN_le v.size hz
  have HL := Lib.hid hl
  have HN := Lib.hid (fun w => need_nat v.size w (by omega))
  generalize needN v.size = N at *
  have hN : (N : Int) ≤ 9 := by omega
  have hcs : 4000 < first + (N : Int) ∨ (first + (N : Int) ≤ 4000 ∧ tx < 0) ∨ (first + (N : Int) ≤ 4000 ∧ 0 ≤ tx ∧ 1099511627776 < tx) := by omega
  clear hl hno hz hle
  rcases hcs with h | ⟨h, h2⟩ | ⟨h, h2, h3⟩
  all_goals
    go_enter Try.func3, Try.ntmps3
    go_wp2_with (first
      | (go_at_call 12; refine (alive11_any _).mono ?_; rintro e wa ⟨rfl, ba⟩)
      | (go_at_call 13; refine (HL.out _).mono ?_; rintro e wb ⟨rfl, bb⟩; have B2 := below_of bb ba ba.size)
      | (go_at_call 14; refine (HN.out _).mono ?_; rintro e wc ⟨rfl, hwc⟩; subst hwc))
    all_goals
      go_ret
      exact ⟨rfl, B2⟩
end Go.Proofs.Ytejmpfmkaiaklaa
