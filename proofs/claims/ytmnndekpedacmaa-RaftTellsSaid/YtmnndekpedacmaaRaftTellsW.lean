/-
  The walk of the law RaftTells: for every input it returns true and changes nothing that was there. No condition but those of the arguments' form.
-/
import Derived.Test.YtmnndekpedacmaaRaftCommit
import Derived.Test.YtmnndekpedacmaaHistLogs
import Derived.Test.YtmnndekpedacmaaBookIntsL
namespace Go.Proofs.Ytmnndekpedacmaa
open Go Go.RowKit
attribute [local go_sem] cell_set_if

set_option maxRecDepth 100000 in
set_option maxHeartbeats 2000000 in
theorem tells25_bad (t f i tm : Int) (A3 A4 A5 A6 : Option Addr) (n3 c3 n4 c4 n5 c5 n6 c6 : Nat) (heard : Bool) (w : World) (h : 60 < n3 ∨ 20 < n4 ∨ 20 < n5 ∨ n6 ≠ 5 ∨ 1099511627776 < i ∨ i < -5) :
    Calls Try.prog 4 #[bal t f, .int .i64 i, .int .i64 tm, .slice A3 n3 c3, .slice A4 n4 c4, .slice A5 n5 c5, .slice A6 n6 c6, .bool heard] w fun e w' => e = .returned (.bool true) ∧ Below w.heap.size w w' := by
  have hc : (60 : Int) < (n3 : Int) ∨ ((n3 : Int) ≤ 60 ∧ (20 : Int) < (n4 : Int)) ∨ ((n3 : Int) ≤ 60 ∧ (n4 : Int) ≤ 20 ∧ (20 : Int) < (n5 : Int)) ∨ ((n3 : Int) ≤ 60 ∧ (n4 : Int) ≤ 20 ∧ (n5 : Int) ≤ 20 ∧ ((n6 : Int) == 5) = false ∧ ((n6 : Int) != 5) = true)
      ∨ ((n3 : Int) ≤ 60 ∧ (n4 : Int) ≤ 20 ∧ (n5 : Int) ≤ 20 ∧ n6 = 5 ∧ 1099511627776 < i) ∨ ((n3 : Int) ≤ 60 ∧ (n4 : Int) ≤ 20 ∧ (n5 : Int) ≤ 20 ∧ n6 = 5 ∧ i ≤ 1099511627776 ∧ i < -5) := by
    by_cases a1 : 60 < n3
    · exact .inl (by omega)
    by_cases a2 : 20 < n4
    · exact .inr (.inl ⟨by omega, by omega⟩)
    by_cases a3 : 20 < n5
    · exact .inr (.inr (.inl ⟨by omega, by omega, by omega⟩))
    by_cases a4 : n6 = 5
    · by_cases a5 : 1099511627776 < i
      · exact .inr (.inr (.inr (.inr (.inl ⟨by omega, by omega, by omega, a4, a5⟩))))
      · exact .inr (.inr (.inr (.inr (.inr ⟨by omega, by omega, by omega, a4, by omega, by omega⟩))))
    · exact .inr (.inr (.inr (.inl ⟨by omega, by omega, by omega, by simp; omega, by simp; omega⟩)))
  clear h
  rcases hc with h1 | ⟨h1, h2⟩ | ⟨h1, h2, h3⟩ | ⟨h1, h2, h3, h4, h4'⟩ | ⟨h1, h2, h3, rfl, h5⟩ | ⟨h1, h2, h3, rfl, h5, h6⟩
  all_goals
    go_enter Try.func4, Try.ntmps4
    dsimp only [List.append]
    go_wp2_with (go_at_call 6; refine (alive25_any _).mono ?_; rintro e w1 ⟨rfl, b1⟩)
    go_ret
    exact ⟨rfl, below_of b1 ((Below.refl _ _).alloc (Nat.le_refl _) _) (by simp)⟩
end Go.Proofs.Ytmnndekpedacmaa
