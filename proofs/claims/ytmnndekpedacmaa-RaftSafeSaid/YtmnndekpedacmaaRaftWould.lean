/-
  Ballots: Would. Conditions: those of the log that is asked.
-/
import Derived.Test.YtmnndekpedacmaaRaftAlive
namespace Go.Proofs.Ytmnndekpedacmaa
open Go Go.RowKit
attribute [local go_sem] cell_set_if

theorem would_any (t f u i lt : Int) (l : Value) (heard nw : Bool) (w : World) (ha : Asked w l i lt nw) :
    Calls Try.prog 12 #[bal t f, .int .i64 u, .int .i64 i, .int .i64 lt, l, .bool heard] w fun e w' => e = .returned (.bool (decide (t < u) && nw && !heard)) ∧ Below w.heap.size w w' := by
  by_cases h : t < u
  · cases nw
    all_goals
      cases heard
      all_goals
        have hd : decide (t < u) = true := by simpa using h
        rw [hd]
        go_enter Try.func12, Try.ntmps12
        go_wp2_with (go_at_call 35; refine (ha _ ((Below.refl _ _).alloc (Nat.le_refl _) _)).mono ?_; rintro e w1 ⟨rfl, q1⟩)
        go_ret
        exact ⟨rfl, below_new _ (q1.below _ |> fun h => by simpa using h)⟩
  · have hd : decide (t < u) = false := by simpa using h
    rw [hd]
    have h' : u ≤ t := by omega
    go_enter Try.func12, Try.ntmps12
    go_wp2
    go_ret
    exact ⟨rfl, (Below.refl _ _).alloc (Nat.le_refl _) _⟩
end Go.Proofs.Ytmnndekpedacmaa
