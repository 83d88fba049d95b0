/-
  The law MetaTurns, for whatever it is given. No condition but those of the arguments' form.
-/
import Derived.Test.YtejmpfmkaiaklaaMetaTurnsW
namespace Go.Proofs.Ytejmpfmkaiaklaa
open Go Go.RowKit

set_option maxRecDepth 100000 in
theorem turns_no (A : Option Addr) (n c : Nat) (cut : Int) (w : World) (h : 30 < (n : Int) ∨ ((n : Int) ≤ 30 ∧ cut < 0) ∨ ((n : Int) ≤ 30 ∧ 0 ≤ cut ∧ 256 < cut)) :
    Calls Try.prog 10 #[.slice A n c, .int .i64 cut] w fun e w' => e = .returned (.bool true) ∧ Below w.heap.size w w' := by
  rcases h with h | ⟨h1, h2⟩ | ⟨h1, h2, h3⟩
  all_goals
    go_enter Try.func10, Try.ntmps10
    go_wp2_with (go_at_call 35; refine (alive6_any _).mono ?_; rintro e w1 ⟨rfl, b1⟩)
    go_ret
    exact ⟨rfl, b1⟩
theorem turns_walk (A : Option Addr) (n c : Nat) (ms : List Mt) (cut : Int) (w : World) (hr : Rd w A (flatM ms)) (hn : ms.length = n) :
    Calls Try.prog 10 #[.slice A n c, .int .i64 cut] w fun e w' => e = .returned (.bool true) ∧ Below w.heap.size w w' := by
  by_cases h : (n : Int) ≤ 30 ∧ 0 ≤ cut ∧ cut ≤ 256
  · obtain ⟨h1, h2, h3⟩ := h
    obtain ⟨k, rfl⟩ := Int.eq_ofNat_of_zero_le h2
    exact turns_yes A n c ms k w hr hn (by omega) (by omega)
  · exact turns_no A n c cut w (by omega)
end Go.Proofs.Ytejmpfmkaiaklaa
