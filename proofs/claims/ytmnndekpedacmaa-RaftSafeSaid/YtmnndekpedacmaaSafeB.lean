/-
  The walk of the law RaftSafe where its arguments are too many or out of form. Conditions: those.
-/
import Derived.Test.YtmnndekpedacmaaSafeL
namespace Go.Proofs.Ytmnndekpedacmaa
open Go Go.RowKit
attribute [local go_sem] cell_set_if

set_option maxRecDepth 100000 in
set_option maxHeartbeats 2000000 in
theorem safe_bad (Av A1 : Option Addr) (n c n1 c1 : Nat) (mem : List Int) (ld term : Int) (w : World) (hr1 : Rd w A1 (flatZ mem)) (hn1 : mem.length = n1) (h : 7 < n ∨ 10 < n1 ∨ ld < 0 ∨ (n : Int) ≤ ld ∨ (n1 ≤ 10 ∧ rightV mem = false)) :
    Calls Try.prog 3 #[.slice Av n c, .slice A1 n1 c1, .int .i64 ld, .int .i64 term] w fun e w' => e = .returned (.bool true) ∧ Below w.heap.size w w' := by
  have hc : (7 : Int) < (n : Int) ∨ ((n : Int) ≤ 7 ∧ (10 : Int) < (n1 : Int)) ∨ ((n : Int) ≤ 7 ∧ (n1 : Int) ≤ 10 ∧ ld < 0) ∨ ((n : Int) ≤ 7 ∧ (n1 : Int) ≤ 10 ∧ 0 ≤ ld ∧ (n : Int) ≤ ld) ∨ ((n : Int) ≤ 7 ∧ (n1 : Int) ≤ 10 ∧ 0 ≤ ld ∧ ld < (n : Int) ∧ Hid (rightV mem = false)) := by
    by_cases a1 : 7 < n
    · exact .inl (by omega)
    by_cases a2 : 10 < n1
    · exact .inr (.inl ⟨by omega, by omega⟩)
    by_cases a3 : ld < 0
    · exact .inr (.inr (.inl ⟨by omega, by omega, a3⟩))
    by_cases a4 : (n : Int) ≤ ld
    · exact .inr (.inr (.inr (.inl ⟨by omega, by omega, by omega, a4⟩)))
    · exact .inr (.inr (.inr (.inr ⟨by omega, by omega, by omega, by omega, by
        rcases h with h | h | h | h | h
        · omega
        · omega
        · omega
        · omega
        · exact h.2⟩)))
  have HR := Lib.hid hr1
  have HN := Lib.hid hn1
  clear h hr1 hn1
  rcases hc with h1 | ⟨h1, h2⟩ | ⟨h1, h2, h3⟩ | ⟨h1, h2, h3, h4⟩ | ⟨h1, h2, h3, h4, h5⟩
  case' inr.inr.inr.inr =>
    have hc := rright_any A1 n1 c1 mem w HR.out HN.out (by omega)
    rw [h5.out] at hc
    have HC := Lib.hid hc
    clear hc
  all_goals
    go_enter Try.func3, Try.ntmps3
    go_wp2_with (first
      | (go_at_call 5; refine HC.out.mono ?_; rintro e w0 ⟨rfl, q0⟩)
      | (go_at_call 6; refine (alive25_any _).mono ?_; rintro e w1 ⟨rfl, b1⟩))
    go_ret
    first
      | exact ⟨rfl, below_of b1 (q0.below _) (by have := q0.below 0; exact this.size)⟩
      | exact ⟨rfl, b1⟩

end Go.Proofs.Ytmnndekpedacmaa
