/-
  Reads of a nil pointer: nothing is kept, none is answered. No condition of its own.
-/
import Derived.Test.YtlhmccinmhikkaaReadsReady
namespace Go.Proofs.Ytlhmccinmhikkaa
open Go Go.RowKit

theorem radd_nil (a b c : Int) (w : World) : Calls Try.prog 6 #[.pointer none, .int .i64 a, .int .i64 b, .int .i64 c] w fun e w' => e = .returned (.tuple #[]) ∧ w' = w := by
  go_enter Try.func6, Try.ntmps6
  go_wp2
  go_end0
  exact ⟨rfl, rfl⟩
theorem rdrop_nil (w : World) : Calls Try.prog 12 #[.pointer none] w fun e w' => e = .returned (.slice none 0 0) ∧ w' = w := by
  go_enter Try.func12, Try.ntmps12
  go_wp2
  go_ret
  exact ⟨rfl, rfl⟩
theorem rready_nil (a : Int) (f : Value) (w : World) : Calls Try.prog 7 #[.pointer none, .int .i64 a, f] w fun e w' => e = .returned (.slice none 0 0) ∧ w' = w := by
  go_enter Try.func7, Try.ntmps7
  go_wp2
  go_ret
  exact ⟨rfl, rfl⟩
end Go.Proofs.Ytlhmccinmhikkaa
