/-
  The walk of the law RaftSafe, whatever its arguments: both cases joined. No condition but those of the arguments' form.
-/
import Derived.Test.YtmnndekpedacmaaSafeB
import Derived.Test.YtmnndekpedacmaaSafeW
namespace Go.Proofs.Ytmnndekpedacmaa
open Go Go.RowKit

theorem raftsafe_walk (Av A1 : Option Addr) (n c n1 c1 : Nat) (A : Nat → Option Addr) (L C : Nat → Nat) (Z : Nat → List Int) (mem : List Int) (ld term : Int) (w : World) (hr : RowsAt w Av n A L C Z) (hr1 : Rd w A1 (mem.map (Value.int .i64))) (hn1 : mem.length = n1) :
    Calls Try.prog 3 #[.slice Av n c, .slice A1 n1 c1, .int .i64 ld, .int .i64 term] w fun e w' => e = .returned (.bool true) ∧ Below w.heap.size w w' := by
  rw [← flatZ_map] at hr1
  by_cases h : 7 < n ∨ 10 < n1 ∨ ld < 0 ∨ (n : Int) ≤ ld ∨ (n1 ≤ 10 ∧ rightV mem = false)
  · exact safe_bad Av A1 n c n1 c1 mem ld term w hr1 hn1 h
  · obtain ⟨d, rfl⟩ : ∃ d : Nat, ld = (d : Int) := ⟨ld.toNat, by omega⟩
    have hm : rightV mem = true := by
      cases hm : rightV mem with
      | true => rfl
      | false => exact absurd (.inr (.inr (.inr (.inr ⟨by omega, hm⟩)))) h
    exact safe_good Av A1 n c n1 c1 d A L C Z mem term w hr hr1 hn1 (by omega) (by omega) (by omega) hm
end Go.Proofs.Ytmnndekpedacmaa
