/-
  The walk of the law RaftTells, whatever its arguments: both cases joined. Conditions: the two of its ballot's first number and of its ask's last.
-/
import Derived.Test.YtmnndekpedacmaaRaftTellsW
import Derived.Test.YtmnndekpedacmaaRaftTellsG
namespace Go.Proofs.Ytmnndekpedacmaa
open Go Go.RowKit

theorem rafttells_walk (t f i tm : Int) (A3 A4 A5 A6 : Option Addr) (n3 c3 n4 c4 n5 c5 n6 c6 : Nat) (heard : Bool) (zt zm zx za : List Int) (w : World)
    (hr3 : Rd w A3 (zt.map (Value.int .i64))) (hn3 : zt.length = n3) (hr4 : Rd w A4 (zm.map (Value.int .i64))) (hn4 : zm.length = n4) (hr5 : Rd w A5 (zx.map (Value.int .i64))) (hn5 : zx.length = n5) (hr6 : Rd w A6 (za.map (Value.int .i64))) (hn6 : za.length = n6)
    (ht : -9223372036854775808 ≤ t) (ha : ∀ z ∈ za, z ≤ 9223372036854775807) :
    Calls Try.prog 4 #[bal t f, .int .i64 i, .int .i64 tm, .slice A3 n3 c3, .slice A4 n4 c4, .slice A5 n5 c5, .slice A6 n6 c6, .bool heard] w fun e w' => e = .returned (.bool true) ∧ Below w.heap.size w w' := by
  by_cases hb : 60 < n3 ∨ 20 < n4 ∨ 20 < n5 ∨ n6 ≠ 5 ∨ 1099511627776 < i ∨ i < -5
  · exact tells25_bad t f i tm A3 A4 A5 A6 n3 c3 n4 c4 n5 c5 n6 c6 heard w hb
  · have h6 : n6 = 5 := by omega
    subst h6
    obtain ⟨a0, a1, a2, a3, a4, rfl⟩ : ∃ a0 a1 a2 a3 a4, za = [a0, a1, a2, a3, a4] := by
      match za, hn6 with
      | [a0, a1, a2, a3, a4], _ => exact ⟨a0, a1, a2, a3, a4, rfl⟩
    have h4 := ha a4 (by simp)
    rw [← flatZ_map] at hr3 hr4 hr5 hr6
    exact tells25_good t f i tm A3 A4 A5 A6 n3 c3 n4 c4 n5 c5 c6 heard zt zm zx a0 a1 a2 a3 a4 w (by omega) (by omega) (by omega) (by omega) (by omega) hr3 hn3 hr4 hn4 hr5 hn5 hr6 ht h4
end Go.Proofs.Ytmnndekpedacmaa
