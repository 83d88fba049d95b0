/-
  HistJoins for every input: the walks joined. Condition: slices that may be.
-/
import Derived.Test.YtcmjijlegmdebaaHistJoinsW
namespace Go.Proofs.Ytcmjijlegmdebaa
open Go Go.RowKit

theorem histjoins_walk (A0 A1 A2 : Option Addr) (n0 c0 n1 c1 n2 c2 : Nat) (z0 z1 z2 : List Int) (bt : Int) (w : World) (r0 : Rd w A0 (z0.map (Value.int .i64))) (e0 : z0.length = n0) (r1 : Rd w A1 (z1.map (Value.int .i64))) (e1 : z1.length = n1) (r2 : Rd w A2 (z2.map (Value.int .i64))) (e2 : z2.length = n2)
    (m0 : n0 ≤ maxLen) (m1 : n1 ≤ maxLen) (m2 : n2 ≤ maxLen) :
    Calls Try.prog 6 #[.slice A0 n0 c0, .slice A1 n1 c1, .slice A2 n2 c2, .int .i64 bt] w fun e w' => e = .returned (.bool true) ∧ Below w.heap.size w w' := by
  unfold maxLen at m0 m1 m2
  by_cases h : n0 ≤ 40 ∧ n1 ≤ 40 ∧ n2 ≤ 40 ∧ 1 ≤ bt ∧ bt ≤ 50
  · obtain ⟨h0, h1, h2, h3, h4⟩ := h
    exact histjoins_yes A0 A1 A2 n0 c0 n1 c1 n2 c2 z0 z1 z2 bt w r0 e0 r1 e1 r2 e2 h0 h1 h2 h3 h4
  · exact histjoins_no A0 A1 A2 n0 c0 n1 c1 n2 c2 bt w m0 m1 m2 (by omega)
end Go.Proofs.Ytcmjijlegmdebaa
