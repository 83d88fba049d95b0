/-
  The walk of the law ConfTells, whatever its arguments: both cases joined. Conditions: the library's own variables are as told.
-/
import Derived.Test.YtkbfcmkocgkdjaaGreatDoorConfTellsW
namespace Go.Proofs.YtkbfcmkocgkdjaaGreatDoor
open Go Go.RowKit

theorem conftells_any (A0 A1 A2 : Option Addr) (n0 c0 n1 c1 n2 c2 : Nat) (l0 l1 l2 : List Int) (s : ByteArray) (id : Int) (w : World) (hp : PowIs w) (hm : MaxIs w)
    (r0 : Rd w A0 (l0.map (Value.int .i64))) (e0 : l0.length = n0) (hc0 : n0 ≤ c0) (r1 : Rd w A1 (l1.map (Value.int .i64))) (e1 : l1.length = n1) (r2 : Rd w A2 (l2.map (Value.int .i64))) (e2 : l2.length = n2) :
    Calls Tryz.prog 3 #[.slice A0 n0 c0, .slice A1 n1 c1, .slice A2 n2 c2, .string s, .int .i64 id] w fun e w' => e = .returned (.bool true) ∧ Below w.heap.size w w' := by
  rw [← flatZ_map] at r0 r1 r2
  by_cases h : 30 < n0 ∨ 30 < n1 ∨ 30 < n2 ∨ 60 < s.size
  · exact conftells_bad A0 A1 A2 n0 c0 n1 c1 n2 c2 s id w hp hm h
  · exact conftells_walk A0 A1 A2 n0 c0 n1 c1 n2 c2 l0 l1 l2 s id w hp hm r0 e0 hc0 r1 e1 r2 e2 (by omega) (by omega) (by omega) (by omega)
end Go.Proofs.YtkbfcmkocgkdjaaGreatDoor
