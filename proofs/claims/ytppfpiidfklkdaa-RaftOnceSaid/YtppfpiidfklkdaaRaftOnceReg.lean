/-
  One closed fact on the test of RaftOnce's round: its operations may be walked in the text's order. No condition.
-/
import Derived.Test.YtppfpiidfklkdaaRaftAlive
namespace Go.Proofs.Ytppfpiidfklkdaa
open Go Go.RowKit
/-- The region of this number. -/
def regionOf (n : Nat) : Code → Option Code
  | .region i ops d => if i = n then some (.region i ops d) else none
  | .seq a b => match regionOf n a with
    | some c => some c
    | none => regionOf n b
  | .block _ c => regionOf n c
  | .loop c => regionOf n c
  | .scope c => regionOf n c
  | .cond _ a b => match regionOf n a with
    | some c => some c
    | none => regionOf n b
  | _ => none
/-- Its operations. -/
def opsOf : Option Code → List Oper
  | some (.region _ ops _) => ops.toList
  | _ => []
noncomputable def onceOps : List Oper := opsOf (Try.f3.body.bind (regionOf 14))
set_option maxRecDepth 100000 in
theorem onceLex : Region.lexB .any onceOps.toArray = true := by kernel_rfl
end Go.Proofs.Ytppfpiidfklkdaa
