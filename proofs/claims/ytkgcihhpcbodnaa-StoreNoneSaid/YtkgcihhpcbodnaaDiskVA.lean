/-
  A disk behind its pointer alone: Dirty and Arm. Conditions: as each call's own contract.
-/
import Derived.Test.YtkgcihhpcbodnaaDiskAlive
namespace Go.Proofs.Ytkgcihhpcbodnaa
open Go Go.RowKit

section
variable {w w' : World} {base g : Nat} {d d' : Ds}
end
end Go.Proofs.Ytkgcihhpcbodnaa
