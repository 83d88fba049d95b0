/-
  slices.Clone of ints: a list of the call's own. Condition: no more than a million.
-/
import Derived.Test.YtkgcihhpcbodnaaDelP
import Derived.Test.YtkgcihhpcbodnaaOne
import Derived.Lib.BufferMore
namespace Go.Proofs.Ytkgcihhpcbodnaa
open Go Go.RowKit
attribute [local go_sem] cell_set_if

end Go.Proofs.Ytkgcihhpcbodnaa
