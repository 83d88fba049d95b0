/-
  The disk laws' first calls answer as they should. No condition.
-/
import Derived.Test.YtkgcihhpcbodnaaDiskV
namespace Go.Proofs.Ytkgcihhpcbodnaa
open Go Go.RowKit
attribute [local go_sem] cell_set_if

end Go.Proofs.Ytkgcihhpcbodnaa
