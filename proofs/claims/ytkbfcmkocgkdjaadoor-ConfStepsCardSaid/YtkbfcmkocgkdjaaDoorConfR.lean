/-
  What the document's Right gives. Condition: no more than a hundred thousand.
-/
import Derived.Test.YtkbfcmkocgkdjaaDoorQuorC
namespace Go.Proofs.YtkbfcmkocgkdjaaDoor
open Go Go.RowKit
attribute [local go_sem] cell_set_if

end Go.Proofs.YtkbfcmkocgkdjaaDoor
