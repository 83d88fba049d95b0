/-
  A book that keeps no list of a kind: what it does with that kind. Condition: the book lies in memory.
-/
import Derived.Test.YtmnndekpedacmaaChecked
import Derived.Test.YtmnndekpedacmaaQuietNew
namespace Go.Proofs.Ytmnndekpedacmaa
open Go Go.RowKit

end Go.Proofs.Ytmnndekpedacmaa
