/-
  What the document's Sum and Low and the program's lay give, for texts of any length below 2^63. No other condition.
-/
import Derived.Test.YtfgpadikmnhldaaSumWalks
namespace Go.Proofs.Ytfgpadikmnhldaa
open Go Go.RowKit


theorem u8info : (Try.prog.info? 5).map (fun i => (i.zero, i.size, i.bytes)) = some (some (.int .u8 0), 1, 1) := by kernel_rfl

end Go.Proofs.Ytfgpadikmnhldaa
