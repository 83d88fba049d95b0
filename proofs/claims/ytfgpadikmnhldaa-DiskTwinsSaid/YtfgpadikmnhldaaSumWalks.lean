/-
  What sum.half, sum.Of, sum.lay and the document's Sum and Low give, for texts of any length below 2^63. No other condition.
-/
import Derived.Test.YtfgpadikmnhldaaRows
import Derived.Test.YtfgpadikmnhldaaOne
namespace Go.Proofs.Ytfgpadikmnhldaa
open Go Go.RowKit

/-- The bytes of the first k texts. -/
def catN (ss : List ByteArray) (k : Nat) : List UInt8 := (ss.take k).flatMap bts
theorem catN_succ (ss : List ByteArray) (k : Nat) (s : ByteArray) (h : ss[k]? = some s) : catN ss (k + 1) = catN ss k ++ bts s := by
  unfold catN
  rw [List.take_add_one, h]; simp

theorem one_byte (x : Nat) (b : UInt8) (l : List UInt8) :
    (shN 4 (shN 4 (crcL x l ^^^ b.toNat))) = crcL x (l ++ [b]) := by
  rw [crcL_snoc, ← shN_add]

end Go.Proofs.Ytfgpadikmnhldaa
