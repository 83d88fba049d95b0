/-
  How much room is left behind parts of given sizes. Conditions: the room is no more than 2^40; no more parts than a thousand.
-/
import Derived.Test.YtpkbfdgfdgkbkaaChecked
import Derived.Test.YtpkbfdgfdgkbkaaQuietNew
namespace Go.Proofs.Ytpkbfdgfdgkbkaa
open Go Go.RowKit

def natsV (l : List Nat) : List Value := l.map fun (x : Nat) => Value.int .i64 (x : Int)
theorem natsV_at (l : List Nat) (k x : Nat) (h : l[k]? = some x) : (natsV l)[k]? = some (.int .i64 (x : Int)) := by simp [natsV, h]
theorem take_sum (l : List Nat) (k x : Nat) (h : l[k]? = some x) : (l.take (k + 1)).sum = (l.take k).sum + x := by
  rw [List.take_add_one, h, List.sum_append]; simp
/-- What room is left. -/
inductive RoomR (e : Ending) (left : Int) (s : Nat) : Prop
  | mk (r : Int) (he : e = .returned (.int .i64 r)) (h : r = -1 ∨ 0 ≤ r ∧ r = left - s) : RoomR e left s
end Go.Proofs.Ytpkbfdgfdgkbkaa
