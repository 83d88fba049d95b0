/-
  pack.Digits: a number's digits. Condition: the library's table of powers of ten is as its text lays it.
-/
import Derived.Test.YtkbfcmkocgkdjaaGreatDoorBase
import Derived.Test.YtkbfcmkocgkdjaaGreatDoorLayItoa
namespace Go.Proofs.YtkbfcmkocgkdjaaGreatDoor
open Go Go.RowKit

abbrev PowIs (w : World) : Prop := Lib.TabIs Tryz.prog w "internal/strconv.uint64pow10" .u64 Lib.pow10Tab

theorem digits_any (v : Int) (w : World) (h0 : -9223372036854775808 ≤ v) (h1 : v ≤ 9223372036854775807) (ht : PowIs w) :
    Calls Tryz.prog 27 #[.int .i64 v] w fun e w' => e = .returned (str (Lib.itoa v)) ∧ Below w.heap.size w w' := by
  obtain ⟨S, hS⟩ : ∃ S, S = bs (Lib.itoa v) := ⟨_, rfl⟩
  have hI : ∀ w, PowIs w → Calls Tryz.prog 78 #[.int .i64 v] w fun e w' => e = .returned (.string S) ∧ Below w.heap.size w w' := fun w ht => by
    rw [hS]; exact itoa_any v h0 h1 w ht
  have e0 : str (Lib.itoa v) = .string S := by rw [hS]
  rw [e0]
  clear hS e0
  have HI := Lib.hid hI
  clear hI
  go_enter Tryz.func27, Tryz.ntmps27
  go_wp2_with (go_at_call 78; refine (HI.out _ ht).mono ?_; rintro e w1 ⟨rfl, q1⟩)
  go_ret
  exact ⟨rfl, q1⟩
end Go.Proofs.YtkbfcmkocgkdjaaGreatDoor
