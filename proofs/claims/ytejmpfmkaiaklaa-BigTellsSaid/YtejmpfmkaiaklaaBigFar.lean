/-
  What the document's LayBig gives where a value is refused at once. Condition: a value no longer than memory holds.
-/
import Derived.Test.YtejmpfmkaiaklaaBigRef
namespace Go.Proofs.Ytejmpfmkaiaklaa
open Go Go.RowKit
attribute [local go_sem] cell_set_if

set_option maxRecDepth 100000 in
theorem reflay_far (v : ByteArray) (first tx : Int) (w : World) (hm : v.size ≤ 9223372036854775807) (h : 2000 < v.size ∨ first < 2) :
    Calls Try.prog 19 #[.string v, .int .i64 first, .int .i64 tx] w fun e w' => e = .returned (.tuple #[.slice none 0 0, .int .i64 1]) ∧ w' = w := by
  have hm' : (v.size : Int) ≤ 9223372036854775807 := by omega
  have hcs : 2000 < (v.size : Int) ∨ ((v.size : Int) ≤ 2000 ∧ first < 2) := by omega
  clear h hm
  rcases hcs with h | ⟨h0, h⟩
  all_goals
    go_enter Try.func19, Try.ntmps19
    go_wp2
    go_ret2
    exact ⟨rfl, rfl⟩

set_option maxRecDepth 100000 in
set_option maxHeartbeats 1000000 in
theorem reflay_high (v : ByteArray) (first tx : Int) (w : World) (hz : v.size ≤ 2000) (h : 4000 ≤ first) :
    Calls Try.prog 19 #[.string v, .int .i64 first, .int .i64 tx] w fun e w' => e = .returned (.tuple #[.slice none 0 0, .int .i64 1]) ∧ Below w.heap.size w w' := by
  have hz' : (v.size : Int) ≤ 2000 := by omega
  have h2 : 2 ≤ first := by omega
  have hpos : (1 : Int) ≤ (needN v.size : Int) := by have := needN_pos v.size; omega
  have HN := Lib.hid (fun w => refneed_nat v.size w (by omega))
  generalize needN v.size = N at *
  go_enter Try.func19, Try.ntmps19
  go_wp2
  go_loopw [8, 9] (fun u8 u9 wr => u8 = .slice none 0 0 ∧ u9 = .int .i64 0 ∧ wr = w) (fun _ _ _ => 0)
  case atStart => exact ⟨rfl, rfl, rfl⟩
  case round =>
    obtain ⟨rfl, rfl, rfl⟩ := hrel
    have hB := (Below.refl wr.heap.size wr).alloc (Nat.le_refl _)
    go_wp2_with (go_at_call 22; refine (HN.out _).mono ?_; rintro e w3 ⟨rfl, hw3⟩; subst hw3)
    go_ret2
    exact ⟨rfl, (Below.refl _ _).alloc (Nat.le_refl _) _⟩
end Go.Proofs.Ytejmpfmkaiaklaa
