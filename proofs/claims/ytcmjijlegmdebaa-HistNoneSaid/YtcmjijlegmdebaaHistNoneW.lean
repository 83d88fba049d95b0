/-
  The walk of the law HistNone: for every input it returns true and changes nothing that was there. No condition.
-/
import Derived.Test.YtcmjijlegmdebaaHistAlive
namespace Go.Proofs.Ytcmjijlegmdebaa
open Go Go.RowKit

theorem nil_term (a : Int) (w : World) : Calls Try.prog 29 #[.pointer none, .int .i64 a] w fun e w' => e = .returned (.tuple #[.int .i64 0, .bool false]) ∧ w' = w := by
  go_enter Try.func29, Try.ntmps29
  go_wp2
  go_ret2
  exact ⟨rfl, rfl⟩
theorem nil_last (w : World) : Calls Try.prog 21 #[.pointer none] w fun e w' => e = .returned (.int .i64 0) ∧ w' = w := by
  go_enter Try.func21, Try.ntmps21
  go_wp2
  go_ret
  exact ⟨rfl, rfl⟩
theorem nil_first (w : World) : Calls Try.prog 30 #[.pointer none] w fun e w' => e = .returned (.int .i64 0) ∧ w' = w := by
  go_enter Try.func30, Try.ntmps30
  go_wp2
  go_ret
  exact ⟨rfl, rfl⟩
theorem nil_lastterm (w : World) : Calls Try.prog 22 #[.pointer none] w fun e w' => e = .returned (.int .i64 0) ∧ Qt w w' := by
  go_enter Try.func22, Try.ntmps22
  go_wp2_with (first
    | (go_at_call 21; refine (nil_last _).mono ?_; rintro e w1 ⟨rfl, hw⟩; subst hw)
    | (go_at_call 29; refine (nil_term _ _).mono ?_; rintro e w1 ⟨rfl, hw⟩; subst hw))
  go_ret
  exact ⟨rfl, Qt.refl _⟩
theorem nil_cut (a : Int) (w : World) : Calls Try.prog 36 #[.pointer none, .int .i64 a] w fun e w' => e = .returned (.int .i64 0) ∧ w' = w := by
  go_enter Try.func36, Try.ntmps36
  go_wp2
  go_ret
  exact ⟨rfl, rfl⟩
theorem nil_trim (a : Int) (w : World) : Calls Try.prog 28 #[.pointer none, .int .i64 a] w fun e w' => e = .returned (.int .i64 0) ∧ w' = w := by
  go_enter Try.func28, Try.ntmps28
  go_wp2_with (go_at_call 29; refine (nil_term _ _).mono ?_; rintro e w1 ⟨rfl, hw⟩; subst hw)
  go_ret
  exact ⟨rfl, rfl⟩
theorem nil_back (a b : Int) (w : World) : Calls Try.prog 34 #[.pointer none, .int .i64 a, .int .i64 b] w fun e w' => e = .returned (.int .i64 0) ∧ w' = w := by
  go_enter Try.func34, Try.ntmps34
  go_wp2
  go_ret
  exact ⟨rfl, rfl⟩
theorem nil_has (a b : Int) (w : World) : Calls Try.prog 31 #[.pointer none, .int .i64 a, .int .i64 b] w fun e w' => e = .returned (.bool false) ∧ w' = w := by
  go_enter Try.func31, Try.ntmps31
  go_wp2_with (go_at_call 29; refine (nil_term _ _).mono ?_; rintro e w1 ⟨rfl, hw⟩; subst hw)
  go_ret
  exact ⟨rfl, rfl⟩
theorem nil_append (v : Value) (w : World) : Calls Try.prog 27 #[.pointer none, v] w fun e w' => e = .returned (.int .i64 1) ∧ w' = w := by
  go_enter Try.func27, Try.ntmps27
  go_wp2
  go_ret
  exact ⟨rfl, rfl⟩
theorem nil_slice (a b : Int) (w : World) : Calls Try.prog 33 #[.pointer none, .int .i64 a, .int .i64 b] w fun e w' => e = .returned (.slice none 0 0) ∧ w' = w := by
  go_enter Try.func33, Try.ntmps33
  go_wp2
  go_ret
  exact ⟨rfl, rfl⟩
theorem nil_join (a b : Int) (v : Value) (w : World) : Calls Try.prog 35 #[.pointer none, .int .i64 a, .int .i64 b, v] w fun e w' => e = .returned (.tuple #[.int .i64 0, .slice none 0 0, .bool false]) ∧ w' = w := by
  go_enter Try.func35, Try.ntmps35
  go_wp2
  go_ret3
  exact ⟨rfl, rfl⟩
theorem nil_newer (a b : Int) (w : World) : Calls Try.prog 20 #[.pointer none, .int .i64 a, .int .i64 b] w fun e w' => e = .returned (.bool false) ∧ w' = w := by
  go_enter Try.func20, Try.ntmps20
  go_wp2
  go_ret
  exact ⟨rfl, rfl⟩

set_option maxRecDepth 100000 in
set_option maxHeartbeats 4000000 in
theorem none_walk (a b : Int) (w : World) :
    Calls Try.prog 8 #[.int .i64 a, .int .i64 b] w fun e w' => e = .returned (.bool true) ∧ Below w.heap.size w w' := by
  go_enter Try.func8, Try.ntmps8
  go_wp2_with (first
    | (go_at_call 25; refine (alive23_any _).mono ?_; rintro e w1 ⟨rfl, b1⟩)
    | (go_at_call 29; refine (nil_term _ _).mono ?_; rintro e w2 ⟨rfl, hw⟩; subst hw)
    | (go_at_call 35; refine (nil_join _ _ _ _).mono ?_; rintro e w2 ⟨rfl, hw⟩; subst hw)
    | (go_at_call 30; refine (nil_first _).mono ?_; rintro e w2 ⟨rfl, hw⟩; subst hw)
    | (go_at_call 21; refine (nil_last _).mono ?_; rintro e w2 ⟨rfl, hw⟩; subst hw)
    | (go_at_call 22; refine (nil_lastterm _).mono ?_; rintro e w3 ⟨rfl, q3⟩; have b3 := q3.below w.heap.size)
    | (go_at_call 36; refine (nil_cut _ _).mono ?_; rintro e w2 ⟨rfl, hw⟩; subst hw)
    | (go_at_call 28; refine (nil_trim _ _).mono ?_; rintro e w2 ⟨rfl, hw⟩; subst hw)
    | (go_at_call 34; refine (nil_back _ _ _).mono ?_; rintro e w2 ⟨rfl, hw⟩; subst hw)
    | (go_at_call 31; refine (nil_has _ _ _).mono ?_; rintro e w2 ⟨rfl, hw⟩; subst hw)
    | (go_at_call 27; refine (nil_append _ _).mono ?_; rintro e w4 ⟨rfl, hw4⟩; subst hw4)
    | (go_at_call 33; refine (nil_slice _ _ _).mono ?_; rintro e w5 ⟨rfl, hw⟩; subst hw)
    | (go_at_call 20; refine (nil_newer _ _ _).mono ?_; rintro e w6 ⟨rfl, hw⟩; subst hw))
  go_ret
  exact ⟨rfl, (b1.trans b3).alloc (b1.trans b3).size _⟩
end Go.Proofs.Ytcmjijlegmdebaa
