/-
  What the methods of a nil disk tell. No condition.
-/
import Derived.Test.YtfgpadikmnhldaaDiskW
namespace Go.Proofs.Ytfgpadikmnhldaa
open Go Go.RowKit
attribute [local go_sem] cell_set_if

theorem non_nil (w : World) : Calls Try.prog 13 #[.pointer none] w fun e w' => e = .returned (.bool false) ∧ w' = w := by
  go_enter Try.func13, Try.ntmps13
  go_wp2
  go_ret
  exact ⟨rfl, rfl⟩
theorem nrestore_nil (w : World) : Calls Try.prog 18 #[.pointer none] w fun e w' => e = .returned (.tuple #[]) ∧ w' = w := by
  go_enter Try.func18, Try.ntmps18
  go_wp2
  go_end0
  exact ⟨rfl, rfl⟩
theorem ndirty_nil (w : World) : Calls Try.prog 11 #[.pointer none] w fun e w' => e = .returned (.int .i64 0) ∧ w' = w := by
  go_enter Try.func11, Try.ntmps11
  go_wp2
  go_ret
  exact ⟨rfl, rfl⟩
theorem ncrash_nil (A : Option Addr) (m c : Nat) (w : World) : Calls Try.prog 17 #[.pointer none, .slice A m c] w fun e w' => e = .returned (.int .i64 0) ∧ w' = w := by
  have HN := Lib.hid (non_nil w)
  go_enter Try.func17, Try.ntmps17
  go_wp2_with (go_at_call 13; refine HN.out.mono ?_; rintro e w1 ⟨rfl, hw⟩; obtain rfl := hw.symm)
  go_ret
  exact ⟨rfl, rfl⟩
theorem ntwin_nil (w : World) : Calls Try.prog 8 #[.pointer none] w fun e w' => e = .returned (.pointer none) ∧ w' = w := by
  go_enter Try.func8, Try.ntmps8
  go_wp2
  go_ret
  exact ⟨rfl, rfl⟩
theorem nlist_nil (s : ByteArray) (w : World) : Calls Try.prog 9 #[.pointer none, .string s] w fun e w' => e = .returned (.slice none 0 0) ∧ Below w.heap.size w w' := by
  go_enter Try.func9, Try.ntmps9
  go_wp2_with (go_at_call 13; refine (non_nil _).mono ?_; rintro e w1 ⟨rfl, hw⟩; subst hw)
  go_ret
  exact ⟨rfl, (Below.refl _ _).alloc (Nat.le_refl _) _⟩
theorem nfile_nil (s : ByteArray) (w : World) : Calls Try.prog 38 #[.pointer none, .string s] w fun e w' => e = .returned (.tuple #[.pointer none, .int .i64 14]) ∧ Below w.heap.size w w' := by
  go_enter Try.func38, Try.ntmps38
  go_wp2_with (go_at_call 32; refine (dmay_nil _ _ _ _).mono ?_; rintro e w1 ⟨rfl, hw⟩; subst hw)
  go_ret2
  exact ⟨rfl, (Below.refl _ _).alloc (Nat.le_refl _) _⟩
theorem nread_nil (s : ByteArray) (n : Int) (w : World) : Calls Try.prog 19 #[.pointer none, .string s, .int .i64 n] w fun e w' => e = .returned (.tuple #[.string ⟨#[]⟩, .int .i64 14]) ∧ Below w.heap.size w w' := by
  have HN := Lib.hid (nfile_nil s w)
  go_enter Try.func19, Try.ntmps19
  go_wp2_with (go_at_call 38; refine HN.out.mono ?_; rintro e w1 ⟨rfl, b1⟩)
  go_ret2
  exact ⟨rfl, b1⟩
theorem nsize_nil (s : ByteArray) (w : World) : Calls Try.prog 20 #[.pointer none, .string s] w fun e w' => e = .returned (.tuple #[.int .i64 0, .int .i64 14]) ∧ Below w.heap.size w w' := by
  have HN := Lib.hid (nfile_nil s w)
  go_enter Try.func20, Try.ntmps20
  go_wp2_with (go_at_call 38; refine HN.out.mono ?_; rintro e w1 ⟨rfl, b1⟩)
  go_ret2
  exact ⟨rfl, b1⟩
theorem nsync_nil (s : ByteArray) (w : World) : Calls Try.prog 21 #[.pointer none, .string s] w fun e w' => e = .returned (.int .i64 14) ∧ Below w.heap.size w w' := by
  have HN := Lib.hid (nfile_nil s w)
  go_enter Try.func21, Try.ntmps21
  go_wp2_with (go_at_call 38; refine HN.out.mono ?_; rintro e w1 ⟨rfl, b1⟩)
  go_ret
  exact ⟨rfl, b1⟩
theorem ncut_nil (s : ByteArray) (n : Int) (w : World) : Calls Try.prog 22 #[.pointer none, .string s, .int .i64 n] w fun e w' => e = .returned (.int .i64 14) ∧ Below w.heap.size w w' := by
  have HN := Lib.hid (nfile_nil s w)
  go_enter Try.func22, Try.ntmps22
  go_wp2_with (go_at_call 38; refine HN.out.mono ?_; rintro e w1 ⟨rfl, b1⟩)
  go_ret
  exact ⟨rfl, b1⟩
theorem nremove_nil (s : ByteArray) (w : World) : Calls Try.prog 24 #[.pointer none, .string s] w fun e w' => e = .returned (.int .i64 14) ∧ Below w.heap.size w w' := by
  have HN := Lib.hid (nfile_nil s w)
  go_enter Try.func24, Try.ntmps24
  go_wp2_with (go_at_call 38; refine HN.out.mono ?_; rintro e w1 ⟨rfl, b1⟩)
  go_ret
  exact ⟨rfl, b1⟩
theorem nrename_nil (s t : ByteArray) (w : World) : Calls Try.prog 23 #[.pointer none, .string s, .string t] w fun e w' => e = .returned (.int .i64 14) ∧ Below w.heap.size w w' := by
  go_enter Try.func23, Try.ntmps23
  go_wp2_with (go_at_call 32; refine (dmay_nil _ _ _ _).mono ?_; rintro e w1 ⟨rfl, hw⟩; subst hw)
  go_ret
  exact ⟨rfl, (Below.refl _ _).alloc (Nat.le_refl _) _⟩
theorem nwrite_nil (s x : ByteArray) (n : Int) (w : World) : Calls Try.prog 16 #[.pointer none, .string s, .int .i64 n, .string x] w fun e w' => e = .returned (.int .i64 14) ∧ Below w.heap.size w w' := by
  go_enter Try.func16, Try.ntmps16
  go_wp2_with (go_at_call 32; refine (dmay_nil _ _ _ _).mono ?_; rintro e w1 ⟨rfl, hw⟩; subst hw)
  go_ret
  exact ⟨rfl, (Below.refl _ _).alloc (Nat.le_refl _) _⟩
end Go.Proofs.Ytfgpadikmnhldaa
