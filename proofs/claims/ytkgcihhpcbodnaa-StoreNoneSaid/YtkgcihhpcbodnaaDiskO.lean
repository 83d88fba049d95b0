/-
  What the methods of a nil disk tell. No condition.
-/
import Derived.Test.YtkgcihhpcbodnaaDiskW
namespace Go.Proofs.Ytkgcihhpcbodnaa
open Go Go.RowKit
attribute [local go_sem] cell_set_if

theorem non_nil (w : World) : Calls Try.prog 23 #[.pointer none] w fun e w' => e = .returned (.bool false) ∧ w' = w := by
  go_enter Try.func23, Try.ntmps23
  go_wp2
  go_ret
  exact ⟨rfl, rfl⟩
theorem nrestore_nil (w : World) : Calls Try.prog 19 #[.pointer none] w fun e w' => e = .returned (.tuple #[]) ∧ w' = w := by
  go_enter Try.func19, Try.ntmps19
  go_wp2
  go_end0
  exact ⟨rfl, rfl⟩
theorem ncrash_nil (A : Option Addr) (m c : Nat) (w : World) : Calls Try.prog 10 #[.pointer none, .slice A m c] w fun e w' => e = .returned (.int .i64 0) ∧ w' = w := by
  have HN := Lib.hid (non_nil w)
  go_enter Try.func10, Try.ntmps10
  go_wp2_with (go_at_call 23; refine HN.out.mono ?_; rintro e w1 ⟨rfl, hw⟩; obtain rfl := hw.symm)
  go_ret
  exact ⟨rfl, rfl⟩
theorem nfile_nil (s : ByteArray) (w : World) : Calls Try.prog 37 #[.pointer none, .string s] w fun e w' => e = .returned (.tuple #[.pointer none, .int .i64 14]) ∧ Below w.heap.size w w' := by
  go_enter Try.func37, Try.ntmps37
  go_wp2_with (go_at_call 49; refine (dmay_nil _ _ _ _).mono ?_; rintro e w1 ⟨rfl, hw⟩; subst hw)
  go_ret2
  exact ⟨rfl, (Below.refl _ _).alloc (Nat.le_refl _) _⟩
theorem nread_nil (s : ByteArray) (n : Int) (w : World) : Calls Try.prog 20 #[.pointer none, .string s, .int .i64 n] w fun e w' => e = .returned (.tuple #[.string ⟨#[]⟩, .int .i64 14]) ∧ Below w.heap.size w w' := by
  have HN := Lib.hid (nfile_nil s w)
  go_enter Try.func20, Try.ntmps20
  go_wp2_with (go_at_call 37; refine HN.out.mono ?_; rintro e w1 ⟨rfl, b1⟩)
  go_ret2
  exact ⟨rfl, b1⟩
theorem nsize_nil (s : ByteArray) (w : World) : Calls Try.prog 25 #[.pointer none, .string s] w fun e w' => e = .returned (.tuple #[.int .i64 0, .int .i64 14]) ∧ Below w.heap.size w w' := by
  have HN := Lib.hid (nfile_nil s w)
  go_enter Try.func25, Try.ntmps25
  go_wp2_with (go_at_call 37; refine HN.out.mono ?_; rintro e w1 ⟨rfl, b1⟩)
  go_ret2
  exact ⟨rfl, b1⟩
theorem nsync_nil (s : ByteArray) (w : World) : Calls Try.prog 35 #[.pointer none, .string s] w fun e w' => e = .returned (.int .i64 14) ∧ Below w.heap.size w w' := by
  have HN := Lib.hid (nfile_nil s w)
  go_enter Try.func35, Try.ntmps35
  go_wp2_with (go_at_call 37; refine HN.out.mono ?_; rintro e w1 ⟨rfl, b1⟩)
  go_ret
  exact ⟨rfl, b1⟩
theorem nwrite_nil (s x : ByteArray) (n : Int) (w : World) : Calls Try.prog 32 #[.pointer none, .string s, .int .i64 n, .string x] w fun e w' => e = .returned (.int .i64 14) ∧ Below w.heap.size w w' := by
  go_enter Try.func32, Try.ntmps32
  go_wp2_with (go_at_call 49; refine (dmay_nil _ _ _ _).mono ?_; rintro e w1 ⟨rfl, hw⟩; subst hw)
  go_ret
  exact ⟨rfl, (Below.refl _ _).alloc (Nat.le_refl _) _⟩
end Go.Proofs.Ytkgcihhpcbodnaa
