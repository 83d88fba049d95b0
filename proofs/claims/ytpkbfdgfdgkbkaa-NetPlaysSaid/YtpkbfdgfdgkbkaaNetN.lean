/-
  A nil net's calls. No condition.
-/
import Derived.Test.YtpkbfdgfdgkbkaaNetG
namespace Go.Proofs.Ytpkbfdgfdgkbkaa
open Go Go.RowKit
attribute [local go_sem] cell_set_if

theorem nhas_nil (k : Int) (w : World) : Calls Try.prog 23 #[.pointer none, .int .i64 k] w fun e w' => e = .returned (.bool false) ∧ w' = w := by
  go_enter Try.func23, Try.ntmps23
  go_wp2
  go_ret
  exact ⟨rfl, rfl⟩
theorem npeek_nil (k : Int) (w : World) : Calls Try.prog 14 #[.pointer none, .int .i64 k] w fun e w' => e = .returned (.tuple #[.agg #[.int .i64 0, .int .i64 0, .string ⟨#[]⟩], .bool false]) ∧ Below w.heap.size w w' := by
  go_enter Try.func14, Try.ntmps14
  go_wp2_with (go_at_call 23; refine (nhas_nil k _).mono ?_; rintro e w2 ⟨rfl, hw⟩; subst hw)
  refine bodyPost_ret (v := .tuple #[.agg #[.int .i64 0, .int .i64 0, .string ⟨#[]⟩], .bool false]) (by rw [results_cell_tmp rfl]; go_simp <;> rfl) rfl ⟨rfl, ?_⟩
  exact (Below.refl _ _).alloc (Nat.le_refl _) _
theorem ntake_nil (k : Int) (w : World) : Calls Try.prog 9 #[.pointer none, .int .i64 k] w fun e w' => e = .returned (.tuple #[.agg #[.int .i64 0, .int .i64 0, .string ⟨#[]⟩], .bool false]) ∧ Below w.heap.size w w' := by
  have ba : Below w.heap.size w (w.alloc (.cells #[.int .i64 0, .int .i64 0, .string ByteArray.empty] 29)) := (Below.refl _ _).alloc (Nat.le_refl _) _
  have K0 := Blk.new w 29 #[.int .i64 0, .int .i64 0, .string ByteArray.empty]
  go_enter Try.func9, Try.ntmps9
  go_upto_region 4 with (go_at_call 14; refine (npeek_nil k _).mono ?_; rintro e w2 ⟨rfl, b2⟩
                         have K2 := K0.below b2
                         have ba2 : Below w2.heap.size w2 (w2.alloc (.cells #[.int .i64 0, .int .i64 0, .string ⟨#[]⟩] 29)) := (Below.refl _ _).alloc (Nat.le_refl _) _
                         have X2 := Blk.new w2 29 #[.int .i64 0, .int .i64 0, .string ⟨#[]⟩]
                         have K3 := K2.below ba2
                         have BW := (ba.trans (b2.mono ba.size)).trans (ba2.mono (Nat.le_trans ba.size b2.size)))
  generalize w2.alloc (.cells #[.int .i64 0, .int .i64 0, .string ⟨#[]⟩] 29) = W at ba2 X2 K3 BW ⊢
  have h0x : w.heap.size ≠ w2.heap.size := fun e => by have := K2.lt; omega
  have q0 : W.cell? ⟨w2.heap.size, 0, none⟩ = some (.int .i64 0) := X2.cell 0
  have q1 : W.cell? ⟨w2.heap.size, 1, none⟩ = some (.int .i64 0) := X2.cell 1
  have q2 : W.cell? ⟨w2.heap.size, 2, none⟩ = some (.string ⟨#[]⟩) := X2.cell 2
  have p0 : W.cell? ⟨w.heap.size, 0, none⟩ = some (.int .i64 0) := K3.cell 0
  have p1 : W.cell? ⟨w.heap.size, 1, none⟩ = some (.int .i64 0) := K3.cell 1
  have p2 : W.cell? ⟨w.heap.size, 2, none⟩ = some (.string ByteArray.empty) := K3.cell 2
  have f0 := K3.free 0
  have f1 := K3.free 1
  have f2 := K3.free 2
  have HBW := Lib.hid BW
  clear K0 K2 ba ba2 b2 BW X2 K3
  go_wp2
  refine bodyPost_ret (v := .tuple #[.agg #[.int .i64 0, .int .i64 0, .string ⟨#[]⟩], .bool false]) (by rw [results_cell_tmp rfl]; go_simp <;> rfl) rfl ⟨rfl, ?_⟩
  repeat (refine Below.setCell ?_ (by exact Nat.le_refl _) _)
  exact HBW.out
theorem nsend_nil (A : Option Addr) (n c : Nat) (w : World) : Calls Try.prog 8 #[.pointer none, .slice A n c] w fun e w' => e = .returned (.int .i64 0) ∧ w' = w := by
  go_enter Try.func8, Try.ntmps8
  go_wp2
  go_ret
  exact ⟨rfl, rfl⟩
theorem nlen_nil (w : World) : Calls Try.prog 10 #[.pointer none] w fun e w' => e = .returned (.int .i64 0) ∧ w' = w := by
  go_enter Try.func10, Try.ntmps10
  go_wp2
  go_ret
  exact ⟨rfl, rfl⟩
theorem nclear_nil (w : World) : Calls Try.prog 13 #[.pointer none] w fun e w' => e = .returned (.int .i64 0) ∧ w' = w := by
  go_enter Try.func13, Try.ntmps13
  go_wp2
  go_ret
  exact ⟨rfl, rfl⟩
theorem ndouble_nil (k : Int) (w : World) : Calls Try.prog 11 #[.pointer none, .int .i64 k] w fun e w' => e = .returned (.bool false) ∧ Below w.heap.size w w' := by
  have HPK := Lib.hid (npeek_nil k w)
  go_enter Try.func11, Try.ntmps11
  go_wp2_with (go_at_call 14; with_reducible refine HPK.out.mono ?_; rintro e w2 ⟨rfl, b2⟩)
  go_ret
  exact ⟨rfl, b2.trans (((Below.refl _ _).alloc (Nat.le_refl _) _).mono b2.size)⟩
theorem nswap_nil (k j : Int) (w : World) : Calls Try.prog 12 #[.pointer none, .int .i64 k, .int .i64 j] w fun e w' => e = .returned (.bool false) ∧ w' = w := by
  go_enter Try.func12, Try.ntmps12
  go_wp2_with (go_at_call 23; refine (nhas_nil _ _).mono ?_; rintro e w2 ⟨rfl, hw⟩; subst hw)
  go_ret
  exact ⟨rfl, rfl⟩
end Go.Proofs.Ytpkbfdgfdgkbkaa
