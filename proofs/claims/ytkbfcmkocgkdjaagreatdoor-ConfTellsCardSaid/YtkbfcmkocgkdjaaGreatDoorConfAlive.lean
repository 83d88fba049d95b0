/-
  The first call of the laws on members. Condition: the library's own variables are as told.
-/
import Derived.Test.YtkbfcmkocgkdjaaGreatDoorConfL
import Derived.Test.YtkbfcmkocgkdjaaGreatDoorConfI
namespace Go.Proofs.YtkbfcmkocgkdjaaGreatDoor
open Go Go.RowKit
attribute [local go_sem] cell_set_if

theorem alive22_any (w : World) (hp : PowIs w) (hm : MaxIs w) : Calls Tryz.prog 4 #[] w fun e w' => e = .returned (.bool true) ∧ Below w.heap.size w w' := by
  have hT : ∀ W A c, PowIs W → Rd W A (flatZ [0, 1, 2]) → Calls Tryz.prog 6 #[.slice A 3 c] W fun e w' => e = .returned (.tuple #[.string ⟨#[48, 44, 49, 44, 50]⟩, .int .i64 0]) ∧ Below W.heap.size W w' := fun W A c h1 h2 => by
    have := ctext_any A 3 c [0, 1, 2] W h2 rfl (by omega) h1
    rw [show textV [0, 1, 2] = ([48, 44, 49, 44, 50], 0) by decide] at this
    exact this
  have hR : ∀ W, MaxIs W → Calls Tryz.prog 8 #[.string ⟨#[48, 44, 49, 44, 50]⟩] W fun e w' => ∃ B d, e = .returned (.tuple #[.slice B 3 d, .int .i64 0]) ∧ Rd w' B (flatZ [0, 1, 2]) ∧ Below W.heap.size W w' := fun W h => by
    refine (cread_any ⟨#[48, 44, 49, 44, 50]⟩ W (by decide) h).mono ?_
    rintro e w' ⟨⟨B, m, d, h1, h2, h3⟩, h4⟩
    have he : readV (bts ⟨#[48, 44, 49, 44, 50]⟩) = ([0, 1, 2], 0) := by decide
    rw [he] at h1 h2 h3
    obtain rfl : 3 = m := h2
    exact ⟨B, d, h1, Rd.of_own h3, h4⟩
  have hI : ∀ W A c B d, Rd W A (flatZ [0, 1, 2]) → Rd W B (flatZ [5, 3, 9]) → Calls Tryz.prog 21 #[.slice A 3 c, .slice B 3 d] W fun e w' => e = .returned (.int .i64 5) ∧ Below W.heap.size W w' := fun W A c B d h1 h2 => by
    have := cindex_any A B 3 c 3 d [0, 1, 2] [5, 3, 9] W h1 rfl h2 rfl (by omega) (by omega)
    rw [show idxV [0, 1, 2] [5, 3, 9] = 5 by unfold idxV; rw [if_pos (by decide), ← best_mid (by decide)]; decide] at this
    exact this
  have hQ : ∀ W A c B d, Rd W A (flatZ [0, 1, 2]) → Rd W B (flatZ [0, 2]) → Calls Tryz.prog 19 #[.slice A 3 c, .slice B 2 d] W fun e w' => e = .returned (.bool true) ∧ Qt W w' := fun W A c B d h1 h2 => by
    have := cquorum_any A B 3 c 2 d [0, 1, 2] [0, 2] W h1 rfl h2 rfl (by omega) (by omega)
    rw [show quorV [0, 1, 2] [0, 2] = true by decide] at this
    exact this
  have HT := Lib.hid hT
  have HR := Lib.hid hR
  have HI := Lib.hid hI
  have HQ := Lib.hid hQ
  clear hT hR hI hQ
  have B0 : Below w.heap.size w (w.alloc (.cells #[.int .i64 0, .int .i64 1, .int .i64 2] 3)) := (Below.refl _ _).alloc (Nat.le_refl _) _
  go_enter Tryz.func4, Tryz.ntmps4
  go_wp2_with (first
    | (go_at_call 6; refine (HT.out _ _ _ (powIs_below hp B0) (Rd.new w _ _)).mono ?_; rintro e w1 ⟨rfl, b1⟩; have B1 := below_of b1 B0 B0.size)
    | (go_at_call 8; refine (HR.out _ (maxIs_below hm B1)).mono ?_; rintro e w2 ⟨B, d, rfl, r2, b2⟩; have B2 := below_of b2 B1 B1.size; have A2 : Below w2.heap.size w2 (w2.alloc (.cells #[.int .i64 5, .int .i64 3, .int .i64 9] 3)) := (Below.refl _ _).alloc (Nat.le_refl _) _)
    | (go_at_call 21; refine (HI.out _ _ _ _ _ (r2.alloc _) (Rd.new w2 _ _)).mono ?_; rintro e w3 ⟨rfl, b3⟩; have r3 := (r2.alloc _).below b3; have B3 := below_of (below_of b3 A2 A2.size) B2 B2.size)
    | (go_at_call 19; refine (HQ.out _ _ _ _ _ (r3.alloc _) (Rd.new w3 _ _)).mono ?_; rintro e w4 ⟨rfl, q4⟩))
  go_ret
  exact ⟨rfl, (B3.alloc B3.size _).trans (q4.below _)⟩
end Go.Proofs.YtkbfcmkocgkdjaaGreatDoor
