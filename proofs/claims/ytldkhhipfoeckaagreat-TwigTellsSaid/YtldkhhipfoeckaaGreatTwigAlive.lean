/-
  The first call of the twig laws answers true.
-/
import Derived.Test.YtldkhhipfoeckaaGreatKidMore
namespace Go.Proofs.YtldkhhipfoeckaaGreat
open Go Go.RowKit
attribute [local go_sem] cell_set_if

def ks0 : List Kd := [⟨⟨#[]⟩, 5⟩, ⟨⟨#[109]⟩, 7⟩]
theorem ks0_at (i : Nat) (x : Kd) (h : ks0[i]? = some x) : (i = 0 ∧ x = ⟨⟨#[]⟩, 5⟩) ∨ (i = 1 ∧ x = ⟨⟨#[109]⟩, 7⟩) := by
  unfold ks0 at h
  rcases i with _ | _ | i
  · simp at h; exact .inl ⟨rfl, h.symm⟩
  · simp at h; exact .inr ⟨rfl, h.symm⟩
  · simp at h
theorem lt_em : ltB ⟨#[]⟩ ⟨#[109]⟩ = true := by decide
theorem right0 : RightK ks0 := by
  refine ⟨fun i x h => ?_, fun i x y hx hy => ?_⟩
  · rcases ks0_at i x h with ⟨_, rfl⟩ | ⟨_, rfl⟩ <;> decide
  · rcases ks0_at i x hx with ⟨rfl, rfl⟩ | ⟨rfl, rfl⟩
    · rcases ks0_at _ y hy with ⟨h, _⟩ | ⟨_, rfl⟩
      · omega
      · exact lt_em
    · rcases ks0_at _ y hy with ⟨h, _⟩ | ⟨h, _⟩ <;> omega
theorem lay0 : layL10 ks0 = [2, 5, 0, 0, 0, 7, 0, 1, 0, 109] := by decide
theorem sum0 : sumK ks0 = 9 := by decide
theorem layR0 : layR ks0 = (⟨#[2, 5, 0, 0, 0, 7, 0, 1, 0, 109]⟩, 0) := by
  rw [layR_ok (by rintro (h | h); cases h; exact h right0) (by rw [sum0]; decide), lay0]; rfl
theorem kids0 : kidsOf ⟨#[2, 5, 0, 0, 0, 7, 0, 1, 0, 109]⟩ = ks0 := by rfl
theorem kidsE0 : kidsE ⟨#[2, 5, 0, 0, 0, 7, 0, 1, 0, 109]⟩ = 0 := by decide
theorem readR0 : readR ⟨#[2, 5, 0, 0, 0, 7, 0, 1, 0, 109]⟩ = (ks0, 0) := by
  unfold readR
  rw [kidsE0, if_neg (fun h => h rfl), kids0, layR0, if_pos rfl]
theorem find0k : FindK ks0 ⟨#[107]⟩ 1 := by
  refine ⟨by decide, fun t y ht hy => ?_, fun t y ht hy => ?_⟩
  · rcases ks0_at t y hy with ⟨_, rfl⟩ | ⟨h, _⟩
    · decide
    · omega
  · rcases ks0_at t y hy with ⟨h, _⟩ | ⟨_, rfl⟩
    · omega
    · decide
theorem find0m : FindK ks0 ⟨#[109]⟩ 2 := by
  refine ⟨by decide, fun t y ht hy => ?_, fun t y ht hy => ?_⟩
  · rcases ks0_at t y hy with ⟨_, rfl⟩ | ⟨_, rfl⟩ <;> decide
  · rcases ks0_at t y hy with ⟨h, _⟩ | ⟨h, _⟩ <;> omega
set_option maxRecDepth 100000 in
set_option maxHeartbeats 1000000 in
theorem alive10_any (w : World) : Calls Tryz.prog 22 #[] w fun e w' => e = .returned (.bool true) ∧ Below w.heap.size w w' := by
  have hR0 : Rd (w.alloc (.cells #[.string ⟨#[]⟩, .int .i64 5, .string ⟨#[109]⟩, .int .i64 7] 65)) (some ⟨w.heap.size, 0, none⟩) (flatK ks0) := Rd.new w #[.string ⟨#[]⟩, .int .i64 5, .string ⟨#[109]⟩, .int .i64 7] 65
  have B0 : Below w.heap.size w (w.alloc (.cells #[.string ⟨#[]⟩, .int .i64 5, .string ⟨#[109]⟩, .int .i64 7] 65)) := (Below.refl _ _).alloc (Nat.le_refl _) _
  have hLay : ∀ w A, Rd w A (flatK ks0) → Calls Tryz.prog 24 #[.slice A 2 2] w fun e w' => e = .returned (.tuple #[.string ⟨#[2, 5, 0, 0, 0, 7, 0, 1, 0, 109]⟩, .int .i64 0]) ∧ Below w.heap.size w w' := fun w A h => by
    have := klay_any A 2 2 ks0 w h rfl (by rw [sum0]; decide) (by decide)
    rwa [layR0] at this
  have hRead : ∀ w, Calls Tryz.prog 26 #[.string ⟨#[2, 5, 0, 0, 0, 7, 0, 1, 0, 109]⟩] w fun e w' => (∃ A c, e = .returned (.tuple #[.slice A 2 c, .int .i64 0]) ∧ Rd w' A (flatK ks0)) ∧ Below w.heap.size w w' := fun w => by
    have := kread_any ⟨#[2, 5, 0, 0, 0, 7, 0, 1, 0, 109]⟩ w (by decide)
    rw [readR0] at this
    exact this.mono fun e w' ⟨⟨A, n, c, hn, he, ho⟩, hb⟩ => ⟨⟨A, c, by rw [he, ← hn]; rfl, Rd.of_own ho⟩, hb⟩
  have hFk : ∀ w A, Rd w A (flatK ks0) → Calls Tryz.prog 90 #[.slice A 2 2, .string ⟨#[107]⟩] w fun e w' => e = .returned (.int .i64 0) ∧ Below w.heap.size w w' := fun w A h => kfind_any A 2 2 ks0 _ w h rfl (by decide) right0 1 find0k
  have hFm : ∀ w A, Rd w A (flatK ks0) → Calls Tryz.prog 90 #[.slice A 2 2, .string ⟨#[109]⟩] w fun e w' => e = .returned (.int .i64 1) ∧ Below w.heap.size w w' := fun w A h => kfind_any A 2 2 ks0 _ w h rfl (by decide) right0 2 find0m
  have hSz : ∀ w A, Rd w A (flatK ks0) → Calls Tryz.prog 30 #[.slice A 2 2] w fun e w' => e = .returned (.int .i64 10) ∧ Below w.heap.size w w' := fun w A h => by
    have := ksize_any A 2 2 ks0 w h rfl (by rw [sum0]; decide)
    rwa [sum0] at this
  have hSm : ∀ w A B c, Rd w A (flatK ks0) → Rd w B (flatK ks0) → Calls Tryz.prog 29 #[.slice A 2 2, .slice B 2 c] w fun e w' => e = .returned (.bool true) ∧ Qt w w' := fun w A B c h k =>
    (samekids_any A B 2 2 2 c ks0 ks0 w h k rfl rfl (by decide)).mono fun e w' ⟨⟨b, he, hb⟩, hq⟩ => ⟨by rw [he, hb.2 rfl], hq⟩
  have HR0 := Lib.hid hR0
  have HLay := Lib.hid hLay
  have HRead := Lib.hid hRead
  have HFk := Lib.hid hFk
  have HFm := Lib.hid hFm
  have HSz := Lib.hid hSz
  have HSm := Lib.hid hSm
  clear hR0 hLay hRead hFk hFm hSz hSm
  go_enter Tryz.func22, Tryz.ntmps22
  go_wp2_with (first
    | (go_at_call 24; refine (HLay.out _ _ HR0.out).mono ?_; rintro e w1 ⟨rfl, b1⟩; have R1 := HR0.out.below b1; have B1 := below_of b1 B0 B0.size)
    | (go_at_call 26; refine (HRead.out _).mono ?_; rintro e w2 ⟨⟨A2, c2, rfl, M2⟩, b2⟩; have R2 := R1.below b2; have B2 := below_of b2 B1 B1.size)
    | (go_at_call 90; with_reducible refine (HFk.out _ _ R2).mono ?_; rintro e w3 ⟨rfl, b3⟩; have R3 := R2.below b3; have M3 := M2.below b3; have B3 := below_of b3 B2 B2.size)
    | (go_at_call 90; with_reducible refine (HFm.out _ _ R3).mono ?_; rintro e w4 ⟨rfl, b4⟩; have R4 := R3.below b4; have M4 := M3.below b4; have B4 := below_of b4 B3 B3.size)
    | (go_at_call 29; refine (HSm.out _ _ _ _ R4 M4).mono ?_; rintro e w5 ⟨rfl, q5⟩; have R5 := R4.below (q5.below _); have B5 := B4.trans (q5.below _))
    | (go_at_call 30; refine (HSz.out _ _ R5).mono ?_; rintro e w6 ⟨rfl, b6⟩; have B6 := below_of b6 B5 B5.size))
  go_ret
  exact ⟨rfl, B6⟩
end Go.Proofs.YtldkhhipfoeckaaGreat
