/-
  The first call of the leaf laws answers true.
-/
import Derived.Test.YtldkhhipfoeckaaItemMore
namespace Go.Proofs.Ytldkhhipfoeckaa
open Go Go.RowKit
attribute [local go_sem] cell_set_if

def is0 : List Im := [⟨⟨#[97]⟩, ⟨#[]⟩, 0⟩, ⟨⟨#[99]⟩, ⟨#[120]⟩, 0⟩]
theorem is0_at (i : Nat) (x : Im) (h : is0[i]? = some x) : (i = 0 ∧ x = ⟨⟨#[97]⟩, ⟨#[]⟩, 0⟩) ∨ (i = 1 ∧ x = ⟨⟨#[99]⟩, ⟨#[120]⟩, 0⟩) := by
  unfold is0 at h
  rcases i with _ | _ | i
  · simp at h; exact .inl ⟨rfl, h.symm⟩
  · simp at h; exact .inr ⟨rfl, h.symm⟩
  · simp at h
theorem lt_ac : ltB ⟨#[97]⟩ ⟨#[99]⟩ = true := by decide
theorem right0 : RightI is0 := by
  refine ⟨fun i x h => ?_, fun i x y hx hy => ?_⟩
  · rcases is0_at i x h with ⟨_, rfl⟩ | ⟨_, rfl⟩ <;> decide
  · rcases is0_at i x hx with ⟨rfl, rfl⟩ | ⟨rfl, rfl⟩
    · rcases is0_at _ y hy with ⟨h, _⟩ | ⟨_, rfl⟩
      · omega
      · exact lt_ac
    · rcases is0_at _ y hy with ⟨h, _⟩ | ⟨h, _⟩ <;> omega
theorem lay0 : layL9 is0 = [2, 0, 1, 0, 97, 0, 0, 0, 1, 0, 99, 1, 0, 120] := by decide
theorem sum0 : sumI is0 = 13 := by decide
theorem layS0 : layS is0 = (⟨#[2, 0, 1, 0, 97, 0, 0, 0, 1, 0, 99, 1, 0, 120]⟩, 0) := by
  rw [layS_ok right0 (by rw [sum0]; decide), lay0]; rfl
theorem items0 : itemsOf ⟨#[2, 0, 1, 0, 97, 0, 0, 0, 1, 0, 99, 1, 0, 120]⟩ = is0 := by rfl
theorem itemsE0 : itemsE ⟨#[2, 0, 1, 0, 97, 0, 0, 0, 1, 0, 99, 1, 0, 120]⟩ = 0 := by decide
theorem readS0 : readS ⟨#[2, 0, 1, 0, 97, 0, 0, 0, 1, 0, 99, 1, 0, 120]⟩ = (is0, 0) := by
  unfold readS
  rw [itemsE0, if_neg (fun h => h rfl), items0, layS0, if_pos rfl]
theorem find0b : FindI is0 ⟨#[98]⟩ 1 := by
  refine ⟨by decide, fun t y ht hy => ?_, fun t y ht hy => ?_⟩
  · rcases is0_at t y hy with ⟨_, rfl⟩ | ⟨h, _⟩
    · decide
    · omega
  · rcases is0_at t y hy with ⟨h, _⟩ | ⟨_, rfl⟩
    · omega
    · decide
theorem has0b : hasI is0 ⟨#[98]⟩ 1 = false := by
  rw [hasI_at (x := ⟨⟨#[99]⟩, ⟨#[120]⟩, 0⟩) rfl, str_beq]; decide
set_option maxRecDepth 100000 in
set_option maxHeartbeats 1000000 in
theorem alive9_any (w : World) : Calls Try.prog 55 #[] w fun e w' => e = .returned (.bool true) ∧ Below w.heap.size w w' := by
  have hR0 : Rd (w.alloc (.cells #[.string ⟨#[97]⟩, .string ⟨#[]⟩, .int .i64 0, .string ⟨#[99]⟩, .string ⟨#[120]⟩, .int .i64 0] 108)) (some ⟨w.heap.size, 0, none⟩) (flatI is0) := Rd.new w #[.string ⟨#[97]⟩, .string ⟨#[]⟩, .int .i64 0, .string ⟨#[99]⟩, .string ⟨#[120]⟩, .int .i64 0] 108
  have B0 : Below w.heap.size w (w.alloc (.cells #[.string ⟨#[97]⟩, .string ⟨#[]⟩, .int .i64 0, .string ⟨#[99]⟩, .string ⟨#[120]⟩, .int .i64 0] 108)) := (Below.refl _ _).alloc (Nat.le_refl _) _
  have hLay : ∀ w A, Rd w A (flatI is0) → Calls Try.prog 61 #[.slice A 2 2] w fun e w' => e = .returned (.tuple #[.string ⟨#[2, 0, 1, 0, 97, 0, 0, 0, 1, 0, 99, 1, 0, 120]⟩, .int .i64 0]) ∧ Below w.heap.size w w' := fun w A h => by
    have := ilay_any A 2 2 is0 w h rfl (by rw [sum0]; decide) (by decide)
    rwa [layS0] at this
  have hRead : ∀ w, Calls Try.prog 124 #[.string ⟨#[2, 0, 1, 0, 97, 0, 0, 0, 1, 0, 99, 1, 0, 120]⟩] w fun e w' => (∃ A c, e = .returned (.tuple #[.slice A 2 c, .int .i64 0]) ∧ Rd w' A (flatI is0)) ∧ Below w.heap.size w w' := fun w => by
    have := iread_any ⟨#[2, 0, 1, 0, 97, 0, 0, 0, 1, 0, 99, 1, 0, 120]⟩ w (by decide)
    rw [readS0] at this
    exact this.mono fun e w' ⟨⟨A, n, c, hn, he, ho⟩, hb⟩ => ⟨⟨A, c, by rw [he, ← hn]; rfl, Rd.of_own ho⟩, hb⟩
  have hFb : ∀ w A, Rd w A (flatI is0) → Calls Try.prog 69 #[.slice A 2 2, .string ⟨#[98]⟩] w fun e w' => e = .returned (.tuple #[.int .i64 1, .bool false]) ∧ Below w.heap.size w w' := fun w A h => by
    have := ifind_any A 2 2 is0 ⟨#[98]⟩ w h rfl (by decide) right0 1 find0b
    rwa [has0b] at this
  have hSz : ∀ w A, Rd w A (flatI is0) → Calls Try.prog 64 #[.slice A 2 2] w fun e w' => e = .returned (.int .i64 14) ∧ Below w.heap.size w w' := fun w A h => by
    have := isize_any A 2 2 is0 w h rfl (by rw [sum0]; decide)
    rwa [sum0] at this
  have hSm : ∀ w A B c, Rd w A (flatI is0) → Rd w B (flatI is0) → Calls Try.prog 63 #[.slice A 2 2, .slice B 2 c] w fun e w' => e = .returned (.bool true) ∧ Qt w w' := fun w A B c h k =>
    (sameitems_any A B 2 2 2 c is0 is0 w h k rfl rfl (by decide)).mono fun e w' ⟨⟨b, he, hb⟩, hq⟩ => ⟨by rw [he, hb.2 rfl], hq⟩
  have HR0 := Lib.hid hR0
  have HLay := Lib.hid hLay
  have HRead := Lib.hid hRead
  have HFb := Lib.hid hFb
  have HSz := Lib.hid hSz
  have HSm := Lib.hid hSm
  clear hR0 hLay hRead hFb hSz hSm
  go_enter Try.func55, Try.ntmps55
  go_wp2_with (first
    | (go_at_call 69; refine (HFb.out _ _ HR0.out).mono ?_; rintro e w1 ⟨rfl, b1⟩; have R1 := HR0.out.below b1; have B1 := below_of b1 B0 B0.size)
    | (go_at_call 61; refine (HLay.out _ _ R1).mono ?_; rintro e w2 ⟨rfl, b2⟩; have R2 := R1.below b2; have B2 := below_of b2 B1 B1.size)
    | (go_at_call 124; refine (HRead.out _).mono ?_; rintro e w3 ⟨⟨A2, c2, rfl, M3⟩, b3⟩; have R3 := R2.below b3; have B3 := below_of b3 B2 B2.size)
    | (go_at_call 63; refine (HSm.out _ _ _ _ R3 M3).mono ?_; rintro e w4 ⟨rfl, q4⟩; have R4 := R3.below (q4.below _); have B4 := B3.trans (q4.below _))
    | (go_at_call 64; refine (HSz.out _ _ R4).mono ?_; rintro e w5 ⟨rfl, b5⟩; have B5 := below_of b5 B4 B4.size))
  go_ret
  exact ⟨rfl, B5⟩
end Go.Proofs.Ytldkhhipfoeckaa
