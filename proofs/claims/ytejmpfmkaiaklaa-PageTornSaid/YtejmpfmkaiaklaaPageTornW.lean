/-
  The walk of the law PageTorn: for every input it returns true and changes nothing that was there. Condition: bodies no longer than memory holds.
-/
import Derived.Test.YtejmpfmkaiaklaaPageLaws
namespace Go.Proofs.Ytejmpfmkaiaklaa
open Go Go.RowKit
attribute [local go_sem] cell_set_if

set_option maxRecDepth 100000 in
set_option maxHeartbeats 2000000 in
theorem torn_big (k i t k2 i2 t2 : Int) (bd bd2 : ByteArray) (cut : Int) (w : World) (h : 300 < bd.size ∨ 300 < bd2.size) (hz : bd.size ≤ 9223372036854775807) (hz2 : bd2.size ≤ 9223372036854775807) :
    Calls Try.prog 6 #[pageV k i t bd, pageV k2 i2 t2 bd2, .int .i64 cut] w fun e w' => e = .returned (.bool true) ∧ Below w.heap.size w w' := by
  have hc : (300 : Int) < bd.size ∨ ((bd.size : Int) ≤ 300 ∧ (300 : Int) < bd2.size) := by omega
  rcases hc with h1 | ⟨h1, h2⟩
  all_goals
    go_enter Try.func6, Try.ntmps6
    go_wp2_with (first
      | (go_at_call 25; refine (alive5_any _).mono ?_; rintro e w1 ⟨rfl, b1⟩))
    go_ret
    exact ⟨rfl, below_of b1 (((Below.refl _ _).alloc (Nat.le_refl _) _).alloc (by simp) _) (by simp; omega)⟩

set_option maxRecDepth 100000 in
set_option maxHeartbeats 2000000 in
theorem torn_no (k i t k2 i2 t2 : Int) (bd bd2 : ByteArray) (cut : Int) (w : World) (h1 : bd.size ≤ 300) (h2 : bd2.size ≤ 300) (h : ¬ okP k i t bd.size ∨ ¬ okP k2 i2 t2 bd2.size ∨ t % 4294967296 = t2 % 4294967296 ∨ cut < 0 ∨ 256 < cut) :
    Calls Try.prog 6 #[pageV k i t bd, pageV k2 i2 t2 bd2, .int .i64 cut] w fun e w' => e = .returned (.bool true) ∧ Below w.heap.size w w' := by
  have h1' : (bd.size : Int) ≤ 300 := by omega
  have h2' : (bd2.size : Int) ≤ 300 := by omega
  have hL1 := fun w => lay_all k i t bd w (by omega)
  have hL2 := fun w => lay_all k2 i2 t2 bd2 w (by omega)
  unfold layE at hL1 hL2
  generalize layS k i t bd = S1 at hL1
  generalize layS k2 i2 t2 bd2 = S2 at hL2
  obtain ⟨x, hx⟩ : ∃ x, (t % 4294967296 == t2 % 4294967296) = x := ⟨_, rfl⟩
  have hc : (¬ okP k i t bd.size ∧ True ∧ True) ∨ (okP k i t bd.size ∧ ¬ okP k2 i2 t2 bd2.size ∧ True) ∨ (okP k i t bd.size ∧ okP k2 i2 t2 bd2.size ∧ x = true) ∨ (okP k i t bd.size ∧ okP k2 i2 t2 bd2.size ∧ x = false ∧ cut < 0) ∨ (okP k i t bd.size ∧ okP k2 i2 t2 bd2.size ∧ x = false ∧ 0 ≤ cut ∧ 256 < cut) := by
    by_cases a : okP k i t bd.size <;> by_cases b : okP k2 i2 t2 bd2.size <;> cases x <;> simp_all
    omega
  rcases hc with ⟨a, b, c⟩ | ⟨a, b, c⟩ | ⟨a, b, c⟩ | ⟨a, b, c, d⟩ | ⟨a, b, c, d, f⟩
  all_goals
    simp only [a, b, if_true, if_false] at hL1 hL2
    (try subst c)
    clear h a b
    (try by_cases hq : okP k2 i2 t2 bd2.size <;> simp only [hq, if_true, if_false] at hL2 <;> clear hq)
    all_goals
      go_enter Try.func6, Try.ntmps6
      go_wp2_with (first
        | (go_at_call 25; refine (alive5_any _).mono ?_; rintro e w1 ⟨rfl, b1⟩; have M1 := ((Pc.new _ _ _ _ _ _).alloc _).step b1; have N1 := (Pc.new_at _ _ _ _ _ _ (w.heap.size + 1) (by simp)).step b1; have B1 := below_of b1 (((Below.refl _ _).alloc (Nat.le_refl _) _).alloc (by simp) _) (by simp; omega); have UM1 := M1; have UN1 := N1; unfold Pc at UM1 UN1)
        | (go_at_call 28; with_reducible refine (hL1 _).mono ?_; rintro e w2 ⟨rfl, b2⟩; have M2 := M1.step b2; have N2 := N1.step b2; have B2 := below_of b2 B1 B1.size; have UM2 := M2; have UN2 := N2; unfold Pc at UM2 UN2)
        | (go_at_call 28; with_reducible refine (hL2 _).mono ?_; rintro e w3 ⟨rfl, b3⟩; have M3 := M2.step b3; have N3 := N2.step b3; have B3 := below_of b3 B2 B2.size; have UM3 := M3; have UN3 := N3; unfold Pc at UM3 UN3))
      go_ret
      exact ⟨rfl, B3⟩

set_option maxRecDepth 100000 in
set_option maxHeartbeats 4000000 in
theorem torn_yes (k i t k2 i2 t2 : Nat) (bd bd2 : ByteArray) (c : Nat) (w : World) (h1 : (⟨k, i, t, bts bd⟩ : Pg).ok) (h2 : (⟨k2, i2, t2, bts bd2⟩ : Pg).ok) (ht : t % 4294967296 ≠ t2 % 4294967296) (hc : c ≤ 256) :
    Calls Try.prog 6 #[pageV k i t bd, pageV k2 i2 t2 bd2, .int .i64 c] w fun e w' => e = .returned (.bool true) ∧ Below w.heap.size w w' := by
  have q1 := h1.2.2.2.2
  have q2 := h2.2.2.2.2
  simp only [bts_len] at q1 q2
  have h1' : (bd.size : Int) ≤ 300 := by omega
  have h2' : (bd2.size : Int) ≤ 300 := by omega
  obtain ⟨S1, hS1⟩ : ∃ S, S = bs (layL ⟨k, i, t, bts bd⟩) := ⟨_, rfl⟩
  obtain ⟨S2, hS2⟩ : ∃ S, S = bs (layL ⟨k2, i2, t2, bts bd2⟩) := ⟨_, rfl⟩
  have hL1 : ∀ w, Calls Try.prog 28 #[pageV k i t bd] w fun e w' => e = .returned (.tuple #[.string S1, .int .i64 0]) ∧ Below w.heap.size w w' := fun w => by rw [hS1]; exact lay_ok k i t bd w h1
  have hL2 : ∀ w, Calls Try.prog 28 #[pageV k2 i2 t2 bd2] w fun e w' => e = .returned (.tuple #[.string S2, .int .i64 0]) ∧ Below w.heap.size w w' := fun w => by rw [hS2]; exact lay_ok k2 i2 t2 bd2 w h2
  have hz1 : S1.size = 256 := by rw [hS1]; exact lay_size h1
  have hz2 : S2.size = 256 := by rw [hS2]; exact lay_size h2
  obtain ⟨X, hX⟩ : ∃ X, S1.extract 0 c = X := ⟨_, rfl⟩
  obtain ⟨Y, hY⟩ : ∃ Y, S2.extract c 256 = Y := ⟨_, rfl⟩
  have hXs : X.size = c := by rw [← hX, ByteArray.size_extract]; omega
  have hYs : Y.size = 256 - c := by rw [← hY, ByteArray.size_extract]; omega
  have hXY : X.size + Y.size ≤ 9223372036854775807 := by omega
  have eXY : bts (X ++ Y) = (layL ⟨k, i, t, bts bd⟩).take c ++ (layL ⟨k2, i2, t2, bts bd2⟩).drop c := by
    rw [bts_append, ← hX, ← hY, bts_extract, bts_extract, hS1, hS2, bts_bs, bts_bs]
    have e : (layL ⟨k2, i2, t2, bts bd2⟩).take 256 = layL ⟨k2, i2, t2, bts bd2⟩ := List.take_of_length_le (by rw [layL_len h2]; omega)
    rw [e]
    rfl
  have sXY : (X ++ Y).size = 256 := by rw [ByteArray.size_append]; omega
  have hread := fun w => read_any (X ++ Y) w sXY
  have hcases : (∃ E : Nat, (E = 6 ∨ E = 7) ∧ ∀ w, Calls Try.prog 29 #[.string (X ++ Y)] w fun e w' => e = .returned (.tuple #[noPage, .int .i64 E]) ∧ Below w.heap.size w w')
      ∨ (((X ++ Y).toList == S1.toList) = true ∧ ∀ w, Calls Try.prog 29 #[.string (X ++ Y)] w fun e w' => e = .returned (.tuple #[pageV k i t bd, .int .i64 0]) ∧ Below w.heap.size w w')
      ∨ (((X ++ Y).toList == S1.toList) = false ∧ ((X ++ Y).toList == S2.toList) = true ∧ ∀ w, Calls Try.prog 29 #[.string (X ++ Y)] w fun e w' => e = .returned (.tuple #[pageV k2 i2 t2 bd2, .int .i64 0]) ∧ Below w.heap.size w w') := by
    by_cases hE : errB (bts (X ++ Y)) = 0
    · right
      have hT := torn h1 h2 ht hc (by rw [← eXY]; exact hE)
      rw [← eXY] at hT
      by_cases hA : bts (X ++ Y) = layL ⟨k, i, t, bts bd⟩
      · left
        have e : X ++ Y = S1 := by rw [← bs_bts (X ++ Y), hA, hS1]
        refine ⟨by rw [e]; simp, fun w => ?_⟩
        rw [e, hS1]; exact read_lay k i t bd w h1
      · right
        have hB := hT.resolve_left hA
        have e : X ++ Y = S2 := by rw [← bs_bts (X ++ Y), hB, hS2]
        refine ⟨by rw [str_beq, hS1, bts_bs]; exact decide_eq_false hA, by rw [e]; simp, fun w => ?_⟩
        rw [e, hS2]; exact read_lay k2 i2 t2 bd2 w h2
    · left
      refine ⟨_, (errB_cases (bts (X ++ Y))).resolve_left hE, fun w => ?_⟩
      have := hread w
      unfold readV at this
      rw [if_neg hE] at this
      exact this
  have htt : ((t : Int) % 4294967296 == (t2 : Int) % 4294967296) = false := by simp; omega
  have hc0 : (0 : Int) ≤ (c : Int) := by omega
  have hc1 : (c : Int) ≤ 256 := by omega
  have n1 : ((S1.size : Int) != 256) = false := by simp; omega
  have n2 : ((S2.size : Int) != 256) = false := by simp; omega
  clear h1 h2 hS1 hS2 hXs hYs eXY sXY hread ht
  rcases hcases with ⟨E, hE, hR⟩ | ⟨g1, hR⟩ | ⟨g1, g2, hR⟩
  · rcases hE with rfl | rfl
    all_goals
      go_enter Try.func6, Try.ntmps6
      go_wp2_with (first
        | (go_at_call 25; refine (alive5_any _).mono ?_; rintro e w1 ⟨rfl, b1⟩; have M1 := ((Pc.new _ _ _ _ _ _).alloc _).step b1; have N1 := (Pc.new_at _ _ _ _ _ _ (w.heap.size + 1) (by simp)).step b1; have B1 := below_of b1 (((Below.refl _ _).alloc (Nat.le_refl _) _).alloc (by simp) _) (by simp; omega); have UM1 := M1; have UN1 := N1; unfold Pc at UM1 UN1)
        | (go_at_call 28; with_reducible refine (hL1 _).mono ?_; rintro e w2 ⟨rfl, b2⟩; have M2 := M1.step b2; have N2 := N1.step b2; have B2 := below_of b2 B1 B1.size; have UM2 := M2; have UN2 := N2; unfold Pc at UM2 UN2)
        | (go_at_call 28; with_reducible refine (hL2 _).mono ?_; rintro e w3 ⟨rfl, b3⟩; have M3 := M2.step b3; have N3 := N2.step b3; have B3 := below_of b3 B2 B2.size; have UM3 := M3; have UN3 := N3; unfold Pc at UM3 UN3))
      go_quiet (fail)
      go_wp2_with (first
        | (go_at_call 29; refine (hR _).mono ?_; rintro e w4 ⟨rfl, b4⟩; have B4 := below_of b4 (below_drewN B3 _) (below_drewN B3 _).size))
      go_ret
      exact ⟨rfl, B4.alloc B4.size _⟩
  all_goals
    go_enter Try.func6, Try.ntmps6
    go_wp2_with (first
      | (go_at_call 25; refine (alive5_any _).mono ?_; rintro e w1 ⟨rfl, b1⟩; have M1 := ((Pc.new _ _ _ _ _ _).alloc _).step b1; have N1 := (Pc.new_at _ _ _ _ _ _ (w.heap.size + 1) (by simp)).step b1; have B1 := below_of b1 (((Below.refl _ _).alloc (Nat.le_refl _) _).alloc (by simp) _) (by simp; omega); have UM1 := M1; have UN1 := N1; unfold Pc at UM1 UN1)
      | (go_at_call 28; with_reducible refine (hL1 _).mono ?_; rintro e w2 ⟨rfl, b2⟩; have M2 := M1.step b2; have N2 := N1.step b2; have B2 := below_of b2 B1 B1.size; have UM2 := M2; have UN2 := N2; unfold Pc at UM2 UN2)
      | (go_at_call 28; with_reducible refine (hL2 _).mono ?_; rintro e w3 ⟨rfl, b3⟩; have M3 := M2.step b3; have N3 := N2.step b3; have B3 := below_of b3 B2 B2.size; have UM3 := M3; have UN3 := N3; unfold Pc at UM3 UN3))
    go_quiet (fail)
    go_wp2_with (first
      | (go_at_call 29; refine (hR _).mono ?_; rintro e w4 ⟨rfl, b4⟩; have B4 := below_of b4 (below_drewN B3 _) (below_drewN B3 _).size
         have M4 := (M3.below (below_drewN (Below.refl w3.heap.size w3) _) M3.lt).step b4
         have N4 := (N3.below (below_drewN (Below.refl w3.heap.size w3) _) N3.lt).step b4
         have M5 := fun o => M4.alloc o
         have N5 := fun o => N4.alloc o
         unfold Pc at M5 N5))
    go_ret
    exact ⟨rfl, B4.alloc B4.size _⟩

/-- PageTorn, every input. -/
theorem torn_walk (k i t k2 i2 t2 : Int) (bd bd2 : ByteArray) (cut : Int) (w : World) (hz : bd.size ≤ maxLen) (hz2 : bd2.size ≤ maxLen) :
    Calls Try.prog 6 #[pageV k i t bd, pageV k2 i2 t2 bd2, .int .i64 cut] w fun e w' => e = .returned (.bool true) ∧ Below w.heap.size w w' := by
  unfold maxLen at hz hz2
  by_cases h : 300 < bd.size ∨ 300 < bd2.size
  · exact torn_big k i t k2 i2 t2 bd bd2 cut w h hz hz2
  · by_cases h2 : ¬ okP k i t bd.size ∨ ¬ okP k2 i2 t2 bd2.size ∨ t % 4294967296 = t2 % 4294967296 ∨ cut < 0 ∨ 256 < cut
    · exact torn_no k i t k2 i2 t2 bd bd2 cut w (by omega) (by omega) h2
    · have a : okP k i t bd.size := Decidable.byContradiction fun e => h2 (.inl e)
      have b : okP k2 i2 t2 bd2.size := Decidable.byContradiction fun e => h2 (.inr (.inl e))
      have c : ¬ (t % 4294967296 = t2 % 4294967296 ∨ cut < 0 ∨ 256 < cut) := fun e => h2 (.inr (.inr e))
      obtain ⟨k, rfl⟩ := Int.eq_ofNat_of_zero_le (show 0 ≤ k by have := a.1; omega)
      obtain ⟨i, rfl⟩ := Int.eq_ofNat_of_zero_le (show 0 ≤ i from a.2.2.1)
      obtain ⟨t, rfl⟩ := Int.eq_ofNat_of_zero_le (show 0 ≤ t from a.2.2.2.2.1)
      obtain ⟨k2, rfl⟩ := Int.eq_ofNat_of_zero_le (show 0 ≤ k2 by have := b.1; omega)
      obtain ⟨i2, rfl⟩ := Int.eq_ofNat_of_zero_le (show 0 ≤ i2 from b.2.2.1)
      obtain ⟨t2, rfl⟩ := Int.eq_ofNat_of_zero_le (show 0 ≤ t2 from b.2.2.2.2.1)
      obtain ⟨c', rfl⟩ := Int.eq_ofNat_of_zero_le (show 0 ≤ cut by omega)
      exact torn_yes k i t k2 i2 t2 bd bd2 c' w (okP_ok.1 a) (okP_ok.1 b) (by omega) (by omega)
end Go.Proofs.Ytejmpfmkaiaklaa
