/-
  The walk of the law PageBack: for every input it returns true and changes nothing that was there. Condition: bodies no longer than memory holds.
-/
import Derived.Test.YtejmpfmkaiaklaaPageLaws
namespace Go.Proofs.Ytejmpfmkaiaklaa
open Go Go.RowKit
attribute [local go_sem] cell_set_if

set_option maxRecDepth 100000 in
set_option maxHeartbeats 2000000 in
theorem back_big (k i t k2 i2 t2 : Int) (bd bd2 : ByteArray) (w : World) (h : 300 < bd.size ∨ 300 < bd2.size) (hz : bd.size ≤ 9223372036854775807) (hz2 : bd2.size ≤ 9223372036854775807) :
    Calls Try.prog 8 #[pageV k i t bd, pageV k2 i2 t2 bd2] w fun e w' => e = .returned (.bool true) ∧ Below w.heap.size w w' := by
  have hc : (300 : Int) < bd.size ∨ ((bd.size : Int) ≤ 300 ∧ (300 : Int) < bd2.size) := by omega
  rcases hc with h1 | ⟨h1, h2⟩
  all_goals
    go_enter Try.func8, Try.ntmps8
    go_wp2_with (first
      | (go_at_call 25; refine (alive5_any _).mono ?_; rintro e w1 ⟨rfl, b1⟩))
    go_ret
    exact ⟨rfl, below_of b1 (((Below.refl _ _).alloc (Nat.le_refl _) _).alloc (by simp) _) (by simp; omega)⟩

set_option maxRecDepth 100000 in
set_option maxHeartbeats 2000000 in
theorem back_no (k i t k2 i2 t2 : Int) (bd bd2 : ByteArray) (w : World) (h1 : bd.size ≤ 300) (h2 : bd2.size ≤ 300) (h : ¬ okP k i t bd.size ∨ ¬ okP k2 i2 t2 bd2.size) :
    Calls Try.prog 8 #[pageV k i t bd, pageV k2 i2 t2 bd2] w fun e w' => e = .returned (.bool true) ∧ Below w.heap.size w w' := by
  have h1' : (bd.size : Int) ≤ 300 := by omega
  have h2' : (bd2.size : Int) ≤ 300 := by omega
  have hL1 := fun w => lay_all k i t bd w (by omega)
  have hL2 := fun w => lay_all k2 i2 t2 bd2 w (by omega)
  have hV1 := fun w => refvalid_any k i t bd w (by omega)
  have hV2 := fun w => refvalid_any k2 i2 t2 bd2 w (by omega)
  unfold layE at hL1 hL2
  generalize layS k i t bd = S1 at hL1
  generalize layS k2 i2 t2 bd2 = S2 at hL2
  have hc : (¬ okP k i t bd.size ∧ ¬ okP k2 i2 t2 bd2.size) ∨ (okP k i t bd.size ∧ ¬ okP k2 i2 t2 bd2.size) ∨ (¬ okP k i t bd.size ∧ okP k2 i2 t2 bd2.size) := by
    by_cases a : okP k i t bd.size <;> by_cases b : okP k2 i2 t2 bd2.size <;> simp_all
  rcases hc with ⟨a, b⟩ | ⟨a, b⟩ | ⟨a, b⟩
  all_goals
    simp only [a, b, if_true, if_false, decide_true, decide_false] at hL1 hL2 hV1 hV2
    clear h
    clear a b
    go_enter Try.func8, Try.ntmps8
    go_wp2_with (first
      | (go_at_call 25; refine (alive5_any _).mono ?_; rintro e w1 ⟨rfl, b1⟩; have M1 := ((Pc.new _ _ _ _ _ _).alloc _).step b1; have N1 := (Pc.new_at _ _ _ _ _ _ (w.heap.size + 1) (by simp)).step b1; have B1 := below_of b1 (((Below.refl _ _).alloc (Nat.le_refl _) _).alloc (by simp) _) (by simp; omega); have UM1 := M1; have UN1 := N1; unfold Pc at UM1 UN1)
      | (go_at_call 28; with_reducible refine (hL1 _).mono ?_; rintro e w2 ⟨rfl, b2⟩; have M2 := M1.step b2; have N2 := N1.step b2; have B2 := below_of b2 B1 B1.size; have UM2 := M2; have UN2 := N2; unfold Pc at UM2 UN2)
      | (go_at_call 28; with_reducible refine (hL2 _).mono ?_; rintro e w3 ⟨rfl, b3⟩; have M3 := M2.step b3; have N3 := N2.step b3; have B3 := below_of b3 B2 B2.size; have UM3 := M3; have UN3 := N3; unfold Pc at UM3 UN3)
      | (go_at_call 15; with_reducible refine (hV1 _).mono ?_; rintro e w4 ⟨rfl, b4⟩; have M4 := M3.step b4; have N4 := N3.step b4; have B4 := below_of b4 B3 B3.size; have UM4 := M4; have UN4 := N4; unfold Pc at UM4 UN4)
      | (go_at_call 15; with_reducible refine (hV2 _).mono ?_; rintro e w5 ⟨rfl, b5⟩; have B5 := below_of b5 B4 B4.size))
    go_ret
    first
      | exact ⟨rfl, B5⟩
      | exact ⟨rfl, B4⟩

set_option maxRecDepth 100000 in
set_option maxHeartbeats 2000000 in
theorem back_yes (k i t k2 i2 t2 : Nat) (bd bd2 : ByteArray) (w : World) (h1 : (⟨k, i, t, bts bd⟩ : Pg).ok) (h2 : (⟨k2, i2, t2, bts bd2⟩ : Pg).ok) :
    Calls Try.prog 8 #[pageV k i t bd, pageV k2 i2 t2 bd2] w fun e w' => e = .returned (.bool true) ∧ Below w.heap.size w w' := by
  have q1 := h1.2.2.2.2
  have q2 := h2.2.2.2.2
  simp only [bts_len] at q1 q2
  have h1' : (bd.size : Int) ≤ 300 := by omega
  have h2' : (bd2.size : Int) ≤ 300 := by omega
  obtain ⟨S1, hS1⟩ : ∃ S, S = bs (layL ⟨k, i, t, bts bd⟩) := ⟨_, rfl⟩
  obtain ⟨S2, hS2⟩ : ∃ S, S = bs (layL ⟨k2, i2, t2, bts bd2⟩) := ⟨_, rfl⟩
  have hL1 : ∀ w, Calls Try.prog 28 #[pageV k i t bd] w fun e w' => e = .returned (.tuple #[.string S1, .int .i64 0]) ∧ Below w.heap.size w w' := fun w => by rw [hS1]; exact lay_ok k i t bd w h1
  have hL2 : ∀ w, Calls Try.prog 28 #[pageV k2 i2 t2 bd2] w fun e w' => e = .returned (.tuple #[.string S2, .int .i64 0]) ∧ Below w.heap.size w w' := fun w => by rw [hS2]; exact lay_ok k2 i2 t2 bd2 w h2
  have hR : ∀ w, Calls Try.prog 29 #[.string S1] w fun e w' => e = .returned (.tuple #[pageV k i t bd, .int .i64 0]) ∧ Below w.heap.size w w' := fun w => by rw [hS1]; exact read_lay k i t bd w h1
  have hz : S1.size = 256 := by rw [hS1]; exact lay_size h1
  have hab : (S1.toList == S2.toList) = ((((k : Int) == k2 && (i : Int) == i2) && (t : Int) == t2) && (bd.toList == bd2.toList)) := by
    rw [hS1, hS2, str_beq, str_beq, bts_bs, bts_bs]
    rw [Bool.eq_iff_iff]
    simp only [decide_eq_true_eq, Bool.and_eq_true, beq_iff_eq]
    constructor
    · intro h
      have := layL_inj h1 h2 h
      injection this with a b c d
      subst a b c
      exact ⟨⟨⟨rfl, rfl⟩, rfl⟩, d⟩
    · rintro ⟨⟨⟨a, b⟩, c⟩, d⟩
      have a : k = k2 := by omega
      have b : i = i2 := by omega
      have c : t = t2 := by omega
      subst a b c
      rw [d]
  clear h1 h2 hS1 hS2
  obtain ⟨x0, y0⟩ : ∃ x, (S1.toList == S2.toList) = x := ⟨_, rfl⟩
  obtain ⟨x1, y1⟩ : ∃ x, ((k : Int) == (k2 : Int)) = x := ⟨_, rfl⟩
  obtain ⟨x2, y2⟩ : ∃ x, ((i : Int) == (i2 : Int)) = x := ⟨_, rfl⟩
  obtain ⟨x3, y3⟩ : ∃ x, ((t : Int) == (t2 : Int)) = x := ⟨_, rfl⟩
  obtain ⟨x4, y4⟩ : ∃ x, (bd.toList == bd2.toList) = x := ⟨_, rfl⟩
  rw [y0, y1, y2, y3, y4] at hab
  have HX := Lib.hid hab
  clear hab
  go_enter Try.func8, Try.ntmps8
  go_wp2_with (first
    | (go_at_call 25; refine (alive5_any _).mono ?_; rintro e w1 ⟨rfl, b1⟩; have M1 := ((Pc.new _ _ _ _ _ _).alloc _).step b1; have N1 := (Pc.new_at _ _ _ _ _ _ (w.heap.size + 1) (by simp)).step b1; have B1 := below_of b1 (((Below.refl _ _).alloc (Nat.le_refl _) _).alloc (by simp) _) (by simp; omega); have UM1 := M1; have UN1 := N1; unfold Pc at UM1 UN1)
    | (go_at_call 28; with_reducible refine (hL1 _).mono ?_; rintro e w2 ⟨rfl, b2⟩; have M2 := M1.step b2; have N2 := N1.step b2; have B2 := below_of b2 B1 B1.size; have UM2 := M2; have UN2 := N2; unfold Pc at UM2 UN2)
    | (go_at_call 28; with_reducible refine (hL2 _).mono ?_; rintro e w3 ⟨rfl, b3⟩; have M3 := M2.step b3; have N3 := N2.step b3; have B3 := below_of b3 B2 B2.size; have UM3 := M3; have UN3 := N3; unfold Pc at UM3 UN3)
    | (go_at_call 29; with_reducible refine (hR _).mono ?_; rintro e w4 ⟨rfl, b4⟩; have M4 := (M3.step b4).alloc (.cells #[.int .i64 k, .int .i64 i, .int .i64 t, .string bd] 29); have N4 := (N3.step b4).alloc (.cells #[.int .i64 k, .int .i64 i, .int .i64 t, .string bd] 29); have B4 := below_of b4 B3 B3.size; have UM4 := M4; have UN4 := N4; unfold Pc at UM4 UN4))
  all_goals
    go_ret
    refine ⟨ret_bool ?_, B4.alloc B4.size _⟩
    have hx := HX.out
    clear HX y0 y1 y2 y3 y4 UM1 UM2 UM3 UM4 UN1 UN2 UN3 UN4 B1 B2 B3 B4 M1 M2 M3 M4 N1 N2 N3 N4 b1 b2 b3 b4 hR hL1 hL2
    cases x0 <;> cases x1 <;> cases x2 <;> cases x3 <;> cases x4 <;> first | rfl | contradiction | (simp at hx)

/-- PageBack, every input. -/
theorem back_walk (k i t k2 i2 t2 : Int) (bd bd2 : ByteArray) (w : World) (hz : bd.size ≤ maxLen) (hz2 : bd2.size ≤ maxLen) :
    Calls Try.prog 8 #[pageV k i t bd, pageV k2 i2 t2 bd2] w fun e w' => e = .returned (.bool true) ∧ Below w.heap.size w w' := by
  unfold maxLen at hz hz2
  by_cases h : 300 < bd.size ∨ 300 < bd2.size
  · exact back_big k i t k2 i2 t2 bd bd2 w h hz hz2
  · by_cases h2 : okP k i t bd.size ∧ okP k2 i2 t2 bd2.size
    · obtain ⟨a, b⟩ := h2
      obtain ⟨k, rfl⟩ := Int.eq_ofNat_of_zero_le (show 0 ≤ k by have := a.1; omega)
      obtain ⟨i, rfl⟩ := Int.eq_ofNat_of_zero_le (show 0 ≤ i from a.2.2.1)
      obtain ⟨t, rfl⟩ := Int.eq_ofNat_of_zero_le (show 0 ≤ t from a.2.2.2.2.1)
      obtain ⟨k2, rfl⟩ := Int.eq_ofNat_of_zero_le (show 0 ≤ k2 by have := b.1; omega)
      obtain ⟨i2, rfl⟩ := Int.eq_ofNat_of_zero_le (show 0 ≤ i2 from b.2.2.1)
      obtain ⟨t2, rfl⟩ := Int.eq_ofNat_of_zero_le (show 0 ≤ t2 from b.2.2.2.2.1)
      exact back_yes k i t k2 i2 t2 bd bd2 w (okP_ok.1 a) (okP_ok.1 b)
    · exact back_no k i t k2 i2 t2 bd bd2 w (by omega) (by omega) (by by_cases a : okP k i t bd.size; exact .inr fun b => h2 ⟨a, b⟩; exact .inl a)
end Go.Proofs.Ytejmpfmkaiaklaa
