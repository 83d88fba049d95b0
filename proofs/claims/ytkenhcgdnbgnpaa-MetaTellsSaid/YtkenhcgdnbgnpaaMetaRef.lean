/-
  What the document's ValidMeta and LayMeta give. No condition; of LayMeta: of a meta that may be.
-/
import Derived.Test.YtkenhcgdnbgnpaaMetaLaws
import Derived.Test.YtkenhcgdnbgnpaaPageRefRead
import Derived.Test.YtkenhcgdnbgnpaaQuietNew
namespace Go.Proofs.Ytkenhcgdnbgnpaa
open Go Go.RowKit
attribute [local go_sem] cell_set_if

set_option maxRecDepth 100000 in
set_option maxHeartbeats 4000000 in
theorem refmvalid_any (a r f p : Int) (w : World) :
    Calls Try.prog 6 #[m4 a r f p] w fun e w' => e = .returned (.bool (decide (okM ⟨a, r, f, p⟩))) ∧ Below w.heap.size w w' := by
  by_cases c1 : a < 1
  · rw [decide_eq_false (show ¬ okM ⟨a, r, f, p⟩ by unfold okM placeP; simp only []; omega)]
    go_enter Try.func6, Try.ntmps6
    go_wp2
    go_ret
    exact ⟨by first | rfl | (refine ret_bool ?_; simp; omega), (Below.refl _ _).alloc (Nat.le_refl _) _⟩
  · by_cases c2 : 1099511627776 < a
    · rw [decide_eq_false (show ¬ okM ⟨a, r, f, p⟩ by unfold okM placeP; simp only []; omega)]
      have d1 : 1 ≤ a := by omega
      go_enter Try.func6, Try.ntmps6
      go_wp2
      go_ret
      exact ⟨by first | rfl | (refine ret_bool ?_; simp; omega), (Below.refl _ _).alloc (Nat.le_refl _) _⟩
    · by_cases c3 : p < 2
      · rw [decide_eq_false (show ¬ okM ⟨a, r, f, p⟩ by unfold okM placeP; simp only []; omega)]
        have d1 : 1 ≤ a := by omega
        have d2 : a ≤ 1099511627776 := by omega
        go_enter Try.func6, Try.ntmps6
        go_wp2
        go_ret
        exact ⟨by first | rfl | (refine ret_bool ?_; simp; omega), (Below.refl _ _).alloc (Nat.le_refl _) _⟩
      · by_cases c4 : 4000 < p
        · rw [decide_eq_false (show ¬ okM ⟨a, r, f, p⟩ by unfold okM placeP; simp only []; omega)]
          have d1 : 1 ≤ a := by omega
          have d2 : a ≤ 1099511627776 := by omega
          have d3 : 2 ≤ p := by omega
          go_enter Try.func6, Try.ntmps6
          go_wp2
          go_ret
          exact ⟨by first | rfl | (refine ret_bool ?_; simp; omega), (Below.refl _ _).alloc (Nat.le_refl _) _⟩
        · by_cases rh : r = 0
          · by_cases fh : f = 0
            · rw [decide_eq_true (show okM ⟨a, r, f, p⟩ by unfold okM placeP; simp only []; omega)]
              have d1 : 1 ≤ a := by omega
              have d2 : a ≤ 1099511627776 := by omega
              have d3 : 2 ≤ p := by omega
              have d4 : p ≤ 4000 := by omega
              have r0 : (r == 0) = true := by simpa using rh
              have f0 : (f == 0) = true := by simpa using fh
              go_enter Try.func6, Try.ntmps6
              go_wp2
              go_ret
              exact ⟨by first | rfl | (refine ret_bool ?_; simp; omega), (Below.refl _ _).alloc (Nat.le_refl _) _⟩
            · by_cases fk : f < 2
              · rw [decide_eq_false (show ¬ okM ⟨a, r, f, p⟩ by unfold okM placeP; simp only []; omega)]
                have d1 : 1 ≤ a := by omega
                have d2 : a ≤ 1099511627776 := by omega
                have d3 : 2 ≤ p := by omega
                have d4 : p ≤ 4000 := by omega
                have r0 : (r == 0) = true := by simpa using rh
                have f0 : (f == 0) = false := by simpa using fh
                go_enter Try.func6, Try.ntmps6
                go_wp2
                go_ret
                exact ⟨by first | rfl | (refine ret_bool ?_; simp; omega), (Below.refl _ _).alloc (Nat.le_refl _) _⟩
              · by_cases fm : p ≤ f
                · rw [decide_eq_false (show ¬ okM ⟨a, r, f, p⟩ by unfold okM placeP; simp only []; omega)]
                  have d1 : 1 ≤ a := by omega
                  have d2 : a ≤ 1099511627776 := by omega
                  have d3 : 2 ≤ p := by omega
                  have d4 : p ≤ 4000 := by omega
                  have r0 : (r == 0) = true := by simpa using rh
                  have f0 : (f == 0) = false := by simpa using fh
                  have f1 : 2 ≤ f := by omega
                  go_enter Try.func6, Try.ntmps6
                  go_wp2
                  go_ret
                  exact ⟨by first | rfl | (refine ret_bool ?_; simp; omega), (Below.refl _ _).alloc (Nat.le_refl _) _⟩
                · rw [decide_eq_true (show okM ⟨a, r, f, p⟩ by unfold okM placeP; simp only []; omega)]
                  have d1 : 1 ≤ a := by omega
                  have d2 : a ≤ 1099511627776 := by omega
                  have d3 : 2 ≤ p := by omega
                  have d4 : p ≤ 4000 := by omega
                  have r0 : (r == 0) = true := by simpa using rh
                  have f0 : (f == 0) = false := by simpa using fh
                  have f1 : 2 ≤ f := by omega
                  have f2 : f < p := by omega
                  go_enter Try.func6, Try.ntmps6
                  go_wp2
                  go_ret
                  exact ⟨by first | rfl | (refine ret_bool ?_; simp; omega), (Below.refl _ _).alloc (Nat.le_refl _) _⟩
          · by_cases rk : r < 2
            · rw [decide_eq_false (show ¬ okM ⟨a, r, f, p⟩ by unfold okM placeP; simp only []; omega)]
              have d1 : 1 ≤ a := by omega
              have d2 : a ≤ 1099511627776 := by omega
              have d3 : 2 ≤ p := by omega
              have d4 : p ≤ 4000 := by omega
              have r0 : (r == 0) = false := by simpa using rh
              go_enter Try.func6, Try.ntmps6
              go_wp2
              go_ret
              exact ⟨by first | rfl | (refine ret_bool ?_; simp; omega), (Below.refl _ _).alloc (Nat.le_refl _) _⟩
            · by_cases rm : p ≤ r
              · rw [decide_eq_false (show ¬ okM ⟨a, r, f, p⟩ by unfold okM placeP; simp only []; omega)]
                have d1 : 1 ≤ a := by omega
                have d2 : a ≤ 1099511627776 := by omega
                have d3 : 2 ≤ p := by omega
                have d4 : p ≤ 4000 := by omega
                have r0 : (r == 0) = false := by simpa using rh
                have r1 : 2 ≤ r := by omega
                go_enter Try.func6, Try.ntmps6
                go_wp2
                go_ret
                exact ⟨by first | rfl | (refine ret_bool ?_; simp; omega), (Below.refl _ _).alloc (Nat.le_refl _) _⟩
              · by_cases fh : f = 0
                · rw [decide_eq_true (show okM ⟨a, r, f, p⟩ by unfold okM placeP; simp only []; omega)]
                  have d1 : 1 ≤ a := by omega
                  have d2 : a ≤ 1099511627776 := by omega
                  have d3 : 2 ≤ p := by omega
                  have d4 : p ≤ 4000 := by omega
                  have r0 : (r == 0) = false := by simpa using rh
                  have r1 : 2 ≤ r := by omega
                  have r2 : r < p := by omega
                  have f0 : (f == 0) = true := by simpa using fh
                  have he1 : (r == f) = false := by simp; omega
                  go_enter Try.func6, Try.ntmps6
                  go_wp2
                  go_ret
                  exact ⟨by first | rfl | (refine ret_bool ?_; simp; omega), (Below.refl _ _).alloc (Nat.le_refl _) _⟩
                · by_cases fk : f < 2
                  · rw [decide_eq_false (show ¬ okM ⟨a, r, f, p⟩ by unfold okM placeP; simp only []; omega)]
                    have d1 : 1 ≤ a := by omega
                    have d2 : a ≤ 1099511627776 := by omega
                    have d3 : 2 ≤ p := by omega
                    have d4 : p ≤ 4000 := by omega
                    have r0 : (r == 0) = false := by simpa using rh
                    have r1 : 2 ≤ r := by omega
                    have r2 : r < p := by omega
                    have f0 : (f == 0) = false := by simpa using fh
                    go_enter Try.func6, Try.ntmps6
                    go_wp2
                    go_ret
                    exact ⟨by first | rfl | (refine ret_bool ?_; simp; omega), (Below.refl _ _).alloc (Nat.le_refl _) _⟩
                  · by_cases fm : p ≤ f
                    · rw [decide_eq_false (show ¬ okM ⟨a, r, f, p⟩ by unfold okM placeP; simp only []; omega)]
                      have d1 : 1 ≤ a := by omega
                      have d2 : a ≤ 1099511627776 := by omega
                      have d3 : 2 ≤ p := by omega
                      have d4 : p ≤ 4000 := by omega
                      have r0 : (r == 0) = false := by simpa using rh
                      have r1 : 2 ≤ r := by omega
                      have r2 : r < p := by omega
                      have f0 : (f == 0) = false := by simpa using fh
                      have f1 : 2 ≤ f := by omega
                      go_enter Try.func6, Try.ntmps6
                      go_wp2
                      go_ret
                      exact ⟨by first | rfl | (refine ret_bool ?_; simp; omega), (Below.refl _ _).alloc (Nat.le_refl _) _⟩
                    · by_cases he : r = f
                      · rw [decide_eq_false (show ¬ okM ⟨a, r, f, p⟩ by unfold okM placeP; simp only []; omega)]
                        have d1 : 1 ≤ a := by omega
                        have d2 : a ≤ 1099511627776 := by omega
                        have d3 : 2 ≤ p := by omega
                        have d4 : p ≤ 4000 := by omega
                        have r0 : (r == 0) = false := by simpa using rh
                        have r1 : 2 ≤ r := by omega
                        have r2 : r < p := by omega
                        have f0 : (f == 0) = false := by simpa using fh
                        have f1 : 2 ≤ f := by omega
                        have f2 : f < p := by omega
                        have he1 : (r == f) = true := by simpa using he
                        go_enter Try.func6, Try.ntmps6
                        go_wp2
                        go_ret
                        exact ⟨by first | rfl | (refine ret_bool ?_; simp; omega), (Below.refl _ _).alloc (Nat.le_refl _) _⟩
                      · rw [decide_eq_true (show okM ⟨a, r, f, p⟩ by unfold okM placeP; simp only []; omega)]
                        have d1 : 1 ≤ a := by omega
                        have d2 : a ≤ 1099511627776 := by omega
                        have d3 : 2 ≤ p := by omega
                        have d4 : p ≤ 4000 := by omega
                        have r0 : (r == 0) = false := by simpa using rh
                        have r1 : 2 ≤ r := by omega
                        have r2 : r < p := by omega
                        have f0 : (f == 0) = false := by simpa using fh
                        have f1 : 2 ≤ f := by omega
                        have f2 : f < p := by omega
                        have he1 : (r == f) = false := by simpa using he
                        go_enter Try.func6, Try.ntmps6
                        go_wp2
                        go_ret
                        exact ⟨by first | rfl | (refine ret_bool ?_; simp; omega), (Below.refl _ _).alloc (Nat.le_refl _) _⟩

set_option maxRecDepth 100000 in
set_option maxHeartbeats 4000000 in
theorem refmlay_any (a r f p : Nat) (w : World) (h : okM ⟨a, r, f, p⟩) :
    Calls Try.prog 9 #[m4 a r f p] w fun e w' => e = .returned (str (layM ⟨a, r, f, p⟩)) ∧ Below w.heap.size w w' := by
  have hb : bodyM ⟨a, r, f, p⟩ = lowB a 8 ++ (lowB r 8 ++ (lowB f 8 ++ lowB p 8)) := by simp [bodyM]
  have hpg : pgM ⟨a, r, f, p⟩ = ⟨1, a % 2, a, bodyM ⟨a, r, f, p⟩⟩ := by simp [pgM]
  obtain ⟨S, hS⟩ : ∃ S, S = bs (layM ⟨a, r, f, p⟩) := ⟨_, rfl⟩
  obtain ⟨i, hi⟩ : ∃ i, i = a % 2 := ⟨_, rfl⟩
  have hie : (a : Int) % 2 = (i : Int) := by omega
  obtain ⟨Bd, hBd⟩ : ∃ B, B = bs (bodyM ⟨a, r, f, p⟩) := ⟨_, rfl⟩
  have hL : ∀ w, Calls Try.prog 21 #[.agg #[.int .i64 1, .int .i64 i, .int .i64 a, .string Bd]] w fun e w' => e = .returned (.string S) ∧ Below w.heap.size w w' := fun w => by
    have := reflay_any 1 i a Bd w (by rw [hBd, bts_bs, hi, ← hpg]; exact pgM_ok h)
    rw [hBd, bts_bs, hi, ← hpg] at this
    rw [hS, hBd, hi]
    exact this
  obtain ⟨h1, h2, h3, h4, h5, h6, _⟩ := h
  unfold placeP at h5 h6
  simp only [] at h1 h2 h3 h4 h5 h6
  have u1 : IntKind.u64.wrap (a : Int) = (a : Int) := by simp [IntKind.wrap, IntKind.bits, IntKind.signed]; omega
  have u2 : IntKind.u64.wrap (r : Int) = (r : Int) := by simp [IntKind.wrap, IntKind.bits, IntKind.signed]; omega
  have u3 : IntKind.u64.wrap (f : Int) = (f : Int) := by simp [IntKind.wrap, IntKind.bits, IntKind.signed]; omega
  have u4 : IntKind.u64.wrap (p : Int) = (p : Int) := by simp [IntKind.wrap, IntKind.bits, IntKind.signed]; omega
  obtain ⟨K1, hK1⟩ : ∃ K, K = bs (lowB a 8) := ⟨_, rfl⟩
  obtain ⟨K2, hK2⟩ : ∃ K, K = bs (lowB r 8) := ⟨_, rfl⟩
  obtain ⟨K3, hK3⟩ : ∃ K, K = bs (lowB f 8) := ⟨_, rfl⟩
  obtain ⟨K4, hK4⟩ : ∃ K, K = bs (lowB p 8) := ⟨_, rfl⟩
  have a1 : ∀ w, Calls Try.prog 22 #[.int .u64 a, .int .i64 8] w fun e w' => e = .returned (.string K1) ∧ Below w.heap.size w w' := fun w => by rw [hK1]; exact low_any a 8 w (by omega) (by omega)
  have a2 : ∀ w, Calls Try.prog 22 #[.int .u64 r, .int .i64 8] w fun e w' => e = .returned (.string K2) ∧ Below w.heap.size w w' := fun w => by rw [hK2]; exact low_any r 8 w (by omega) (by omega)
  have a3 : ∀ w, Calls Try.prog 22 #[.int .u64 f, .int .i64 8] w fun e w' => e = .returned (.string K3) ∧ Below w.heap.size w w' := fun w => by rw [hK3]; exact low_any f 8 w (by omega) (by omega)
  have a4 : ∀ w, Calls Try.prog 22 #[.int .u64 p, .int .i64 8] w fun e w' => e = .returned (.string K4) ∧ Below w.heap.size w w' := fun w => by rw [hK4]; exact low_any p 8 w (by omega) (by omega)
  have s1 : K1.size = 8 := by rw [hK1, bs_size, lowB_len]
  have s2 : K2.size = 8 := by rw [hK2, bs_size, lowB_len]
  have s3 : K3.size = 8 := by rw [hK3, bs_size, lowB_len]
  have s4 : K4.size = 8 := by rw [hK4, bs_size, lowB_len]
  obtain ⟨Q2, g2⟩ : ∃ F, K1 ++ K2 = F := ⟨_, rfl⟩
  obtain ⟨Q3, g3⟩ : ∃ F, Q2 ++ K3 = F := ⟨_, rfl⟩
  have z2 : Q2.size = 16 := by rw [← g2, ByteArray.size_append]; omega
  have z3 : Q3.size = 24 := by rw [← g3, ByteArray.size_append]; omega
  have g4 : Q3 ++ K4 = Bd := by
    rw [hBd, hb, ← g3, ← g2]
    apply bts_inj
    simp only [bts_append, hK1, hK2, hK3, hK4, bts_bs, List.append_assoc]
  have r2 : ¬ (9223372036854775807 < K1.size + K2.size) := by omega
  have r3 : ¬ (9223372036854775807 < Q2.size + K3.size) := by omega
  have r4 : ¬ (9223372036854775807 < Q3.size + K4.size) := by omega
  have eS : str (layM ⟨a, r, f, p⟩) = .string S := by rw [hS]
  rw [eS]
  clear hK1 hK2 hK3 hK4 z2 z3 s1 s2 s3 s4 hb hpg hS hi hBd eS h1 h2 h3 h4 h5 h6
  go_enter Try.func9, Try.ntmps9
  go_wp2
  have C0 : Mc (w.alloc (.cells #[.int .i64 a, .int .i64 r, .int .i64 f, .int .i64 p] 29)) w.heap.size ⟨a, r, f, p⟩ := Mc.new_at w ⟨a, r, f, p⟩ _ w.heap.size rfl
  have B0 : Below w.heap.size w (w.alloc (.cells #[.int .i64 a, .int .i64 r, .int .i64 f, .int .i64 p] 29)) := (Below.refl _ _).alloc (Nat.le_refl _) _
  unfold Mc at C0
  obtain ⟨q0, q1, q2, q3⟩ := C0
  simp only [] at q0 q1 q2 q3
  have q0 := NewM.cell q0
  have q1 := NewM.cell q1
  have q2 := NewM.cell q2
  have q3 := NewM.cell q3
  refine wp_region_quiet_new (by kernel_rfl) (by kernel_rfl) ?_
  repeat (go_big_quiet_step (first
    | (go_at_call 22; with_reducible exact NewM.call (a1 _))
    | (go_at_call 22; with_reducible exact NewM.call (a2 _))
    | (go_at_call 22; with_reducible exact NewM.call (a3 _))
    | (go_at_call 22; with_reducible exact NewM.call (a4 _))
    | (go_at_call 21; with_reducible exact NewM.call (hL _))))
  refine wpQuiet_nil ?_
  rintro _ ⟨rr, rfl⟩
  go_wp2
  go_ret
  exact ⟨rfl, below_of rr.h B0 B0.size⟩
end Go.Proofs.Ytkenhcgdnbgnpaa
