/-
  What the document's Unref gives. Condition: a text no longer than memory holds.
-/
import Derived.Test.YtejmpfmkaiaklaaBigRefs
namespace Go.Proofs.Ytejmpfmkaiaklaa
open Go Go.RowKit
attribute [local go_sem] cell_set_if

set_option maxRecDepth 100000 in
set_option maxHeartbeats 1000000 in
theorem refunref_any (s : ByteArray) (w : World) (hs : s.size ≤ 100000) :
    Calls Try.prog 21 #[.string s] w fun e w' => e = .returned (.tuple #[.int .i64 (unrefE (bts s)).1, .int .i64 (unrefE (bts s)).2.1, .int .i64 (unrefE (bts s)).2.2]) ∧ Below w.heap.size w w' := by
  by_cases h4 : s.size = 4
  · have hl : (bts s).length = 4 := by rw [bts_len]; exact h4
    have b1 : numL ((bts s).take 2) < 65536 := by have := numL_lt ((bts s).take 2); rw [List.length_take, hl] at this; exact this
    have b2 : numL ((bts s).drop 2) < 65536 := by have := numL_lt ((bts s).drop 2); rw [List.length_drop, hl] at this; exact this
    have e1 : bts (s.extract 0 2) = (bts s).take 2 := by rw [bts_extract]; rfl
    have e2 : bts (s.extract 2 4) = (bts s).drop 2 := by rw [bts_extract, List.take_of_length_le (by omega)]
    have n1 := fun w => refnum_any (s.extract 0 2) w (by rw [ByteArray.size_extract]; omega)
    have n2 := fun w => refnum_any (s.extract 2 4) w (by rw [ByteArray.size_extract]; omega)
    rw [e1] at n1
    rw [e2] at n2
    have hE := unrefE_four (bts s) hl
    obtain ⟨a, ha⟩ : ∃ a : Int, a = (numL ((bts s).take 2) : Int) := ⟨_, rfl⟩
    obtain ⟨b, hb⟩ : ∃ b : Int, b = (numL ((bts s).drop 2) : Int) := ⟨_, rfl⟩
    rw [← ha] at n1 hE
    rw [← hb] at n2 hE
    have a0 : 0 ≤ a := by omega
    have a1 : a ≤ 65535 := by omega
    have b0 : 0 ≤ b := by omega
    have b3 : b ≤ 65535 := by omega
    have hr := fun w => refref_any a b w
    generalize hq : refE a b = q at *
    have h4' : (s.size : Int) = 4 := by omega
    have q1 : IntKind.i64.wrap a = a := IntWalk.i64_in _ (by omega)
    have q2 : IntKind.i64.wrap b = b := IntWalk.i64_in _ (by omega)
    have N1 := Lib.hid n1
    have N2 := Lib.hid n2
    have HR := Lib.hid hr
    rw [hE]
    clear ha hb b1 b2 e1 e2 n1 n2 hr hE hl hq
    obtain ⟨T, hT⟩ : ∃ T, str q.1 = .string T := ⟨_, rfl⟩
    by_cases h0 : q.2 = 0
    · rw [if_pos h0]
      have HR2 : Hid (∀ w, Calls Try.prog 20 #[.int .i64 a, .int .i64 b] w fun e w' => e = .returned (.tuple #[.string T, .int .i64 0]) ∧ Below w.heap.size w w') := fun w => by
        have := HR.out w; rw [h0, hT] at this; exact this
      clear HR h0 hT
      dsimp only
      go_enter Try.func21, Try.ntmps21
      go_wp2
      go_quiet ((first
        | (go_at_call 34; with_reducible exact Calls.quiet_of_same (N1.out _))
        | (go_at_call 34; with_reducible exact Calls.quiet_of_same (N2.out _))))
      go_wp2_with (go_at_call 20; with_reducible refine (HR2.out _).mono ?_; rintro e w3 ⟨rfl, b5⟩)
      go_ret3
      exact ⟨rfl, below_of b5 (below_drewN (Below.refl _ _) _) (Nat.le_refl _)⟩
    · rw [if_neg h0]
      obtain ⟨x, hx⟩ : ∃ x, x = q.2 := ⟨_, rfl⟩
      rw [← hx] at h0
      have hx0 : (x == 0) = false := by simpa using h0
      have HR2 : Hid (∀ w, Calls Try.prog 20 #[.int .i64 a, .int .i64 b] w fun e w' => e = .returned (.tuple #[.string T, .int .i64 x]) ∧ Below w.heap.size w w') := fun w => by
        have := HR.out w; rw [hT, ← hx] at this; exact this
      clear HR hT hx
      dsimp only
      go_enter Try.func21, Try.ntmps21
      go_wp2
      go_quiet ((first
        | (go_at_call 34; with_reducible exact Calls.quiet_of_same (N1.out _))
        | (go_at_call 34; with_reducible exact Calls.quiet_of_same (N2.out _))))
      go_wp2_with (go_at_call 20; with_reducible refine (HR2.out _).mono ?_; rintro e w3 ⟨rfl, b5⟩)
      go_ret3
      exact ⟨rfl, below_of b5 (below_drewN (Below.refl _ _) _) (Nat.le_refl _)⟩
  · rw [unrefE_len (bts s) (by rw [bts_len]; exact h4)]
    have h4' : ((s.size : Int) == 4) = false := by simp; omega
    have h5 : ¬ ((s.size : Int) = 4) := by omega
    clear h4
    dsimp only
    go_enter Try.func21, Try.ntmps21
    go_wp2
    go_ret3
    exact ⟨rfl, Below.refl _ _⟩
end Go.Proofs.Ytejmpfmkaiaklaa
