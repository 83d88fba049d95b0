/-
  What the first call of meta's laws answers. No condition.
-/
import Derived.Test.YtkenhcgdnbgnpaaMetaChoose
namespace Go.Proofs.Ytkenhcgdnbgnpaa
open Go Go.RowKit
attribute [local go_sem] cell_set_if

/-- What Choose gives of these two. -/
theorem choose_is (a b : ByteArray) (ma mb z : Mt) (ea eb e : Nat) (ha : ∀ w, Calls Try.prog 11 #[.string a] w fun e w' => e = .returned (.tuple #[metaV ma, .int .i64 ea]) ∧ Below w.heap.size w w')
    (hb : ∀ w, Calls Try.prog 11 #[.string b] w fun e w' => e = .returned (.tuple #[metaV mb, .int .i64 eb]) ∧ Below w.heap.size w w')
    (hz : (chM ma ea mb eb).tx ≠ 0 ∧ chM ma ea mb eb = z ∧ e = 0 ∨ (chM ma ea mb eb).tx = 0 ∧ z = noM ∧ e = 25) (w : World) :
    Calls Try.prog 13 #[.string a, .string b] w fun e' w' => e' = .returned (.tuple #[metaV z, .int .i64 e]) ∧ Below w.heap.size w w' := by
  have := choose_any a b ma mb ea eb ha hb w
  rcases hz with ⟨h1, h2, h3⟩ | ⟨h1, h2, h3⟩
  · rw [if_neg h1, if_neg h1, h2] at this
    rw [h3]; exact this
  · rw [if_pos h1, if_pos h1] at this
    rw [h2, h3]; exact this
theorem mread_layM {m : Mt} (h : okM m) (w : World) :
    Calls Try.prog 11 #[str (layM m)] w fun e w' => e = .returned (.tuple #[metaV m, .int .i64 (0 : Nat)]) ∧ Below w.heap.size w w' := by
  have := mread_any (bs (layM m)) w (by rw [bs_size, layM_len h]; omega)
  unfold mReadM at this
  rw [bts_bs, errM_lay h, if_pos rfl, mB_lay h] at this
  exact this
theorem mread_none (w : World) :
    Calls Try.prog 11 #[.string ⟨#[]⟩] w fun e w' => e = .returned (.tuple #[metaV noM, .int .i64 (5 : Nat)]) ∧ Below w.heap.size w w' :=
  mread_err ⟨#[]⟩ 0 0 0 ⟨#[]⟩ 5 (by decide) (fun w => read_len _ w (by decide) (by decide)) w

theorem first_any (w : World) :
    Calls Try.prog 16 #[] w fun e w' => e = .returned (.agg #[.int .i64 1, .int .i64 0, .int .i64 0, .int .i64 2]) ∧ Below w.heap.size w w' := by
  go_enter Try.func16, Try.ntmps16
  go_wp2
  refine bodyPost_ret (v := .agg #[.int .i64 1, .int .i64 0, .int .i64 0, .int .i64 2]) (by simp only [results, show Try.f16.results = #[.cell 0 23] from rfl]; go_simp) rfl ⟨rfl, ?_⟩
  exact (Below.refl _ _).alloc (Nat.le_refl _) _

theorem alive6_any (w : World) :
    Calls Try.prog 4 #[] w fun e w' => e = .returned (.bool true) ∧ Below w.heap.size w w' := by
  have o1 : okM ⟨2, 0, 0, 2⟩ := by decide
  have o2 : okM ⟨3, 0, 0, 2⟩ := by decide
  obtain ⟨S1, S2, h1, h2, h3⟩ : ∃ S1 S2 : ByteArray, (∀ w, Calls Try.prog 5 #[.agg #[.int .i64 2, .int .i64 0, .int .i64 0, .int .i64 2]] w fun e w' => e = .returned (.tuple #[.string S1, .int .i64 0]) ∧ Below w.heap.size w w')
      ∧ (∀ w, Calls Try.prog 5 #[.agg #[.int .i64 3, .int .i64 0, .int .i64 0, .int .i64 2]] w fun e w' => e = .returned (.tuple #[.string S2, .int .i64 0]) ∧ Below w.heap.size w w')
      ∧ (∀ w, Calls Try.prog 13 #[.string S1, .string S2] w fun e w' => e = .returned (.tuple #[.agg #[.int .i64 3, .int .i64 0, .int .i64 0, .int .i64 2], .int .i64 0]) ∧ Below w.heap.size w w') :=
    ⟨bs (layM ⟨2, 0, 0, 2⟩), bs (layM ⟨3, 0, 0, 2⟩), fun w => mlay_ok 2 0 0 2 w o1, fun w => mlay_ok 3 0 0 2 w o2, fun w => choose_is _ _ ⟨2, 0, 0, 2⟩ ⟨3, 0, 0, 2⟩ ⟨3, 0, 0, 2⟩ 0 0 0 (mread_layM o1) (mread_layM o2) (.inl ⟨by decide, rfl, rfl⟩) w⟩
  have hs : ∀ w, Calls Try.prog 10 #[.int .i64 3] w fun e w' => e = .returned (.int .i64 1) ∧ w' = w := fun w => slot_any 3 w
  clear o1 o2
  go_enter Try.func4, Try.ntmps4
  go_wp2_with (first
    | (go_at_call 5; with_reducible refine (h1 _).mono ?_; rintro e w1 ⟨rfl, b1⟩)
    | (go_at_call 5; with_reducible refine (h2 _).mono ?_; rintro e w2 ⟨rfl, b2⟩; have B2 := below_of b2 b1 b1.size)
    | (go_at_call 13; refine (h3 _).mono ?_; rintro e w3 ⟨rfl, b3⟩; have B3 := below_of b3 B2 B2.size; have M3 := Mc.new_at w3 ⟨3, 0, 0, 2⟩ 23 w3.heap.size rfl; unfold Mc at M3; simp only [] at M3)
    | (go_at_call 10; refine (hs _).mono ?_; rintro e w4 ⟨rfl, hw4⟩; subst hw4)
    | (go_at_call 16; refine (first_any _).mono ?_; rintro e w5 ⟨rfl, b5⟩; have B5 := below_of b5 (B3.alloc B3.size _) (B3.alloc B3.size _).size))
  go_ret
  exact ⟨rfl, B5⟩
end Go.Proofs.Ytkenhcgdnbgnpaa
