/-
  meta.Read for every bytes, in one: what it answers as a plain function. Condition: bytes no longer than memory holds.
-/
import Derived.Test.YtkenhcgdnbgnpaaMetaRead
namespace Go.Proofs.Ytkenhcgdnbgnpaa
open Go Go.RowKit

/-- What meta.Read answers. -/
def mReadM (b : List UInt8) : Mt := if errM b = 0 then mB b else noM
theorem okM_nats {m : Mt} (h : okM m) : ∃ a r f p : Nat, m = ⟨a, r, f, p⟩ := by
  obtain ⟨tx, ro, fr, pg⟩ := m
  obtain ⟨h1, h2, h3, h4, h5, h6, _⟩ := h
  unfold placeP at h5 h6
  simp only [] at h1 h2 h3 h4 h5 h6
  exact ⟨tx.toNat, ro.toNat, fr.toNat, pg.toNat, by congr 1 <;> omega⟩
theorem bodyB_layM {m : Mt} (h : okM m) : (bodyB (layM m)).length = 32 := by
  unfold layM; rw [bodyB_lay (pgM_ok h)]; exact bodyM_len m

theorem mread_any (b : ByteArray) (w : World) (hz : b.size ≤ 100000) :
    Calls Try.prog 11 #[.string b] w fun e w' => e = .returned (.tuple #[metaV (mReadM (bts b)), .int .i64 (errM (bts b))]) ∧ Below w.heap.size w w' := by
  unfold mReadM
  by_cases hs : b.size = 256
  · have hl : (bts b).length = 256 := by rw [bts_len]; exact hs
    by_cases he : errB (bts b) = 0
    · have hR : ∀ w, Calls Try.prog 23 #[.string b] w fun e w' => e = .returned (.tuple #[pageV (kindB (bts b)) (idB (bts b)) (txB (bts b)) (bs (bodyB (bts b))), .int .i64 0]) ∧ Below w.heap.size w w' := fun w => by
        have := read_any b w hs
        unfold readV at this
        rw [he, if_pos rfl] at this
        exact this
      have hL : (bodyB (bts b)).length ≤ 232 := (errB_ok he).1.2.2.2.2
      by_cases h32 : 32 ≤ (bodyB (bts b)).length
      · by_cases ho : okM (mB (bts b))
        · obtain ⟨a, r, f, p, hm⟩ := okM_nats ho
          have hX : m4 (sgn (numL ((bodyB (bts b)).take 8))) (sgn (numL (((bodyB (bts b)).drop 8).take 8))) (sgn (numL (((bodyB (bts b)).drop 16).take 8))) (sgn (numL (((bodyB (bts b)).drop 24).take 8))) = m4 a r f p := by
            show metaV (mB (bts b)) = _
            rw [hm]
          have ho' := ho
          rw [hm] at ho'
          have hY : ∀ w, Calls Try.prog 5 #[m4 (sgn (numL ((bodyB (bts b)).take 8))) (sgn (numL (((bodyB (bts b)).drop 8).take 8))) (sgn (numL (((bodyB (bts b)).drop 16).take 8))) (sgn (numL (((bodyB (bts b)).drop 24).take 8)))] w fun e w' => e = .returned (.tuple #[.string (bs (layM (mB (bts b)))), .int .i64 0]) ∧ Below w.heap.size w w' := fun w => by
            rw [hX, hm]; exact mlay_ok a r f p w ho'
          by_cases hq : layM (mB (bts b)) = bts b
          · have e : errM (bts b) = 0 := by unfold errM; rw [if_neg (by simp [hl]), if_neg (by simp [he]), if_pos ⟨ho, hq⟩]
            rw [e, if_pos rfl]
            exact mread_fine b _ _ _ _ hL hR h32 _ 0 hY rfl (by rw [str_beq, bts_bs]; exact decide_eq_true hq) w
          · have e : errM (bts b) = 6 := by unfold errM; rw [if_neg (by simp [hl]), if_neg (by simp [he]), if_neg (fun h => hq h.2)]
            rw [e, if_neg (by decide)]
            exact mread_other b _ _ _ _ hL hR h32 _ 0 hY rfl (by rw [str_beq, bts_bs]; exact decide_eq_false hq) w
        · have e : errM (bts b) = 6 := by unfold errM; rw [if_neg (by simp [hl]), if_neg (by simp [he]), if_neg (fun h => ho h.1)]
          rw [e, if_neg (by decide)]
          exact mread_bad b _ _ _ _ hL hR h32 _ 1 (fun w => mlay_no _ _ _ _ w ho) rfl w
      · have hne : ∀ m, okM m → layM m ≠ bts b := fun m hm h => by
          have := bodyB_layM hm
          rw [h] at this; omega
        have e : errM (bts b) = 6 := by unfold errM; rw [if_neg (by simp [hl]), if_neg (by simp [he]), if_neg (fun h => hne _ h.1 h.2)]
        rw [e, if_neg (by decide)]
        refine mread_short b _ _ _ _ hL hR (fun a r f p w => ?_) w
        by_cases ho : okM ⟨a, r, f, p⟩
        · obtain ⟨a', r', f', p', hm⟩ := okM_nats ho
          injection hm with m1 m2 m3 m4'
          subst m1 m2 m3 m4'
          exact (mlay_ok a' r' f' p' w ho).mono fun e w' ⟨h1, h2⟩ => ⟨⟨_, _, .inr ⟨rfl, by rw [str_beq, bts_bs]; exact decide_eq_false (hne _ ho)⟩, h1⟩, h2⟩
        · exact (mlay_no a r f p w ho).mono fun e w' ⟨h1, h2⟩ => ⟨⟨_, _, .inl rfl, h1⟩, h2⟩
    · have e : errM (bts b) = errB (bts b) := by unfold errM; rw [if_neg (by simp [hl]), if_pos he]
      rw [e, if_neg he]
      refine mread_err b 0 0 0 ⟨#[]⟩ _ (by omega) (fun w => ?_) w
      have := read_any b w hs
      unfold readV at this
      rw [if_neg he] at this
      exact this
  · have e : errM (bts b) = 5 := by unfold errM; rw [if_pos (by rw [bts_len]; exact hs)]
    rw [e, if_neg (by decide)]
    exact mread_err b 0 0 0 ⟨#[]⟩ 5 (by decide) (fun w => read_len b w hs (by omega)) w
end Go.Proofs.Ytkenhcgdnbgnpaa
