/-
  What the calls of the law BigTells give, in the law's own words. Conditions: those of the calls.
-/
import Derived.Test.YtejmpfmkaiaklaaBigReadW
import Derived.Test.YtejmpfmkaiaklaaBigUnref
namespace Go.Proofs.Ytejmpfmkaiaklaa
open Go Go.RowKit
attribute [local go_sem] cell_set_if

/-- What both layings give. -/
def LaidS (first tx : Int) (v : ByteArray) (NL : Nat) (E : Int) (w : World) (e : Ending) (w' : World) : Prop :=
  ∃ A c, e = .returned (.tuple #[.slice A NL c, .int .i64 E]) ∧ Rd w' A (pagesV first tx v NL) ∧ Below w.heap.size w w'
theorem laidS_none (first tx : Int) (v : ByteArray) (w w' : World) (h : Below w.heap.size w w') : LaidS first tx v 0 1 w (.returned (.tuple #[.slice none 0 0, .int .i64 1])) w' := ⟨none, 0, rfl, Rd.nil _ _, h⟩
/-- Both are refused, or both are laid. -/
theorem laid_cases (v : ByteArray) (first tx : Int) (hm : v.size ≤ 3000) : ∃ (NL : Nat) (E : Int), (E = 1 ∧ NL = 0 ∨ E = 0 ∧ NL = needN v.size ∧ v.size ≤ 2000 ∧ 2 ≤ first ∧ first < 4000) ∧
    (∀ w, Calls Try.prog 13 #[.string v, .int .i64 first, .int .i64 tx] w (LaidS first tx v NL E w)) ∧
    (∀ w, Calls Try.prog 19 #[.string v, .int .i64 first, .int .i64 tx] w (LaidS first tx v NL E w)) := by
  by_cases h : 2000 < v.size ∨ first < 2 ∨ 4000 ≤ first
  · refine ⟨0, 1, .inl ⟨rfl, rfl⟩, fun w => ?_, fun w => ?_⟩
    · exact (blay_far v first tx w (by omega) h).mono fun e w' ⟨h1, h2⟩ => by subst h1 h2; exact laidS_none _ _ _ _ _ (Below.refl _ _)
    · by_cases h' : 2000 < v.size ∨ first < 2
      · exact (reflay_far v first tx w (by omega) h').mono fun e w' ⟨h1, h2⟩ => by subst h1 h2; exact laidS_none _ _ _ _ _ (Below.refl _ _)
      · exact (reflay_high v first tx w (by omega) (by omega)).mono fun e w' ⟨h1, h2⟩ => by subst h1; exact laidS_none _ _ _ _ _ h2
  · have a := blay_any v first tx
    have b := reflay_any v first tx
    cases ho : bigOk v.size first tx with
    | false =>
      refine ⟨0, 1, .inl ⟨rfl, rfl⟩, fun w => (a w (by omega) (by omega) (by omega)).mono ?_, fun w => (b w (by omega) (by omega) (by omega)).mono ?_⟩
      all_goals
        rintro e w' ⟨⟨h1, _⟩ | ⟨_, h1⟩, h2⟩
        · rw [ho] at h1; cases h1
        · subst h1; exact laidS_none _ _ _ _ _ h2
    | true =>
      refine ⟨needN v.size, 0, .inr ⟨rfl, rfl, by omega, by omega, by omega⟩, fun w => (a w (by omega) (by omega) (by omega)).mono ?_, fun w => (b w (by omega) (by omega) (by omega)).mono ?_⟩
      all_goals
        rintro e w' ⟨⟨_, A, c, h1, h3⟩ | ⟨h1, _⟩, h2⟩
        · exact ⟨A, c, h1, Rd.of_own h3, h2⟩
        · rw [ho] at h1; cases h1

theorem unrefE_cases (l : List UInt8) : (∃ (f : Int) (n : Nat), unrefE l = (f, (n : Int), 0) ∧ 2 ≤ f ∧ f < 4000 ∧ n ≤ 2000) ∨ unrefE l = (0, 0, 6) := by
  by_cases h : l.length = 4
  · rw [unrefE_four l h]
    by_cases h2 : (refE (numL (l.take 2)) (numL (l.drop 2))).2 = 0
    · rw [if_pos h2]
      left
      refine ⟨_, _, rfl, ?_⟩
      unfold refE at h2
      split at h2
      · exact absurd h2 (by decide)
      · omega
    · rw [if_neg h2]; exact .inr rfl
  · exact .inr (unrefE_len l h)
theorem ids_no (s : ByteArray) (w : World) (hs : s.size ≤ 100000) (hu : unrefE (bts s) = (0, 0, 6)) :
    Calls Try.prog 18 #[.string s] w fun e w' => e = .returned (.tuple #[.slice none 0 0, .int .i64 6]) ∧ Below w.heap.size w w' := by
  have hU : ∀ w, Calls Try.prog 17 #[.string s] w fun e w' => e = .returned (.tuple #[.int .i64 0, .int .i64 0, .int .i64 6]) ∧ Below w.heap.size w w' := fun w => by
    have := unref_any s w hs
    rw [hu] at this; exact this
  have HU := Lib.hid hU
  clear hU hu
  go_enter Try.func18, Try.ntmps18
  go_wp2_with (go_at_call 17; refine (HU.out _).mono ?_; rintro e w1 ⟨rfl, b1⟩)
  go_ret2
  exact ⟨rfl, b1⟩
theorem idsV_at (a : Int) (n k : Nat) (h : k < n) : (idsV a n)[k]? = some (.int .i64 (a + k)) := by
  unfold idsV; rw [List.getElem?_map, List.getElem?_range h]; rfl
/-- What Ids gives, and both Unref. -/
theorem place_cases (s : ByteArray) (hs : s.size ≤ 100000) : ∃ (a b : Int) (i : Int) (NI : Nat), (i = 0 ∧ 2 ≤ a ∧ a < 4000 ∧ 0 ≤ b ∧ b ≤ 2000 ∧ NI ≤ 9 ∧ (∀ w, Calls Try.prog 22 #[.int .i64 b] w fun e w' => e = .returned (.int .i64 NI) ∧ w' = w) ∨ i = 6 ∧ NI = 0) ∧
    (∀ w, Calls Try.prog 17 #[.string s] w fun e w' => e = .returned (.tuple #[.int .i64 a, .int .i64 b, .int .i64 i]) ∧ Below w.heap.size w w') ∧
    (∀ w, Calls Try.prog 21 #[.string s] w fun e w' => e = .returned (.tuple #[.int .i64 a, .int .i64 b, .int .i64 i]) ∧ Below w.heap.size w w') ∧
    (∀ w, Calls Try.prog 18 #[.string s] w fun e w' => (∃ A c, e = .returned (.tuple #[.slice A NI c, .int .i64 i]) ∧ Rd w' A (idsV a NI)) ∧ Below w.heap.size w w') := by
  rcases unrefE_cases (bts s) with ⟨f, n, h, h1, h2, h3⟩ | h
  · refine ⟨f, n, 0, needN n, .inl ⟨rfl, h1, h2, by omega, by omega, needN_le n h3, fun w => refneed_nat n w (by omega)⟩, fun w => ?_, fun w => ?_, fun w => ?_⟩
    · have := unref_any s w hs; rw [h] at this; exact this
    · have := refunref_any s w hs; rw [h] at this; exact this
    · exact (ids_ok s f n w hs h (by omega) (by omega) h3).mono fun e w' ⟨⟨A, c, a1, a2⟩, a3⟩ => ⟨⟨A, c, a1, Rd.of_own a2⟩, a3⟩
  · refine ⟨0, 0, 6, 0, .inr ⟨rfl, rfl⟩, fun w => ?_, fun w => ?_, fun w => ?_⟩
    · have := unref_any s w hs; rw [h] at this; exact this
    · have := refunref_any s w hs; rw [h] at this; exact this
    · exact (ids_no s w hs h).mono fun e w' ⟨a1, a2⟩ => ⟨⟨none, 0, a1, Rd.nil _ _⟩, a2⟩

theorem partB_len (v : ByteArray) (k : Nat) (h : k * 232 ≤ v.size) : (partB v k).size = min (v.size - k * 232) 232 := by
  unfold partB; rw [ByteArray.size_extract]; omega
theorem good_all (v : ByteArray) (lost : Int) (h : lost < 0 ∨ (needN v.size : Int) ≤ lost) (k : Nat) (hk : k < needN v.size) : goodP v (needN v.size) lost v.size k := by
  have := needN_lt v.size k hk
  exact ⟨hk, by omega, by rw [partB_len v k this]; omega⟩
theorem less_bad (v : ByteArray) (lost : Int) (h1 : (v.size - 1) % 232 ≠ 0) : ∃ k, k < needN (v.size - 1) ∧ ¬ goodP v (needN v.size) lost (v.size - 1) k := by
  have h0 : 2 ≤ v.size := by omega
  refine ⟨(v.size - 2) / 232, by unfold needN; rw [if_neg (by omega)]; omega, fun h => ?_⟩
  have h3 := h.2.2
  rw [partB_len v _ (by omega)] at h3
  omega
/-- The place of a value; what is read there. -/
theorem reads (v : ByteArray) (first tx lost : Int) (hv : v.size ≤ 2000) (h0 : 2 ≤ first) (h1 : first < 4000) : ∃ (O : ByteArray) (X : ByteArray) (Y : Int),
    (∀ w, Calls Try.prog 16 #[.int .i64 first, .int .i64 v.size] w fun e w' => e = .returned (.tuple #[.string O, .int .i64 0]) ∧ Below w.heap.size w w') ∧
    (∀ w gl gk b o c, GetW w gl gk b o c (needN v.size) first tx lost v → Calls Try.prog 24 #[.string O, .func (.func 23) #[] #[.pointer (some ⟨gl, 0, none⟩), .pointer (some ⟨gk, 0, none⟩)]] w fun e w' => e = .returned (.tuple #[.string X, .int .i64 Y]) ∧ Below w.heap.size w w') ∧
    ((0 ≤ lost ∧ lost < (needN v.size : Int)) ∧ X = ⟨#[]⟩ ∧ Y = 25 ∨ (lost < 0 ∨ 0 ≤ lost ∧ (needN v.size : Int) ≤ lost) ∧ X = v ∧ Y = 0) := by
  obtain ⟨O, s1, s2, s3⟩ := ref_text first v.size h0 h1 hv
  by_cases hl : 0 ≤ lost ∧ lost < (needN v.size : Int)
  · refine ⟨O, ⟨#[]⟩, 25, s3, fun w gl gk b o c hG => ?_, .inl ⟨hl, rfl, rfl⟩⟩
    refine (bread_any w gl gk b o c first tx lost v O v.size (by omega) s2 (by omega) (by omega) hv hv hG).mono ?_
    rintro e w' ⟨⟨hg, _⟩ | ⟨_, he⟩, hb⟩
    · exact absurd rfl ((by have := (hg lost.toNat (by omega)).2.1; omega : ¬ lost = lost))
    · exact ⟨he, hb⟩
  · refine ⟨O, v, 0, s3, fun w gl gk b o c hG => ?_, .inr ⟨by omega, rfl, rfl⟩⟩
    refine (bread_any w gl gk b o c first tx lost v O v.size (by omega) s2 (by omega) (by omega) hv hv hG).mono ?_
    rintro e w' ⟨⟨_, he⟩ | ⟨⟨k, hk, hn⟩, _⟩, hb⟩
    · rw [upB_end] at he; exact ⟨he, hb⟩
    · exact absurd (good_all v lost (by omega) k hk) hn
theorem reads_less (v : ByteArray) (first tx lost : Int) (hv : v.size ≤ 2000) (h0 : 2 ≤ first) (h1 : first < 4000) : ∃ O : ByteArray,
    (∀ w, Calls Try.prog 16 #[.int .i64 first, .int .i64 ((v.size - 1 : Nat) : Int)] w fun e w' => e = .returned (.tuple #[.string O, .int .i64 0]) ∧ Below w.heap.size w w') ∧
    (∀ w gl gk b o c, GetW w gl gk b o c (needN v.size) first tx lost v → Calls Try.prog 24 #[.string O, .func (.func 23) #[] #[.pointer (some ⟨gl, 0, none⟩), .pointer (some ⟨gk, 0, none⟩)]] w fun e w' => (∃ (U : ByteArray) (Q : Int), e = .returned (.tuple #[.string U, .int .i64 Q]) ∧ ((v.size - 1) % 232 = 0 ∨ U = ⟨#[]⟩ ∧ Q = 25)) ∧ Below w.heap.size w w') := by
  obtain ⟨O, s1, s2, s3⟩ := ref_text first (v.size - 1) h0 h1 (by omega)
  refine ⟨O, s3, fun w gl gk b o c hG => ?_⟩
  refine (bread_any w gl gk b o c first tx lost v O (v.size - 1) (by omega) s2 (by omega) (by omega) (by omega) hv hG).mono ?_
  rintro e w' ⟨⟨hg, he⟩ | ⟨_, he⟩, hb⟩
  · refine ⟨⟨_, _, he, ?_⟩, hb⟩
    by_cases h : (v.size - 1) % 232 = 0
    · exact .inl h
    · obtain ⟨k, hk, hn⟩ := less_bad v lost h
      exact absurd (hg k hk) hn
  · exact ⟨⟨_, _, he, .inr ⟨rfl, rfl⟩⟩, hb⟩
end Go.Proofs.Ytejmpfmkaiaklaa
