/-
  What the document's Ref, Unref give. Condition: a text no longer than memory holds.
-/
import Derived.Test.YtejmpfmkaiaklaaBigRefN
import Derived.Test.YtejmpfmkaiaklaaRefNum
import Derived.Test.YtejmpfmkaiaklaaBigPartsP
namespace Go.Proofs.Ytejmpfmkaiaklaa
open Go Go.RowKit
attribute [local go_sem] cell_set_if

theorem blow_as {w : World} {v n : Nat} {T : ByteArray} (hv : v < 18446744073709551616) (hn : n ≤ 1000000) (e : lowB v n = bts T) : Calls Try.prog 52 #[.int .u64 v, .int .i64 n] w fun e w' => e = .returned (.string T) ∧ Below w.heap.size w w' := by
  have := low_any v n w hv hn
  rw [e, show str (bts T) = .string T by rw [show str (bts T) = .string (bs (bts T)) from rfl, bs_bts]] at this
  exact this

theorem refref_any (first n : Int) (w : World) :
    Calls Try.prog 20 #[.int .i64 first, .int .i64 n] w fun e w' => e = .returned (.tuple #[str (refE first n).1, .int .i64 (refE first n).2]) ∧ Below w.heap.size w w' := by
  by_cases hc : first < 2 ∨ 4000 ≤ first ∨ n < 0 ∨ 2000 < n
  · have hE : refE first n = ([], 1) := if_pos hc
    rw [hE]
    have hcs : first < 2 ∨ (2 ≤ first ∧ 4000 ≤ first) ∨ (2 ≤ first ∧ first < 4000 ∧ n < 0) ∨ (2 ≤ first ∧ first < 4000 ∧ 0 ≤ n ∧ 2000 < n) := by omega
    clear hc hE
    rcases hcs with h | ⟨h0, h⟩ | ⟨h0, h1, h⟩ | ⟨h0, h1, h2, h⟩
    all_goals
      go_enter Try.func20, Try.ntmps20
      go_wp2
      go_ret2
      exact ⟨rfl, Below.refl _ _⟩
  · have hE := refE_ok hc
    rw [hE]
    obtain ⟨T1, hT1⟩ : ∃ T, lowB first.toNat 2 = bts T := ⟨bs _, rfl⟩
    obtain ⟨T2, hT2⟩ : ∃ T, lowB n.toNat 2 = bts T := ⟨bs _, rfl⟩
    have hz1 : T1.size = 2 := by rw [← bts_len, ← hT1, lowB_len]
    have hz2 : T2.size = 2 := by rw [← bts_len, ← hT2, lowB_len]
    have HL1 : Hid (∀ w, Calls Try.prog 52 #[.int .u64 first, .int .i64 2] w fun e w' => e = .returned (.string T1) ∧ Below w.heap.size w w') := fun w => by
      have := blow_as (w := w) (v := first.toNat) (n := 2) (by omega) (by omega) hT1
      rw [show ((first.toNat : Nat) : Int) = first by omega] at this; exact this
    have HL2 : Hid (∀ w, Calls Try.prog 52 #[.int .u64 n, .int .i64 2] w fun e w' => e = .returned (.string T2) ∧ Below w.heap.size w w') := fun w => by
      have := blow_as (w := w) (v := n.toNat) (n := 2) (by omega) (by omega) hT2
      rw [show ((n.toNat : Nat) : Int) = n by omega] at this; exact this
    have hst : str (lowB first.toNat 2 ++ lowB n.toNat 2) = .string (T1 ++ T2) := by
      rw [hT1, hT2, ← bts_append, show str (bts (T1 ++ T2)) = .string (bs (bts (T1 ++ T2))) from rfl, bs_bts]
    dsimp only
    rw [hst]
    have h0 : 2 ≤ first := by omega
    have h1 : first < 4000 := by omega
    have h2 : 0 ≤ n := by omega
    have h3 : n ≤ 2000 := by omega
    have hs : ¬ (9223372036854775807 < T1.size + T2.size) := by omega
    clear hc hE hst hT1 hT2
    go_enter Try.func20, Try.ntmps20
    go_wp2_with (first
      | (go_at_call 52; with_reducible refine (HL1.out _).mono ?_; rintro e w1 ⟨rfl, b1⟩)
      | (go_at_call 52; with_reducible refine (HL2.out _).mono ?_; rintro e w2 ⟨rfl, b2⟩; have B2 := below_of b2 b1 b1.size))
    go_ret2
    exact ⟨rfl, B2⟩

theorem unrefE_len (l : List UInt8) (h : l.length ≠ 4) : unrefE l = (0, 0, 6) := by
  unfold unrefE
  simp only
  rw [if_neg]
  rintro ⟨h1, h2⟩
  apply h
  by_cases hc : (getNum 2 (l, 0)).1 < 2 ∨ 4000 ≤ (getNum 2 (l, 0)).1 ∨ (getNum 2 (getNum 2 (l, 0)).2).1 < 0 ∨ 2000 < (getNum 2 (getNum 2 (l, 0)).2).1
  · rw [refE, if_pos hc] at h1; simp at h1
  · rw [refE_ok hc] at h2; rw [← h2]; simp [lowB_len]
theorem unrefE_four (l : List UInt8) (h : l.length = 4) : unrefE l = if (refE (numL (l.take 2)) (numL (l.drop 2))).2 = 0 then ((numL (l.take 2) : Int), (numL (l.drop 2) : Int), 0) else (0, 0, 6) := by
  have e : l = l.take 2 ++ l.drop 2 := (List.take_append_drop 2 l).symm
  have l1 : (l.take 2).length = 2 := by rw [List.length_take]; omega
  have l2 : (l.drop 2).length = 2 := by rw [List.length_drop]; omega
  have a1 : l.take 2 = lowB (numL (l.take 2)) 2 := by have := lowB_num (l.take 2); rw [l1] at this; exact this.symm
  have a2 : l.drop 2 = lowB (numL (l.drop 2)) 2 := by have := lowB_num (l.drop 2); rw [l2] at this; exact this.symm
  have b1 : numL (l.take 2) < 65536 := by have := numL_lt (l.take 2); rw [l1] at this; exact this
  have b2 : numL (l.drop 2) < 65536 := by have := numL_lt (l.drop 2); rw [l2] at this; exact this
  have g1 : getNum 2 (l, 0) = ((numL (l.take 2) : Int), (l.drop 2, 0)) := by
    have := getNumL 2 (numL (l.take 2)) (l.drop 2) (by omega) (by omega)
    rw [← a1, ← e] at this; exact this
  have g2 : getNum 2 (l.drop 2, 0) = ((numL (l.drop 2) : Int), ([], 0)) := by
    have := getNumL 2 (numL (l.drop 2)) [] (by omega) (by omega)
    rw [List.append_nil, ← a2] at this; exact this
  unfold unrefE
  simp only [g1, g2]
  generalize numL (l.take 2) = a at *
  generalize numL (l.drop 2) = b at *
  by_cases hc : ((a : Int) < 2 ∨ 4000 ≤ (a : Int) ∨ (b : Int) < 0 ∨ 2000 < (b : Int))
  · have hE : refE (a : Int) (b : Int) = ([], 1) := if_pos hc
    rw [hE]; simp
  · rw [refE_ok hc]
    simp only [Int.toNat_natCast]
    rw [← a1, ← a2, ← e]; simp
end Go.Proofs.Ytejmpfmkaiaklaa
