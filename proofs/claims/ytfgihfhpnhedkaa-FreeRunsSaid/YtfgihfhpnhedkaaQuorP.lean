/-
  Plain facts on members: what stands in the middle of a sorted list is the greatest number that more than half have. No program in them.
-/
import Derived.Test.YtfgihfhpnhedkaaRowsInts
namespace Go.Proofs.Ytfgihfhpnhedkaa
open Go Go.RowKit

/-- What an id has. -/
def numAt (at_ : List Int) (id : Int) : Int := if 0 ≤ id ∧ id < at_.length then at_.getD id.toNat 0 else 0
/-- Is the i-th member as it may be? -/
def okAt (l : List Int) (i : Nat) : Bool := decide (0 ≤ l.getD i 0) && decide (l.getD i 0 < 7) && (decide (i = 0) || decide (l.getD (i - 1) 0 < l.getD i 0))
/-- May members be so? -/
def rightV (l : List Int) : Bool := decide (0 < l.length) && (List.range l.length).all (okAt l)
theorem rightV_bad {l : List Int} {i : Nat} (hi : i < l.length) (h : okAt l i = false) : rightV l = false := by
  unfold rightV
  rw [Bool.and_eq_false_iff]
  right
  rw [List.all_eq_false]
  exact ⟨i, List.mem_range.2 hi, by rw [h]; simp⟩
theorem rightV_all {l : List Int} (h : ∀ i, i < l.length → okAt l i = true) : rightV l = decide (0 < l.length) := by
  unfold rightV
  rw [show (List.range l.length).all (okAt l) = true from List.all_eq_true.2 fun i hi => h i (List.mem_range.1 hi), Bool.and_true]
theorem rightV_at {l : List Int} (h : rightV l = true) {i : Nat} {x : Int} (hx : l[i]? = some x) : 0 ≤ x ∧ x < 7 := by
  unfold rightV at h
  rw [Bool.and_eq_true] at h
  have h2 := List.all_eq_true.1 h.2 i (List.mem_range.2 (List.getElem?_eq_some_iff.1 hx).1)
  unfold okAt at h2
  rw [show l.getD i 0 = x by rw [List.getD_eq_getElem?_getD, hx]; rfl] at h2
  simp at h2
  exact ⟨h2.1.1, h2.1.2⟩
theorem rightV_pos {l : List Int} (h : rightV l = true) : 0 < l.length := by
  unfold rightV at h
  rw [Bool.and_eq_true] at h
  simpa using h.1
/-- How many have at least v. -/
def cntGe (H : List Int) (v : Int) : Nat := H.countP fun x => decide (v ≤ x)
/-- More than half have at least v. -/
def most (H : List Int) (v : Int) : Prop := H.length < 2 * cntGe H v
instance (H : List Int) (v : Int) : Decidable (most H v) := by unfold most; infer_instance
def sortZ (H : List Int) : List Int := H.mergeSort fun x y => decide (x ≤ y)
theorem sortZ_perm (H : List Int) : (sortZ H).Perm H := List.mergeSort_perm H _
theorem sortZ_len (H : List Int) : (sortZ H).length = H.length := (sortZ_perm H).length_eq
theorem sortZ_up (H : List Int) : (sortZ H).Pairwise (· ≤ ·) := by
  have := List.pairwise_mergeSort (le := fun x y : Int => decide (x ≤ y)) (fun a b c h1 h2 => by simp at *; omega) (fun a b => by simp; omega) H
  exact this.imp fun h => by simpa using h
theorem sortZ_cnt (H : List Int) (v : Int) : cntGe (sortZ H) v = cntGe H v := (sortZ_perm H).countP_eq _
/-- The one in the middle. -/
def midZ (H : List Int) : Int := (sortZ H).getD ((H.length - 1) / 2) 0
theorem cnt_drop {S : List Int} (h : S.Pairwise (· ≤ ·)) (k : Nat) (v : Int) (hk : S[k]? = some v) : S.length - k ≤ cntGe S v := by
  have hd : ∀ x ∈ S.drop k, v ≤ x := fun x hx => by
    obtain ⟨j, hj⟩ := List.getElem?_of_mem hx
    rw [List.getElem?_drop] at hj
    rcases Nat.eq_zero_or_pos j with h0 | h0
    · subst h0; rw [Nat.add_zero, hk] at hj; injection hj with hj; omega
    · have hk' := List.getElem?_eq_some_iff.1 hk
      have hj' := List.getElem?_eq_some_iff.1 hj
      obtain ⟨a1, a2⟩ := hk'
      obtain ⟨b1, b2⟩ := hj'
      have := List.pairwise_iff_getElem.1 h k (k + j) a1 b1 (by omega)
      rw [a2, b2] at this; exact this
  have h1 : cntGe S v = cntGe (S.take k) v + cntGe (S.drop k) v := by
    unfold cntGe
    rw [← List.countP_append, List.take_append_drop]
  have h2 : cntGe (S.drop k) v = (S.drop k).length := by
    unfold cntGe
    rw [List.countP_eq_length]
    intro x hx; simpa using hd x hx
  rw [h1, h2, List.length_drop]; omega
theorem cnt_take {S : List Int} (h : S.Pairwise (· ≤ ·)) (k : Nat) (u v : Int) (hk : S[k]? = some u) (huv : u < v) : cntGe S v ≤ S.length - (k + 1) := by
  have hd : ∀ x ∈ S.take (k + 1), ¬ v ≤ x := fun x hx => by
    obtain ⟨j, hj⟩ := List.getElem?_of_mem hx
    have hjk : j < k + 1 := by
      have := (List.getElem?_eq_some_iff.1 hj).1
      rw [List.length_take] at this; omega
    rw [List.getElem?_take_of_lt hjk] at hj
    obtain ⟨a1, a2⟩ := List.getElem?_eq_some_iff.1 hk
    obtain ⟨b1, b2⟩ := List.getElem?_eq_some_iff.1 hj
    rcases Nat.lt_or_ge j k with h0 | h0
    · have := List.pairwise_iff_getElem.1 h j k b1 a1 h0
      rw [a2, b2] at this; omega
    · have : j = k := by omega
      subst this
      rw [a2] at b2; omega
  have h1 : cntGe S v = cntGe (S.take (k + 1)) v + cntGe (S.drop (k + 1)) v := by
    unfold cntGe
    rw [← List.countP_append, List.take_append_drop]
  have h2 : cntGe (S.take (k + 1)) v = 0 := by
    unfold cntGe
    rw [List.countP_eq_zero]
    intro x hx; simpa using hd x hx
  have h3 : cntGe (S.drop (k + 1)) v ≤ (S.drop (k + 1)).length := List.countP_le_length
  rw [List.length_drop] at h3
  rw [h1, h2]; omega
theorem mid_at {H : List Int} (hn : 0 < H.length) : (sortZ H)[(H.length - 1) / 2]? = some (midZ H) := by
  have : (H.length - 1) / 2 < (sortZ H).length := by rw [sortZ_len]; omega
  unfold midZ
  rw [List.getD_eq_getElem?_getD, List.getElem?_eq_getElem this]; rfl
theorem mid_most {H : List Int} (hn : 0 < H.length) : most H (midZ H) := by
  have := cnt_drop (sortZ_up H) _ _ (mid_at hn)
  rw [sortZ_cnt, sortZ_len] at this
  unfold most; omega
theorem mid_top {H : List Int} (hn : 0 < H.length) {v : Int} (hv : midZ H < v) : ¬ most H v := by
  have := cnt_take (sortZ_up H) _ _ v (mid_at hn) hv
  rw [sortZ_cnt, sortZ_len] at this
  unfold most; omega
theorem mid_mem {H : List Int} (hn : 0 < H.length) : midZ H ∈ H := (sortZ_perm H).mem_iff.1 (List.mem_of_getElem? (mid_at hn))
/-- The document's walk: the best of the first k, and whether there is one. -/
def bestK (H : List Int) : Nat → Int × Bool
  | 0 => (0, false)
  | k + 1 => if most H (H.getD k 0) ∧ ((bestK H k).2 = false ∨ (bestK H k).1 < H.getD k 0) then (H.getD k 0, true) else bestK H k
theorem bestK_inv (H : List Int) (k : Nat) (hk : k ≤ H.length) : ((bestK H k).2 = false → ∀ i, i < k → ¬ most H (H.getD i 0)) ∧ ((bestK H k).2 = true → most H (bestK H k).1 ∧ ∀ i, i < k → most H (H.getD i 0) → H.getD i 0 ≤ (bestK H k).1) := by
  induction k with
  | zero => exact ⟨fun _ i hi => by omega, fun h => by simp [bestK] at h⟩
  | succ k ih =>
    obtain ⟨h1, h2⟩ := ih (by omega)
    simp only [bestK]
    by_cases hc : most H (H.getD k 0) ∧ ((bestK H k).2 = false ∨ (bestK H k).1 < H.getD k 0)
    · rw [if_pos hc]
      refine ⟨fun h => by simp at h, fun _ => ⟨hc.1, fun i hi hm => ?_⟩⟩
      rcases Nat.lt_or_ge i k with h0 | h0
      · rcases hc.2 with h3 | h3
        · exact absurd hm (h1 h3 i h0)
        · cases hb : (bestK H k).2
          · exact absurd hm (h1 hb i h0)
          · have := (h2 hb).2 i h0 hm
            show H.getD i 0 ≤ H.getD k 0
            omega
      · have : i = k := by omega
        subst this; exact Int.le_refl _
    · rw [if_neg hc]
      refine ⟨fun h i hi => ?_, fun h => ⟨(h2 h).1, fun i hi hm => ?_⟩⟩
      · rcases Nat.lt_or_ge i k with h0 | h0
        · exact h1 h i h0
        · have : i = k := by omega
          subst this
          exact fun hm => hc ⟨hm, .inl h⟩
      · rcases Nat.lt_or_ge i k with h0 | h0
        · exact (h2 h).2 i h0 hm
        · have : i = k := by omega
          subst this
          rcases Int.lt_or_le (bestK H i).1 (H.getD i 0) with h3 | h3
          · exact absurd ⟨hm, .inr h3⟩ hc
          · exact h3
theorem best_mid {H : List Int} (hn : 0 < H.length) : (bestK H H.length).1 = midZ H := by
  obtain ⟨h1, h2⟩ := bestK_inv H H.length (Nat.le_refl _)
  obtain ⟨i, hi⟩ := List.getElem?_of_mem (mid_mem hn)
  have hil := (List.getElem?_eq_some_iff.1 hi).1
  have hid : H.getD i 0 = midZ H := by rw [List.getD_eq_getElem?_getD, hi]; rfl
  have hm : most H (H.getD i 0) := by rw [hid]; exact mid_most hn
  cases hb : (bestK H H.length).2
  · exact absurd hm (h1 hb i hil)
  · obtain ⟨h3, h4⟩ := h2 hb
    have h5 := h4 i hil hm
    rw [hid] at h5
    rcases Int.lt_or_le (midZ H) (bestK H H.length).1 with h6 | h6
    · exact absurd h3 (mid_top hn h6)
    · omega
end Go.Proofs.Ytfgihfhpnhedkaa
