/-
  The law RaftSafe in plain words: what more than half have, and what more than half would grant, meet in one member. No condition of its own.
-/
import Derived.Test.YtmnndekpedacmaaQuorC
import Derived.Test.YtmnndekpedacmaaHistLogs
namespace Go.Proofs.Ytmnndekpedacmaa
open Go Go.RowKit

/-- The first m entries of two logs have the same terms. -/
def Agree (a b : List Ent) (m : Int) : Prop := ∀ j : Nat, (j : Int) < m → ∃ t, (a[j]?).map (·.term) = some t ∧ (b[j]?).map (·.term) = some t
theorem Agree.zero (a b : List Ent) : Agree a b 0 := fun j h => by omega
theorem Agree.step {a b : List Ent} {m : Nat} {t : Int} (h : Agree a b m) (h1 : (a[m]?).map (·.term) = some t) (h2 : (b[m]?).map (·.term) = some t) : Agree a b ((m : Int) + 1) := fun j hj => by
  by_cases e : j = m
  · subst e; exact ⟨t, h1, h2⟩
  · exact h j (by omega)
/-- Terms do not fall, and the last one is the greatest. -/
def UpE (E : List Ent) : Prop := ∀ (j : Nat) t, (E[j]?).map (·.term) = some t → t ≤ lastT 0 E
theorem risenT_ge (t : Int) (xs : List Int) : t ≤ risenT t xs := by
  induction xs generalizing t with
  | nil => exact Int.le_refl _
  | cons x xs ih => exact Int.le_trans (by omega) (ih (max t x))
theorem risenE_up (i t : Int) (xs : List Int) : ∀ (j : Nat) u, ((risenE i t xs)[j]?).map (·.term) = some u → u ≤ risenT t xs := by
  induction xs generalizing i t with
  | nil => intro j u h; simp [risenE] at h
  | cons x xs ih =>
    intro j u h
    cases j with
    | zero =>
      simp [risenE] at h
      subst h
      exact risenT_ge _ _
    | succ j =>
      simp only [risenE, List.getElem?_cons_succ] at h
      exact ih _ _ j u h
theorem risen_upE (xs : List Int) : UpE (risenE 0 0 xs) := fun j t h => by rw [risenE_last]; exact risenE_up 0 0 xs j t h
theorem termE_zero {E : List Ent} {i t : Int} (hi : 0 < i) (h : termE 0 0 E i = some t) : (E[(i - 1).toNat]?).map (·.term) = some t := by
  unfold termE at h
  split at h
  · cases h
  · rw [if_neg (by omega), show i - 0 - 1 = i - 1 by omega] at h
    exact h
theorem zero_termE {E : List Ent} (m : Nat) : termE 0 0 E ((m : Int) + 1) = (E[m]?).map (·.term) := by
  unfold termE
  by_cases h : m < E.length
  · rw [if_neg (by omega), if_neg (by omega), show ((m : Int) + 1 - 0 - 1).toNat = m by omega]
  · rw [if_pos (by omega), List.getElem?_eq_none (by omega)]; rfl
/-- Two tests, each of which more than half pass: one passes both. -/
theorem half_both {α : Type} (l : List α) (p q : α → Bool) (h : l.length < l.countP p + l.countP q) : ∃ x ∈ l, p x = true ∧ q x = true := by
  induction l with
  | nil => simp at h
  | cons x l ih =>
    by_cases hp : p x = true
    · by_cases hq : q x = true
      · exact ⟨x, by simp, hp, hq⟩
      · rw [List.countP_cons_of_pos hp, List.countP_cons_of_neg hq, List.length_cons] at h
        obtain ⟨y, hy, h1, h2⟩ := ih (by omega)
        exact ⟨y, List.mem_cons_of_mem _ hy, h1, h2⟩
    · rw [List.countP_cons_of_neg hp, List.length_cons] at h
      have h' : l.length < l.countP p + l.countP q := by
        by_cases hq : q x = true
        · rw [List.countP_cons_of_pos hq] at h; omega
        · rw [List.countP_cons_of_neg hq] at h; omega
      obtain ⟨y, hy, h1, h2⟩ := ih h'
      exact ⟨y, List.mem_cons_of_mem _ hy, h1, h2⟩

/-- The law. -/
theorem safe_law (mem ms : List Int) (E : Nat → List Ent) (ld i : Nat) (term c : Int) (would : List Int) (hc : c = commV mem ms 0 0 (E ld) term 0) (hpos : 0 < c)
    (hms : ∀ k x, ms[k]? = some x → Agree (E ld) (E k) x) (hup : ∀ j, UpE (E j))
    (hw : ∀ x ∈ would, ∃ j : Nat, x = (j : Int) ∧ newerB 0 0 (E j) (0 + ((E i).length : Int)) (lastT 0 (E i)) = true) (hq : quorV mem would = true) (hl : lastT 0 (E i) ≤ term) : c ≤ 0 + ((E i).length : Int) := by
  unfold commV at hc
  split at hc
  · rename_i h
    obtain ⟨h0, hterm⟩ := h
    rw [← hc] at hterm
    have hr : rightV mem = true := by
      cases hr : rightV mem with
      | true => rfl
      | false => unfold idxV at hc; rw [hr] at hc; simp at hc; omega
    have hp := rightV_pos hr
    unfold idxV at hc
    rw [if_pos hr] at hc
    have hm := mid_most (H := mem.map (numAt ms)) (by simpa using hp)
    rw [← hc] at hm
    unfold most cntGe at hm
    rw [List.length_map, List.countP_map] at hm
    unfold quorV at hq
    rw [hr] at hq
    simp only [Bool.true_and, decide_eq_true_eq] at hq
    obtain ⟨x, _, h1, h2⟩ := half_both mem ((fun x => decide (c ≤ x)) ∘ numAt ms) (fun x => decide (x ∈ would)) (by omega)
    simp only [Function.comp, decide_eq_true_eq] at h1 h2
    obtain ⟨j, rfl, hn⟩ := hw x h2
    have hj : j < ms.length := by
      by_cases hj : j < ms.length
      · exact hj
      · rw [numAt_out (.inr (by omega))] at h1; omega
    have hx : ms[j]? = some ms[j] := List.getElem?_eq_getElem hj
    rw [numAt_in rfl hj hx] at h1
    obtain ⟨t, ht1, ht2⟩ := hms j _ hx (c - 1).toNat (by omega)
    have ht3 := termE_zero hpos hterm
    rw [ht1] at ht3
    obtain rfl : t = term := Option.some.inj ht3
    have hu := hup j _ _ ht2
    have hlen : (c - 1).toNat < (E j).length := by
      cases hg : (E j)[(c - 1).toNat]? with
      | none => rw [hg] at ht2; cases ht2
      | some e => exact (List.getElem?_eq_some_iff.1 hg).1
    unfold newerB at hn
    simp only [Bool.or_eq_true, decide_eq_true_eq, Bool.and_eq_true, beq_iff_eq] at hn
    omega
  · omega
end Go.Proofs.Ytmnndekpedacmaa
