/-
  Plain facts about items cut into parts, each with as many as fit. No program in them.
-/
import Derived.Test.YtldkhhipfoeckaaItemP
namespace Go.Proofs.Ytldkhhipfoeckaa
open Go Go.RowKit

/-- How many items fit, if b bytes are there already. -/
def fitN : Nat → List Im → Nat
  | _, [] => 0
  | b, x :: xs => if b + (5 + x.key.size + x.val.size) ≤ 232 then 1 + fitN (b + (5 + x.key.size + x.val.size)) xs else 0
theorem fitN_le (b : Nat) (l : List Im) : fitN b l ≤ l.length := by
  induction l generalizing b with
  | nil => exact Nat.le_refl _
  | cons x xs ih =>
    unfold fitN
    have := ih (b + (5 + x.key.size + x.val.size))
    split
    · rw [List.length_cons]; omega
    · exact Nat.zero_le _
theorem sumI_cons (x : Im) (xs : List Im) : sumI (x :: xs) = (5 + x.key.size + x.val.size) + sumI xs := by simp [sumI]
theorem sumI_nil : sumI [] = 0 := rfl
theorem sumI_app (a b : List Im) : sumI (a ++ b) = sumI a + sumI b := by
  induction a with
  | nil => simp [sumI_nil]
  | cons x a ih => rw [List.cons_append, sumI_cons, sumI_cons, ih]; omega
/-- What fits fits, and the next one does not. -/
theorem fitN_fits (b : Nat) (l : List Im) (h : b ≤ 232) : b + sumI (l.take (fitN b l)) ≤ 232 ∧ ∀ x, l[fitN b l]? = some x → 232 < b + sumI (l.take (fitN b l)) + (5 + x.key.size + x.val.size) := by
  induction l generalizing b with
  | nil => exact ⟨by simpa [sumI_nil] using h, fun x hx => by simp at hx⟩
  | cons y ys ih =>
    unfold fitN
    split
    · rename_i hc
      obtain ⟨h1, h2⟩ := ih (b + (5 + y.key.size + y.val.size)) hc
      rw [Nat.add_comm 1, List.take_succ_cons, sumI_cons]
      refine ⟨by omega, fun x hx => ?_⟩
      rw [List.getElem?_cons_succ] at hx
      have := h2 x hx
      omega
    · rename_i hc
      refine ⟨by simpa [sumI_nil] using h, fun x hx => ?_⟩
      rw [List.getElem?_cons_zero] at hx
      injection hx with hx; subst hx
      rw [List.take_zero, sumI_nil]; omega
theorem sumI_mono (l : List Im) {i j : Nat} (h : i ≤ j) : sumI (l.take i) ≤ sumI (l.take j) := by
  have := sumI_le (l.take j) i
  rwa [List.take_take, Nat.min_eq_left h] at this
theorem fitN_is (l : List Im) (k : Nat) (h1 : k ≤ l.length) (h2 : 1 + sumI (l.take k) ≤ 232) (h3 : k = l.length ∨ 232 < 1 + sumI (l.take (k + 1))) : fitN 1 l = k := by
  obtain ⟨a1, a2⟩ := fitN_fits 1 l (by omega)
  have hl := fitN_le 1 l
  by_cases hc : fitN 1 l < k
  · have e : l[fitN 1 l]? = some (l[fitN 1 l]'(by omega)) := List.getElem?_eq_getElem _
    have h4 := a2 _ e
    have h5 := sumI_take l (fitN 1 l) _ e
    have h6 := sumI_mono l (show fitN 1 l + 1 ≤ k by omega)
    omega
  · by_cases hd : k < fitN 1 l
    · rcases h3 with h3 | h3
      · omega
      · have h6 := sumI_mono l (show k + 1 ≤ fitN 1 l by omega)
        omega
    · omega
def cutF : Nat → List Im → List (List Im)
  | 0, _ => []
  | _ + 1, [] => []
  | f + 1, x :: xs => (x :: xs).take (fitN 1 (x :: xs)) :: cutF f ((x :: xs).drop (fitN 1 (x :: xs)))
/-- Items cut into parts. -/
def cutS (l : List Im) : List (List Im) := cutF l.length l
/-- Each item fits into a page by itself. -/
def Small (l : List Im) : Prop := ∀ (i : Nat) x, l[i]? = some x → 5 + x.key.size + x.val.size ≤ 231
theorem Small.drop {l : List Im} (h : Small l) (k : Nat) : Small (l.drop k) := fun i x hx => h (k + i) x (by rwa [List.getElem?_drop] at hx)
theorem Small.right {l : List Im} (h : RightI l) : Small l := fun i x hx => by
  have := h.ok i x hx
  unfold okI at this; simp at this; omega
theorem fitN_pos {l : List Im} (h : Small l) (hne : l ≠ []) : 1 ≤ fitN 1 l := by
  cases l with
  | nil => exact absurd rfl hne
  | cons x xs =>
    have := h 0 x rfl
    unfold fitN
    rw [if_pos (by omega)]; omega
theorem cutF_nil (f : Nat) : cutF f [] = [] := by cases f <;> rfl
theorem cutF_any (f g : Nat) (l : List Im) (h : Small l) (hf : l.length ≤ f) (hg : l.length ≤ g) : cutF f l = cutF g l := by
  induction f generalizing l g with
  | zero =>
    have : l = [] := List.length_eq_zero_iff.1 (by omega)
    subst this; rw [cutF_nil, cutF_nil]
  | succ f ih =>
    cases l with
    | nil => rw [cutF_nil, cutF_nil]
    | cons x xs =>
      have hp := fitN_pos h (by simp)
      rw [List.length_cons] at hf hg
      obtain ⟨g, rfl⟩ : ∃ g', g = g' + 1 := ⟨g - 1, by omega⟩
      show _ :: cutF f _ = _ :: cutF g _
      rw [ih g _ (h.drop _) (by rw [List.length_drop, List.length_cons]; omega) (by rw [List.length_drop, List.length_cons]; omega)]
theorem cutF_fuel (f : Nat) (l : List Im) (h : Small l) (hf : l.length ≤ f) : cutF f l = cutF l.length l := cutF_any f l.length l h hf (Nat.le_refl _)
theorem cutS_nil : cutS [] = [] := rfl
theorem cutS_ne {l : List Im} (h : Small l) (hne : l ≠ []) : cutS l = l.take (fitN 1 l) :: cutS (l.drop (fitN 1 l)) := by
  cases l with
  | nil => exact absurd rfl hne
  | cons x xs =>
    have hp := fitN_pos h hne
    unfold cutS
    show _ :: cutF xs.length _ = _
    rw [cutF_fuel xs.length _ (h.drop _) (by rw [List.length_drop, List.length_cons]; omega)]
/-- What is so of the parts. -/
theorem cutS_flat (l : List Im) (h : Small l) : (cutS l).flatten = l := by
  obtain ⟨n, hn⟩ : ∃ n, n = l.length := ⟨_, rfl⟩
  induction n using Nat.strongRecOn generalizing l with
  | _ n ih =>
    by_cases hne : l = []
    · subst hne; rfl
    · have hp := fitN_pos h hne
      have hl : 0 < l.length := List.length_pos_iff.2 hne
      rw [cutS_ne h hne, List.flatten_cons, ih _ (by rw [hn, List.length_drop]; omega) _ (h.drop _) rfl, List.take_append_drop]
theorem cutS_parts (l : List Im) (h : Small l) (i : Nat) (p : List Im) (hi : (cutS l)[i]? = some p) : p ≠ [] ∧ 1 + sumI p ≤ 232 ∧ ∀ q x, (cutS l)[i + 1]? = some q → q[0]? = some x → 232 < 1 + sumI p + (5 + x.key.size + x.val.size) := by
  obtain ⟨n, hn⟩ : ∃ n, n = l.length := ⟨_, rfl⟩
  induction n using Nat.strongRecOn generalizing l i with
  | _ n ih =>
    by_cases hne : l = []
    · subst hne; simp [cutS_nil] at hi
    · have hp := fitN_pos h hne
      have hl : 0 < l.length := List.length_pos_iff.2 hne
      have hf := fitN_fits 1 l (by omega)
      rw [cutS_ne h hne] at hi ⊢
      cases i with
      | zero =>
        rw [List.getElem?_cons_zero] at hi
        injection hi with hi; subst hi
        refine ⟨fun e => ?_, hf.1, fun q x hq hx => ?_⟩
        · have := congrArg List.length e
          rw [List.length_take] at this
          have h2 := fitN_le 1 l
          simp only [List.length_nil] at this
          omega
        · rw [List.getElem?_cons_succ] at hq
          have hne2 : l.drop (fitN 1 l) ≠ [] := fun e => by rw [e, cutS_nil] at hq; simp at hq
          rw [cutS_ne (h.drop _) hne2, List.getElem?_cons_zero] at hq
          injection hq with hq; subst hq
          have hp2 := fitN_pos (h.drop (fitN 1 l)) hne2
          rw [List.getElem?_take, if_pos (by omega), List.getElem?_drop] at hx
          exact hf.2 x hx
      | succ i =>
        rw [List.getElem?_cons_succ] at hi
        obtain ⟨h1, h2, h3⟩ := ih _ (by rw [hn, List.length_drop]; omega) _ (h.drop _) i hi rfl
        exact ⟨h1, h2, fun q x hq hx => h3 q x (by rwa [List.getElem?_cons_succ] at hq) hx⟩
theorem cutS_few (l : List Im) (h : Small l) : (cutS l).length ≤ 1 ↔ 1 + sumI l ≤ 232 ∨ l = [] := by
  by_cases hne : l = []
  · subst hne; simp [cutS_nil]
  · have hp := fitN_pos h hne
    have hf := fitN_fits 1 l (by omega)
    have hle := fitN_le 1 l
    rw [cutS_ne h hne, List.length_cons]
    by_cases hd : l.drop (fitN 1 l) = []
    · have : l.length ≤ fitN 1 l := by have := congrArg List.length hd; rw [List.length_drop, List.length_nil] at this; omega
      have e : l.take (fitN 1 l) = l := List.take_of_length_le this
      rw [hd, cutS_nil]
      rw [e] at hf
      simp [hf.1]
    · rw [cutS_ne (h.drop _) hd, List.length_cons]
      have hl : fitN 1 l < l.length := by
        rcases Nat.lt_or_ge (fitN 1 l) l.length with h | h
        · exact h
        · exact absurd (List.drop_eq_nil_of_le h) hd
      have e : l[fitN 1 l]? = some l[fitN 1 l] := List.getElem?_eq_getElem hl
      have h4 := hf.2 _ e
      have h5 := sumI_take l _ _ e
      have h6 := sumI_le l (fitN 1 l + 1)
      constructor
      · intro h; omega
      · rintro (h | h)
        · omega
        · exact absurd h hne
theorem RightI.take {l : List Im} (h : RightI l) (k : Nat) : RightI (l.take k) := by
  refine ⟨fun i x hx => ?_, fun i x y hx hy => ?_⟩
  · rw [List.getElem?_take] at hx
    split at hx
    · exact h.ok i x hx
    · cases hx
  · rw [List.getElem?_take] at hx hy
    split at hx
    · split at hy
      · exact h.up i x y hx hy
      · cases hy
    · cases hx
theorem RightI.drop {l : List Im} (h : RightI l) (k : Nat) : RightI (l.drop k) :=
  ⟨fun i x hx => h.ok (k + i) x (by rwa [List.getElem?_drop] at hx), fun i x y hx hy => h.up (k + i) x y (by rwa [List.getElem?_drop] at hx) (by rwa [List.getElem?_drop] at hy)⟩
theorem cutS_right (l : List Im) (h : RightI l) (i : Nat) (p : List Im) (hi : (cutS l)[i]? = some p) : RightI p := by
  obtain ⟨n, hn⟩ : ∃ n, n = l.length := ⟨_, rfl⟩
  induction n using Nat.strongRecOn generalizing l i with
  | _ n ih =>
    by_cases hne : l = []
    · subst hne; simp [cutS_nil] at hi
    · have hs := Small.right h
      have hp := fitN_pos hs hne
      have hl : 0 < l.length := List.length_pos_iff.2 hne
      rw [cutS_ne hs hne] at hi
      cases i with
      | zero =>
        rw [List.getElem?_cons_zero] at hi
        injection hi with hi; subst hi
        exact h.take _
      | succ i =>
        rw [List.getElem?_cons_succ] at hi
        exact ih _ (by rw [hn, List.length_drop]; omega) _ (h.drop _) i hi rfl
/-- Two parts that stand together are more than a page. -/
theorem cutS_count (l : List Im) (h : Small l) : (cutS l).length * 116 ≤ sumI l + 116 := by
  obtain ⟨n, hn⟩ : ∃ n, n = l.length := ⟨_, rfl⟩
  induction n using Nat.strongRecOn generalizing l with
  | _ n ih =>
    by_cases hne : l = []
    · subst hne; simp [cutS_nil]
    · have hp := fitN_pos h hne
      have hf := fitN_fits 1 l (by omega)
      have hl : 0 < l.length := List.length_pos_iff.2 hne
      have e1 := sumI_app (l.take (fitN 1 l)) (l.drop (fitN 1 l))
      rw [List.take_append_drop] at e1
      rw [cutS_ne h hne, List.length_cons]
      by_cases hd : l.drop (fitN 1 l) = []
      · rw [hd, cutS_nil, List.length_nil]; omega
      · have h2 := h.drop (fitN 1 l)
        have hp2 := fitN_pos h2 hd
        have hlt : fitN 1 l < l.length := by
          rcases Nat.lt_or_ge (fitN 1 l) l.length with h | h
          · exact h
          · exact absurd (List.drop_eq_nil_of_le h) hd
        have e2 := sumI_app ((l.drop (fitN 1 l)).take (fitN 1 (l.drop (fitN 1 l)))) ((l.drop (fitN 1 l)).drop (fitN 1 (l.drop (fitN 1 l))))
        rw [List.take_append_drop] at e2
        have e3 := hf.2 _ (List.getElem?_eq_getElem hlt)
        have e4 : (l.drop (fitN 1 l))[0]? = some l[fitN 1 l] := by rw [List.getElem?_drop, Nat.add_zero]; exact List.getElem?_eq_getElem hlt
        have e5 := sumI_take (l.drop (fitN 1 l)) 0 _ e4
        rw [List.take_zero, sumI_nil, Nat.zero_add] at e5
        have e6 := sumI_mono (l.drop (fitN 1 l)) hp2
        rw [cutS_ne h2 hd, List.length_cons]
        have hn2 : ((l.drop (fitN 1 l)).drop (fitN 1 (l.drop (fitN 1 l)))).length < n := by rw [List.length_drop, List.length_drop]; omega
        have hi := ih _ hn2 _ (h2.drop _) rfl
        omega
end Go.Proofs.Ytldkhhipfoeckaa
