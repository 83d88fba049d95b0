/-
  Plain facts about rows of records, and about the order of texts. No program in them.
-/
import Derived.Test.YtgigkekajdgngaaBase
import Derived.Sort.Walk0
namespace Go.Proofs.Ytgigkekajdgngaa
open Go Go.RowKit

section
variable {α : Type} (cells : α → List Value) {sz : Nat}
theorem flat_len (hk : ∀ x, (cells x).length = sz) (xs : List α) : (xs.flatMap cells).length = xs.length * sz := by
  induction xs with
  | nil => simp
  | cons x xs ih => rw [List.flatMap_cons, List.length_append, hk, ih, List.length_cons, Nat.add_mul]; omega
theorem flat_at (hk : ∀ x, (cells x).length = sz) (xs : List α) (k : Nat) (x : α) (h : xs[k]? = some x) (j : Nat) (v : Value) (hv : (cells x)[j]? = some v) : (xs.flatMap cells)[k * sz + j]? = some v := by
  induction xs generalizing k with
  | nil => simp at h
  | cons d xs ih =>
    rw [List.flatMap_cons]
    cases k with
    | zero =>
      simp at h; subst h
      have hj : j < (cells d).length := (List.getElem?_eq_some_iff.1 hv).1
      rw [Nat.zero_mul, Nat.zero_add, List.getElem?_append_left hj]; exact hv
    | succ k =>
      simp at h
      rw [List.getElem?_append_right (by rw [hk, Nat.add_mul]; omega), hk, show (k + 1) * sz + j - sz = k * sz + j by rw [Nat.add_mul]; omega]
      exact ih k h
theorem flat_snoc (xs : List α) (x : α) : (xs ++ [x]).flatMap cells = xs.flatMap cells ++ cells x := by simp
theorem flat_one (hk : ∀ x, ∀ u ∈ cells x, u.oneCell' = true) (xs : List α) : ∀ u ∈ xs.flatMap cells, u.oneCell' = true := by
  intro u hu
  obtain ⟨x, _, h⟩ := List.mem_flatMap.1 hu
  exact hk x u h
end
/-- A text below another one. -/
def ltB (a b : ByteArray) : Bool := decide (bts a < bts b)
theorem less_eq (a b : ByteArray) : Op.bytesLess a.toList b.toList = ltB a b := by
  rw [bytesLess_eq, ByteArray.toList_eq, ByteArray.toList_eq]; rfl
theorem ltB_irrefl (a : ByteArray) : ltB a a = false := by unfold ltB; simp [List.lt_irrefl]
theorem ltB_trans {a b c : ByteArray} (h : ltB a b = true) (k : ltB b c = true) : ltB a c = true := by
  unfold ltB at *
  simp only [decide_eq_true_eq] at *
  exact List.lt_trans h k
theorem ltB_tri (a b : ByteArray) (h : ltB a b = false) (k : ltB b a = false) : a = b := by
  unfold ltB at *
  simp only [decide_eq_false_iff_not, List.not_lt] at *
  exact bts_inj (List.le_antisymm k h)
theorem leq_eq (a b : ByteArray) : (Op.bytesLess a.toList b.toList || a.toList == b.toList) = !ltB b a := by
  rw [less_eq, str_beq]
  cases h : ltB a b
  · cases k : ltB b a
    · simp [ltB_tri a b h k]
    · have : bts a ≠ bts b := fun e => by have := bts_inj e; subst this; rw [ltB_irrefl] at k; cases k
      simp [this]
  · cases k : ltB b a
    · rfl
    · have := ltB_trans h k; rw [ltB_irrefl] at this; cases this
theorem geq_eq (a b : ByteArray) : (!Op.bytesLess a.toList b.toList) = !ltB a b := by rw [less_eq]
theorem gtr_eq (a b : ByteArray) : (!(Op.bytesLess a.toList b.toList || a.toList == b.toList)) = ltB b a := by rw [leq_eq]; simp
/-- A text with a zero behind it is the next one. -/
theorem ltB_zero (a : ByteArray) : ltB a (a ++ ⟨#[0]⟩) = true := by
  unfold ltB
  rw [bts_append, decide_eq_true_eq]
  generalize bts a = l
  induction l with
  | nil => show ([] : List UInt8) < [0]; exact List.nil_lt_cons _ _
  | cons x l ih => rw [List.cons_append]; exact List.cons_lt_cons_iff.2 (.inr ⟨rfl, ih⟩)
end Go.Proofs.Ytgigkekajdgngaa
