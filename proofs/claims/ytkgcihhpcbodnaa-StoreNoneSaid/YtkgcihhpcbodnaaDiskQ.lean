/-
  A disk's Rename, walked. Conditions: it is a disk, each write's file is there; armed for a number; not too many writes.
-/
import Derived.Test.YtkgcihhpcbodnaaDiskK
namespace Go.Proofs.Ytkgcihhpcbodnaa
open Go Go.RowKit
attribute [local go_sem] cell_set_if

theorem mayN_two {d : Ds} {a b : ByteArray} (h : mayN d [a, b] = 0) : d.off = false ∧ nameOk a = true ∧ nameOk b = true := by
  unfold mayN at h
  cases ho : d.off
  · rw [ho] at h
    simp only [Bool.false_eq_true, if_false] at h
    by_cases hn : ([a, b].all nameOk) = true
    · simpa using hn
    · rw [if_neg hn] at h; omega
  · rw [ho] at h; simp at h
theorem nameOk_size {s : ByteArray} (h : nameOk s = true) : 1 ≤ s.size ∧ s.size ≤ 40 := by
  unfold nameOk at h
  rw [Bool.and_eq_true, decide_eq_true_eq, decide_eq_true_eq] at h; exact h
theorem renameD_may {d : Ds} {a b : ByteArray} (h : mayN d [a, b] ≠ 0) : renameD d a b = (mayN d [a, b], d) := by
  unfold renameD mayN at *
  cases ho : d.off
  · rw [ho] at h
    simp only [Bool.false_eq_true, if_false] at h ⊢
    by_cases hn : ([a, b].all nameOk) = true
    · rw [if_pos hn] at h; exact absurd rfl h
    · rw [if_neg hn, if_pos (by
        simp only [List.all_cons, List.all_nil, Bool.and_true, Bool.and_eq_true, not_and] at hn
        by_cases ha : nameOk a = true
        · exact .inr (by simpa using hn ha)
        · exact .inl (by simpa using ha))]
  · rfl
theorem renameD_ok {d : Ds} {a b : ByteArray} (h : mayN d [a, b] = 0) : renameD d a b = match d.find a with
    | none => (8, d)
    | some f => if (goesD d).1 then fallD (goesD d).2 else if a = b then (0, (goesD d).2) else (0, renD (goesD d).2 f b) := by
  obtain ⟨h1, h2, h3⟩ := mayN_two h
  unfold renameD
  rw [h1, h2, h3, if_neg (by decide), if_neg (by decide)]
  have hfd : (goesD d).2.find b = d.find b := by unfold Ds.find; rw [goes_fs]
  cases d.find a with
  | none => rfl
  | some f =>
    simp only
    split
    · rfl
    · split
      · rfl
      · unfold renD; rw [hfd]; rfl
end Go.Proofs.Ytkgcihhpcbodnaa
