/-
  Entries that Join passes by. No condition of its own.
-/
import Derived.Test.YtdhohaeopfgbmaaOne
namespace Go.Proofs.Ytdhohaeopfgbmaa
open Go Go.RowKit

/-- Is this entry gone, or there? -/
def skipE (idx trm : Int) (es : List Ent) (x : Ent) : Bool := decide (x.index ≤ idx) || decide (termE idx trm es x.index = some x.term)
theorem skipE_cases (idx trm : Int) (es : List Ent) (x : Ent) : (x.index ≤ idx ∧ skipE idx trm es x = true) ∨
    (idx < x.index ∧ skipE idx trm es x = true ∧ termE idx trm es x.index = some x.term) ∨
    (idx < x.index ∧ skipE idx trm es x = false ∧ ∃ (u : Int) (b : Bool) (cut : Int), (b = true ∧ cut = x.index ∧ (u == x.term) = false ∨ b = false ∧ cut = 0) ∧ (termE idx trm es x.index).getD 0 = u ∧ (termE idx trm es x.index).isSome = b ∧ cut = if (termE idx trm es x.index).isSome then x.index else 0) := by
  unfold skipE
  by_cases h : x.index ≤ idx
  · exact .inl ⟨h, by simp [h]⟩
  · right
    cases ht : termE idx trm es x.index with
    | none => exact .inr ⟨by omega, by simp [h], 0, false, 0, .inr ⟨rfl, rfl⟩, rfl, rfl, rfl⟩
    | some u =>
      by_cases hu : u = x.term
      · exact .inl ⟨by omega, by simp [hu], by rw [hu]⟩
      · exact .inr ⟨by omega, by simp [h, hu], u, true, x.index, .inl ⟨rfl, rfl, by simpa using hu⟩, rfl, rfl, rfl⟩
theorem take_flat (es : List Ent) (k : Nat) : (flatE es).take (k * 5) = flatE (es.take k) := by
  induction es generalizing k with
  | nil => simp [flatE]
  | cons e es ih =>
    cases k with
    | zero => simp [flatE]
    | succ k =>
      have h : flatE (e :: es) = e.cells ++ flatE es := rfl
      have h2 : flatE (e :: es.take k) = e.cells ++ flatE (es.take k) := rfl
      have hl : e.cells.length = 5 := rfl
      rw [h, List.take_succ_cons, h2, List.take_append, hl, show (k + 1) * 5 - 5 = k * 5 by omega, ih, List.take_of_length_le (by omega)]
end Go.Proofs.Ytdhohaeopfgbmaa
