/-
  What the document's Number gives of a text. Condition: texts of no more than a thousand bytes.
-/
import Derived.Test.YtkbfcmkocgkdjaaGreatDoorPackNumW
namespace Go.Proofs.YtkbfcmkocgkdjaaGreatDoor
open Go Go.RowKit

theorem dash_cases (s D : ByteArray) (below : Bool) (hb : below = decide ((bts s).head? = some 45)) (hD : D = if below = true then s.extract 1 s.size else s) :
    (∃ h : 0 < s.size, ((s[0].toNat : Int) == 45) = true ∧ s.extract 1 s.size = D ∧ (D.size : Int) < (s.size : Int) ∧ below = true) ∨ (∃ h : 0 < s.size, ((s[0].toNat : Int) == 45) = false ∧ D = s ∧ below = false) ∨ (s.size = 0 ∧ D = s ∧ below = false) := by
  rcases Nat.eq_zero_or_pos s.size with h | h
  · have h0 : (bts s) = [] := List.length_eq_zero_iff.1 (by rw [bts_len]; omega)
    rw [h0] at hb
    have hb' : below = false := by rw [hb]; rfl
    subst hb'
    exact .inr (.inr ⟨h, by simpa using hD, rfl⟩)
  · rw [head_at s h] at hb
    by_cases h45 : s[0].toNat = 45
    · have : s[0] = 45 := UInt8.toNat_inj.1 h45
      have hb' : below = true := by rw [hb, this]; rfl
      rw [hb', if_pos rfl] at hD
      refine .inl ⟨h, by simp; omega, hD.symm, ?_, hb'⟩
      rw [hD, ByteArray.size_extract]; omega
    · have : ¬ s[0] = 45 := fun e => h45 (by rw [e]; rfl)
      have hb' : below = false := by rw [hb]; simp [this]
      rw [hb', if_neg (by simp)] at hD
      exact .inr (.inl ⟨h, by simp; omega, hD, hb'⟩)
theorem zero48 (s : ByteArray) : (s.toList == ([48] : List UInt8)) = decide (bts s = [48]) := by
  have h : (⟨#[48]⟩ : ByteArray).toList = [48] := by rw [Lib.toList_data]
  have h2 := str_beq s ⟨#[48]⟩
  rw [h] at h2
  exact h2
theorem zero_no (s : ByteArray) (h : 0 < s.size) (h2 : s[0].toNat ≠ 48 ∨ s.size ≠ 1) : (s.toList == ([48] : List UInt8)) = false := by
  rw [zero48, decide_eq_false_iff_not]
  intro e
  have h3 := bts_len s
  rw [e] at h3
  have h4 := head_at s h
  rw [e] at h4
  injection h4 with h4
  rcases h2 with h2 | h2
  · exact h2 (by rw [← h4]; rfl)
  · exact h2 h3.symm
theorem zero_yes (s : ByteArray) (h : 0 < s.size) (h1 : s[0].toNat = 48) (h2 : s.size = 1) : (s.toList == ([48] : List UInt8)) = true := by
  rw [zero48, decide_eq_true_iff]
  have h3 := bts_len s
  have h4 := byte_at_ s 0 h
  apply List.ext_getElem?
  intro i
  rcases i with _ | i
  · rw [h4]; exact congrArg some (UInt8.toNat_inj.1 h1)
  · rw [List.getElem?_eq_none (by omega), List.getElem?_eq_none (by simp)]
end Go.Proofs.YtkbfcmkocgkdjaaGreatDoor
