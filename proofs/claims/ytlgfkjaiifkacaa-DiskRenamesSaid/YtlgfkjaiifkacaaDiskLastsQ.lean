/-
  DiskLasts in plain words: what a crash leaves of a file that was written sector by sector. No condition of its own.
-/
import Derived.Test.YtlgfkjaiifkacaaDiskLastsP
namespace Go.Proofs.Ytlgfkjaiifkacaa
open Go Go.RowKit

/-- What is safe once the first n writes are done as far as they are kept. -/
def safeN (X : List ByteArray) (sa : Nat) (keep : List Int) : Nat → List ByteArray
  | 0 => X.take sa
  | n + 1 => if 0 < keptD keep n then redoL (safeN X sa keep n) (sa + n) (X.getD (sa + n) ByteArray.empty) (keptD keep n) else safeN X sa keep n
/-- Is anything kept? -/
def anyN (sa : Nat) (keep : List Int) : Nat → Bool
  | 0 => decide (0 < sa)
  | n + 1 => anyN sa keep n || decide (0 < keptD keep n)
theorem safeN_next (X : List ByteArray) (sa : Nat) (keep : List Int) (n : Nat) : safeN X sa keep (n + 1) = if 0 < keptD keep n then redoL (safeN X sa keep n) (sa + n) (X.getD (sa + n) ByteArray.empty) (keptD keep n) else safeN X sa keep n := rfl
theorem anyN_next (sa : Nat) (keep : List Int) (n : Nat) : anyN sa keep (n + 1) = (anyN sa keep n || decide (0 < keptD keep n)) := rfl
theorem wrs_at (X : List ByteArray) {sa i n : Nat} (h : n < i - sa) : (wrs X sa i)[n]? = some ⟨0, sa + n, X.getD (sa + n) ByteArray.empty⟩ := by
  unfold wrs
  rw [List.getElem?_map, List.getElem?_range' h]
  simp
theorem redoN_one {nm : ByteArray} {X : List ByteArray} {sa i : Nat} (h0 : 0 < i) (keep : List Int) (n : Nat) (hn : n ≤ i - sa) :
    redoN keep (oneD nm X sa i).fs (wrs X sa i) n = [(nm, ⟨0, X.take i, safeN X sa keep n, anyN sa keep n⟩)] := by
  induction n with
  | zero => exact if_neg (by omega)
  | succ n ih =>
    rw [redoN, wrs_at X (by omega)]
    simp only
    rw [ih (by omega)]
    rw [safeN_next, anyN_next]
    unfold redo1
    by_cases hk : 0 < keptD keep n
    · rw [if_pos hk, if_pos hk, decide_eq_true hk, Bool.or_true]
      unfold updF redoF; simp
    · rw [if_neg hk, if_neg hk, decide_eq_false hk, Bool.or_false]
theorem wrs_len (X : List ByteArray) (sa i : Nat) : (wrs X sa i).length = i - sa := by unfold wrs; simp
/-- What a crash leaves. -/
theorem oneD_crash {nm : ByteArray} {X : List ByteArray} {sa i : Nat} (h0 : 0 < i) (keep : List Int) :
    crashD (oneD nm X sa i) keep = (lostN keep (i - sa), ⟨if anyN sa keep (i - sa) then [(nm, ⟨0, safeN X sa keep (i - sa), safeN X sa keep (i - sa), true⟩)] else [], [], true, 0, false, 0, [], 1⟩) := by
  rw [crashD_on rfl]
  have hws : (oneD nm X sa i).ws = wrs X sa i := rfl
  rw [hws, wrs_len, redoN_one h0 keep _ (Nat.le_refl _)]
  unfold leftF oneD
  have hi : ¬ i = 0 := by omega
  cases h : anyN sa keep (i - sa) <;> simp [h, hi]
theorem safeN_len (X : List ByteArray) (sa : Nat) (keep : List Int) (n : Nat) : (safeN X sa keep n).length ≤ sa + n := by
  induction n with
  | zero => show (X.take sa).length ≤ sa + 0; rw [List.length_take]; omega
  | succ n ih =>
    rw [safeN_next]
    split
    · unfold redoL; rw [List.length_set, padTo_len]; omega
    · omega
/-- The sectors that were safe are as they were. -/
theorem safeN_old {X : List ByteArray} {sa : Nat} (keep : List Int) (n : Nat) {j : Nat} (hj : j < sa) (hX : sa ≤ X.length) : (safeN X sa keep n)[j]? = X[j]? := by
  induction n with
  | zero => show (X.take sa)[j]? = _; rw [List.getElem?_take, if_pos hj]
  | succ n ih =>
    rw [safeN_next]
    split
    · have hl : j < (safeN X sa keep n).length := by
        by_cases h : j < (safeN X sa keep n).length
        · exact h
        · rw [List.getElem?_eq_none (by omega)] at ih
          have := List.getElem?_eq_none_iff.1 ih.symm
          omega
      unfold redoL
      rw [List.getElem?_set, if_neg (by omega), ← ih]
      unfold padTo
      exact List.getElem?_append_left hl
    · exact ih
/-- A sector of which something is kept: its first bytes, and zeros. -/
theorem safeN_new {X : List ByteArray} {sa : Nat} (keep : List Int) (n : Nat) {j : Nat} (h1 : sa ≤ j) (h2 : j < sa + n) (hk : 0 < keptD keep (j - sa)) :
    (safeN X sa keep n)[j]? = some ((X.getD j ByteArray.empty).extract 0 (keptD keep (j - sa)) ++ zeros256.extract (keptD keep (j - sa)) 256) := by
  induction n with
  | zero => omega
  | succ n ih =>
    rw [safeN_next]
    have hlen := safeN_len X sa keep n
    by_cases e : j = sa + n
    · subst e
      have hk' : 0 < keptD keep n := by rwa [Nat.add_sub_cancel_left] at hk
      rw [if_pos hk', Nat.add_sub_cancel_left]
      unfold redoL
      rw [List.getElem?_set_self (by rw [padTo_len]; omega)]
      have hz : (padTo (safeN X sa keep n) (sa + n + 1)).getD (sa + n) ByteArray.empty = zeros256 := by
        unfold padTo
        rw [List.getD_eq_getElem?_getD, List.getElem?_append_right hlen, List.getElem?_replicate, if_pos (by omega)]; rfl
      rw [hz]
    · have ih' := ih (by omega)
      split
      · have hl : j < (safeN X sa keep n).length := by
          by_cases h : j < (safeN X sa keep n).length
          · exact h
          · rw [List.getElem?_eq_none (by omega)] at ih'; cases ih'
        unfold redoL
        rw [List.getElem?_set, if_neg (by omega), ← ih']
        unfold padTo
        exact List.getElem?_append_left hl
      · exact ih'
theorem anyN_sa {sa : Nat} (h : 0 < sa) (keep : List Int) (n : Nat) : anyN sa keep n = true := by
  induction n with
  | zero => exact decide_eq_true h
  | succ n ih => rw [anyN_next, ih]; rfl
theorem anyN_kept {sa : Nat} (keep : List Int) {n k : Nat} (hk : k < n) (h : 0 < keptD keep k) : anyN sa keep n = true := by
  induction n with
  | zero => omega
  | succ n ih =>
    rw [anyN_next]
    by_cases e : k = n
    · subst e; rw [decide_eq_true h, Bool.or_true]
    · rw [ih (by omega)]; rfl
theorem safeN_ge {X : List ByteArray} {sa : Nat} (hX : sa ≤ X.length) (keep : List Int) (n : Nat) : sa ≤ (safeN X sa keep n).length := by
  by_cases h : sa = 0
  · omega
  · have := safeN_old (X := X) keep n (j := sa - 1) (by omega) hX
    have hs : X[sa - 1]? = some X[sa - 1] := List.getElem?_eq_getElem (by omega)
    rw [hs] at this
    have := (List.getElem?_eq_some_iff.1 this).1
    omega
end Go.Proofs.Ytlgfkjaiifkacaa
