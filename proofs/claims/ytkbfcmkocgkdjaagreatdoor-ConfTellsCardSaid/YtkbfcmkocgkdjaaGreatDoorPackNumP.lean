/-
  Plain facts for the law PackDigits: a number's digits, and a text's number. No program in them.
-/
import Derived.Test.YtkbfcmkocgkdjaaGreatDoorDigits
namespace Go.Proofs.YtkbfcmkocgkdjaaGreatDoor
open Go Go.RowKit

/-- How far digits are laid, the last one first. -/
def DigI (n u : Nat) (s : List UInt8) : Prop := (s = [] ∧ u = n) ∨ (s ≠ [] ∧ (if u = 0 then s else Lib.decDigits u ++ s) = Lib.decDigits n)
theorem DigI.start (n : Nat) : DigI n n [] := .inl ⟨rfl, rfl⟩
theorem dec_step (u : Nat) : Lib.decDigits u = (if u / 10 = 0 then [] else Lib.decDigits (u / 10)) ++ [UInt8.ofNat (48 + u % 10)] := by
  rw [Lib.decDigits]
  by_cases h : u < 10
  · rw [dif_pos h, if_pos (by omega), show u % 10 = u by omega]; rfl
  · rw [dif_neg h, if_neg (by omega)]
theorem DigI.next {n u : Nat} {s : List UInt8} (h : DigI n u s) (hc : 0 < u ∨ s = []) : DigI n (u / 10) (UInt8.ofNat (48 + u % 10) :: s) := by
  refine .inr ⟨by simp, ?_⟩
  rcases h with ⟨rfl, rfl⟩ | ⟨h1, h2⟩
  · rw [dec_step u]
    by_cases h0 : u / 10 = 0
    · rw [if_pos h0, if_pos h0]; rfl
    · rw [if_neg h0, if_neg h0]
  · have hu : 0 < u := by rcases hc with h | h; exact h; exact absurd h h1
    rw [if_neg (by omega)] at h2
    rw [← h2, dec_step u]
    by_cases h0 : u / 10 = 0
    · rw [if_pos h0, if_pos h0]; rfl
    · rw [if_neg h0, if_neg h0]; simp
theorem DigI.done {n : Nat} {s : List UInt8} (h : DigI n 0 s) (hs : s ≠ []) : s = Lib.decDigits n := by
  rcases h with ⟨h, _⟩ | ⟨_, h⟩
  · exact absurd h hs
  · rwa [if_pos rfl] at h

/-- The digits' number, read from the left. -/
def digL (n : Int) : List UInt8 → Int
  | [] => n
  | b :: l => digL (10 * n + ((b.toNat : Int) - 48)) l
def isDig (b : UInt8) : Bool := decide (48 ≤ b.toNat) && decide (b.toNat ≤ 57)
theorem digL_app (n : Int) (a b : List UInt8) : digL n (a ++ b) = digL (digL n a) b := by
  induction a generalizing n with
  | nil => rfl
  | cons x a ih => simp [digL, ih]
theorem digL_bd (l : List UInt8) (h : l.all isDig = true) (n : Int) (h0 : 0 ≤ n) : 0 ≤ digL n l ∧ digL n l < (n + 1) * 10 ^ l.length := by
  induction l generalizing n with
  | nil => simp [digL]; omega
  | cons b l ih =>
    simp only [List.all_cons, Bool.and_eq_true] at h
    have hb := h.1
    unfold isDig at hb
    simp only [Bool.and_eq_true, decide_eq_true_eq] at hb
    have := ih h.2 (10 * n + ((b.toNat : Int) - 48)) (by omega)
    refine ⟨this.1, Int.lt_of_lt_of_le this.2 ?_⟩
    rw [List.length_cons, Int.pow_succ, Int.mul_comm (10 ^ l.length) 10, ← Int.mul_assoc]
    exact Int.mul_le_mul_of_nonneg_right (by omega) (Int.pow_nonneg (by decide))
theorem digL_take {l : List UInt8} {k : Nat} {b : UInt8} (h : l[k]? = some b) : digL 0 (l.take (k + 1)) = 10 * digL 0 (l.take k) + ((b.toNat : Int) - 48) := by
  rw [List.take_add_one, h, digL_app]; rfl
theorem all_take {l : List UInt8} {k : Nat} {b : UInt8} (h : l[k]? = some b) (ha : (l.take k).all isDig = true) (hb : isDig b = true) : (l.take (k + 1)).all isDig = true := by
  rw [List.take_add_one, h, List.all_append, ha]; simp [hb]
theorem digL_small (l : List UInt8) (h : l.all isDig = true) (hl : l.length ≤ 17) : 0 ≤ digL 0 l ∧ digL 0 l < 100000000000000000 := by
  have h1 := digL_bd l h 0 (by omega)
  have h2 : (10 : Int) ^ l.length ≤ 10 ^ 17 := by have := Nat.pow_le_pow_right (n := 10) (by omega) hl; exact_mod_cast this
  omega
/-- May these be a number's digits? -/
def fineD (d : List UInt8) (below : Bool) : Bool := decide (1 ≤ d.length) && decide (d.length ≤ 18) && !(d.head? == some 48 && (decide (1 < d.length) || below))
def numD (d : List UInt8) (below : Bool) : Int × Int := if fineD d below = true ∧ d.all isDig = true then (if below then -(digL 0 d) else digL 0 d, 0) else (0, 1)
/-- What Number tells: 0 and 1 where a text is no number. -/
def numV (s : List UInt8) : Int × Int := if s.head? = some 45 then numD (s.drop 1) true else numD s false
end Go.Proofs.YtkbfcmkocgkdjaaGreatDoor
