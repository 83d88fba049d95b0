/-
  The check sum as plain numbers: one shift, four shifts by a table, the fold over bytes; its linearity. No condition.
-/
import Derived.Test.YtgigkekajdgngaaBase
namespace Go.Proofs.Ytgigkekajdgngaa
open Go Go.RowKit

/-- One shift of a sum. -/
def sh1 (n : Nat) : Nat := if n % 2 = 1 then (n / 2) ^^^ 2197175160 else n / 2
def shN : Nat → Nat → Nat
  | 0, n => n
  | k + 1, n => sh1 (shN k n)
theorem sh1_lt {n : Nat} (h : n < 4294967296) : sh1 n < 4294967296 := by
  unfold sh1; split
  · exact Nat.xor_lt_two_pow (n := 32) (by omega) (by omega)
  · omega
theorem shN_lt (k : Nat) {n : Nat} (h : n < 4294967296) : shN k n < 4294967296 := by
  induction k with
  | zero => exact h
  | succ k ih => exact sh1_lt ih
theorem shN_add (a b n : Nat) : shN (a + b) n = shN a (shN b n) := by
  induction a with
  | zero => simp [shN]
  | succ a ih => rw [show a + 1 + b = (a + b) + 1 by omega]; simp only [shN]; rw [ih]

theorem xor_mod2 (a b : Nat) : (a ^^^ b) % 2 = (a % 2 + b % 2) % 2 := by
  have h1 : (a ^^^ b).testBit 0 = (a.testBit 0 ^^ b.testBit 0) := Nat.testBit_xor a b 0
  simp only [Nat.testBit_zero] at h1
  rcases Nat.mod_two_eq_zero_or_one a with ha | ha <;> rcases Nat.mod_two_eq_zero_or_one b with hb | hb <;> rcases Nat.mod_two_eq_zero_or_one (a ^^^ b) with hc | hc <;> simp_all
theorem xor_div2 (a b : Nat) : (a ^^^ b) / 2 = a / 2 ^^^ b / 2 := by
  apply Nat.eq_of_testBit_eq; intro i
  rw [Nat.testBit_xor, ← Nat.testBit_succ, ← Nat.testBit_succ, ← Nat.testBit_succ, Nat.testBit_xor]
theorem sh1_xor (a b : Nat) : sh1 (a ^^^ b) = sh1 a ^^^ sh1 b := by
  unfold sh1
  rw [xor_mod2, xor_div2]
  rcases Nat.mod_two_eq_zero_or_one a with ha | ha <;> rcases Nat.mod_two_eq_zero_or_one b with hb | hb <;> simp [ha, hb]
  · ac_rfl
  · ac_rfl
  · rw [show a / 2 ^^^ 2197175160 ^^^ (b / 2 ^^^ 2197175160) = (a / 2 ^^^ b / 2) ^^^ (2197175160 ^^^ 2197175160) by ac_rfl, Nat.xor_self, Nat.xor_zero]
theorem shN_xor (k a b : Nat) : shN k (a ^^^ b) = shN k a ^^^ shN k b := by
  induction k with
  | zero => rfl
  | succ k ih => simp only [shN]; rw [ih, sh1_xor]
theorem shN_high (k m : Nat) : shN k (2 ^ k * m) = m := by
  induction k generalizing m with
  | zero => simp [shN]
  | succ k ih =>
    have : 2 ^ (k + 1) * m = 2 ^ k * (2 * m) := by rw [Nat.pow_succ]; ac_rfl
    simp only [shN]; rw [this, ih]; unfold sh1; rw [if_neg (by omega)]; omega
theorem split4 (x : Nat) : x = 16 * (x / 16) ^^^ x % 16 := by
  have h : 16 * (x / 16) ^^^ x % 16 = 16 * (x / 16) + x % 16 := by
    have h1 := Nat.two_pow_add_eq_or_of_lt (i := 4) (b := x % 16) (by omega) (x / 16)
    rw [show (2 : Nat) ^ 4 = 16 by rfl] at h1
    rw [h1]
    apply Nat.eq_of_testBit_eq; intro i
    rw [Nat.testBit_xor, Nat.testBit_or]
    by_cases hi : i < 4
    · have : (16 * (x / 16)).testBit i = false := by
        rw [show 16 * (x / 16) = 2 ^ 4 * (x / 16) by rfl, Nat.testBit_two_pow_mul]; simp; omega
      simp [this]
    · have : (x % 16).testBit i = false := by
        apply Nat.testBit_lt_two_pow
        have h2 : 2 ^ 4 ≤ 2 ^ i := Nat.pow_le_pow_right (by omega) (by omega)
        omega
      simp [this]
  omega
/-- Four shifts are one shift by four and a look into the table. -/
theorem shN4 (x : Nat) : (x / 16) ^^^ shN 4 (x % 16) = shN 4 x := by
  conv => rhs; rw [split4 x, shN_xor]
  rw [show 16 * (x / 16) = 2 ^ 4 * (x / 16) by rfl, shN_high]

/-- The sum's fold over bytes. -/
def crcL (x : Nat) (l : List UInt8) : Nat := l.foldl (fun x b => shN 8 (x ^^^ b.toNat)) x
theorem crcL_snoc (x : Nat) (l : List UInt8) (b : UInt8) : crcL x (l ++ [b]) = shN 8 (crcL x l ^^^ b.toNat) := by simp [crcL]
theorem crcL_append (x : Nat) (l m : List UInt8) : crcL x (l ++ m) = crcL (crcL x l) m := by simp [crcL]
theorem xor_byte_lt {x : Nat} (h : x < 4294967296) (b : UInt8) : x ^^^ b.toNat < 4294967296 :=
  Nat.xor_lt_two_pow (n := 32) h (by have := b.toNat_lt; omega)
theorem crcL_lt {x : Nat} (h : x < 4294967296) (l : List UInt8) : crcL x l < 4294967296 := by
  induction l generalizing x with
  | nil => exact h
  | cons b l ih => exact ih (shN_lt 8 (xor_byte_lt h b))
/-- The sum of these bytes. -/
def crc (l : List UInt8) : Nat := crcL 4294967295 l ^^^ 4294967295
theorem crc_lt (l : List UInt8) : crc l < 4294967296 := Nat.xor_lt_two_pow (n := 32) (crcL_lt (by omega) l) (by omega)

theorem bitsand1 (n : Nat) (h : n < 4294967296) : bits BinOp.and IntKind.u32 (n : Int) 1 = ((n % 2 : Nat) : Int) := by
  have := u32_and n 1 (by omega) (by omega) (by omega) (by omega)
  simpa [Nat.and_one_is_mod] using this
theorem bitsand15 (n : Nat) (h : n < 4294967296) : bits BinOp.and IntKind.u32 (n : Int) 15 = ((n % 16 : Nat) : Int) := by
  have := u32_and n 15 (by omega) (by omega) (by omega) (by omega)
  have h2 : n &&& 15 = n % 16 := Nat.and_two_pow_sub_one_eq_mod n 4
  simpa [h2] using this
theorem bitsxor (n m : Nat) (h : n < 4294967296) (h' : m < 4294967296) : bits BinOp.xor IntKind.u32 (n : Int) (m : Int) = ((n ^^^ m : Nat) : Int) := by
  have := u32_xor n m (by omega) (by omega) (by omega) (by omega)
  simpa using this

/-- The table behind k rounds. -/
def tabV (k : Nat) : Array Value := ((List.range 16).map fun j => Value.int .u32 (if j < k then (shN 4 j : Int) else 0)).toArray
theorem tabV_size (k : Nat) : (tabV k).size = 16 := by simp [tabV]
theorem tabV_at (k j : Nat) (h : j < 16) : (tabV k)[j]? = some (.int .u32 (if j < k then (shN 4 j : Int) else 0)) := by
  simp [tabV, h]
theorem tabV_16 (j : Nat) (h : j < 16) : (tabV 16)[j]? = some (.int .u32 (shN 4 j : Int)) := by
  rw [tabV_at 16 j h, if_pos h]
theorem tabV_set (k : Nat) (h : k < 16) : (tabV k).setIfInBounds k (.int .u32 (shN 4 k : Int)) = tabV (k + 1) := by
  apply Array.ext_getElem?
  intro j
  rw [Array.getElem?_setIfInBounds]
  by_cases hj : j < 16
  · rw [tabV_at _ _ hj, tabV_at _ _ hj, tabV_size]
    by_cases e : k = j
    · subst e; simp [h]
    · simp [e]
      by_cases h1 : j < k
      · simp [h1, show j < k + 1 by omega]
      · simp [h1, show ¬ j < k + 1 by omega]
  · have : k ≠ j := by omega
    simp [this, tabV, hj]
theorem tabV_one (k : Nat) : (tabV k).all (·.oneCell') = true := by
  rw [Array.all_eq_true_iff_forall_mem]
  intro v hv
  simp [tabV] at hv
  obtain ⟨j, _, rfl⟩ := hv
  rfl
def zer16 : Array Value := #[.int .u32 0, .int .u32 0, .int .u32 0, .int .u32 0, .int .u32 0, .int .u32 0, .int .u32 0, .int .u32 0, .int .u32 0, .int .u32 0, .int .u32 0, .int .u32 0, .int .u32 0, .int .u32 0, .int .u32 0, .int .u32 0]

end Go.Proofs.Ytgigkekajdgngaa
