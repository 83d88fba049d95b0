/-
  A page's sector as plain lists of bytes: how it is laid, how it is read, that it reads back, that one other byte or a torn sector does not read. Over every page and every bytes; no condition of its own.
-/
import Derived.Test.YtgigkekajdgngaaSumFlip
namespace Go.Proofs.Ytgigkekajdgngaa
open Go Go.RowKit

/-- The number of bytes, the lowest first. -/
def numL : List UInt8 → Nat
  | [] => 0
  | b :: l => b.toNat + 256 * numL l
theorem numL_lt (l : List UInt8) : numL l < 256 ^ l.length := by
  induction l with
  | nil => simp [numL]
  | cons b l ih =>
    have hb := b.toNat_lt
    have hp : (256 : Nat) ^ (l.length + 1) = 256 ^ l.length * 256 := Nat.pow_succ ..
    simp only [numL, List.length_cons]
    omega
theorem numL_snoc (l : List UInt8) (b : UInt8) : numL (l ++ [b]) = numL l + 256 ^ l.length * b.toNat := by
  induction l with
  | nil => simp [numL]
  | cons c l ih =>
    have hp : (256 : Nat) ^ (l.length + 1) = 256 ^ l.length * 256 := Nat.pow_succ ..
    simp only [List.cons_append, numL, List.length_cons, ih, hp]
    rw [Nat.mul_add, Nat.mul_comm (256 ^ l.length) 256, Nat.mul_assoc]
    omega
theorem lowB_num (l : List UInt8) : lowB (numL l) l.length = l := by
  induction l with
  | nil => rfl
  | cons b l ih =>
    have hb := b.toNat_lt
    have h1 : (b.toNat + 256 * numL l) / 256 = numL l := by omega
    simp only [numL, List.length_cons, lowB, h1, ih]
    congr 1
    apply UInt8.toNat_inj.1
    simp; try omega
theorem num_lowB (v n : Nat) : numL (lowB v n) = v % 256 ^ n := by
  induction n generalizing v with
  | zero => simp [numL, lowB, Nat.mod_one]
  | succ n ih =>
    have hp : (256 : Nat) ^ (n + 1) = 256 * 256 ^ n := by rw [Nat.pow_succ, Nat.mul_comm]
    simp only [lowB, numL, ih]
    rw [hp, Nat.mod_mul]
    simp
theorem num_lowB_lt {v n : Nat} (h : v < 256 ^ n) : numL (lowB v n) = v := by rw [num_lowB, Nat.mod_eq_of_lt h]

/-- A page. -/
structure Pg where
  (k i t : Nat) (body : List UInt8)
/-- Can a page be? -/
def okP (k i t : Int) (n : Nat) : Prop := 1 ≤ k ∧ k ≤ 5 ∧ 0 ≤ i ∧ i < 4000 ∧ 0 ≤ t ∧ t ≤ 1099511627776 ∧ n ≤ 232
instance (k i t : Int) (n : Nat) : Decidable (okP k i t n) := by unfold okP; infer_instance
def Pg.ok (p : Pg) : Prop := 1 ≤ p.k ∧ p.k ≤ 5 ∧ p.i < 4000 ∧ p.t ≤ 1099511627776 ∧ p.body.length ≤ 232
instance (p : Pg) : Decidable p.ok := by unfold Pg.ok; infer_instance
def headL (p : Pg) : List UInt8 := lowB p.k 1 ++ (lowB p.body.length 1 ++ (lowB p.i 2 ++ (lowB (p.t % 4294967296) 4 ++ lowB p.t 8)))
def zerosL (n : Nat) : List UInt8 := List.replicate n 0
def frontL (p : Pg) : List UInt8 := headL p ++ (p.body ++ zerosL (232 - p.body.length))
/-- A page's sector. -/
def layL (p : Pg) : List UInt8 := frontL p ++ (lowB (crc (frontL p)) 4 ++ lowB (p.t % 4294967296) 4)
theorem headL_len (p : Pg) : (headL p).length = 16 := by simp [headL, lowB_len]
theorem frontL_len {p : Pg} (h : p.ok) : (frontL p).length = 248 := by
  have := h.2.2.2.2
  simp [frontL, headL_len, zerosL]; omega
theorem layL_len {p : Pg} (h : p.ok) : (layL p).length = 256 := by simp [layL, frontL_len h, lowB_len]
theorem layL_front {p : Pg} (h : p.ok) : (layL p).take 248 = frontL p := by
  rw [layL, ← frontL_len h, List.take_left']; rfl
theorem layL_sum {p : Pg} (h : p.ok) : ((layL p).drop 248).take 4 = lowB (crc (frontL p)) 4 := by
  rw [layL, ← frontL_len h, List.drop_left, List.take_left' (lowB_len _ _)]
theorem layL_tail {p : Pg} (h : p.ok) : (layL p).drop 252 = lowB (p.t % 4294967296) 4 := by
  have e : (layL p).drop 252 = ((layL p).drop 248).drop 4 := by rw [List.drop_drop]
  rw [e, layL, ← frontL_len h, List.drop_left, List.drop_left' (lowB_len _ _)]
theorem frontL_at (p : Pg) : frontL p = lowB p.k 1 ++ (lowB p.body.length 1 ++ (lowB p.i 2 ++ (lowB (p.t % 4294967296) 4 ++ (lowB p.t 8 ++ (p.body ++ zerosL (232 - p.body.length)))))) := by
  simp [frontL, headL]
theorem front_low (p : Pg) : ((frontL p).drop 4).take 4 = lowB (p.t % 4294967296) 4 := by
  rw [frontL_at]; simp [lowB]
theorem lay_low {p : Pg} (h : p.ok) : ((layL p).drop 4).take 4 = lowB (p.t % 4294967296) 4 := by
  rw [layL, List.drop_append_of_le_length (by rw [frontL_len h]; omega), List.take_append_of_le_length (by simp [frontL_len h]), front_low]

/-- What a sector's bytes say. -/
def kindB (b : List UInt8) : Nat := numL (b.take 1)
def lenB (b : List UInt8) : Nat := numL ((b.drop 1).take 1)
def idB (b : List UInt8) : Nat := numL ((b.drop 2).take 2)
def txB (b : List UInt8) : Nat := numL ((b.drop 8).take 8)
def bodyB (b : List UInt8) : List UInt8 := (b.drop 16).take (lenB b)
def pgB (b : List UInt8) : Pg := ⟨kindB b, idB b, txB b, bodyB b⟩
theorem pgB_front (p : Pg) (h : p.ok) (m : List UInt8) : pgB (frontL p ++ m) = p := by
  obtain ⟨h1, h2, h3, h4, h5⟩ := h
  have ek : kindB (frontL p ++ m) = p.k := by
    unfold kindB; rw [frontL_at, List.append_assoc, List.take_left' (lowB_len _ _), num_lowB_lt (by omega)]
  have el : lenB (frontL p ++ m) = p.body.length := by
    unfold lenB; rw [frontL_at, List.append_assoc, List.drop_left' (lowB_len _ _), List.append_assoc, List.take_left' (lowB_len _ _), num_lowB_lt (by omega)]
  have ei : idB (frontL p ++ m) = p.i := by
    unfold idB; rw [frontL_at, ← List.append_assoc (lowB p.k 1), List.append_assoc, List.drop_left' (by simp [lowB_len]), List.append_assoc, List.take_left' (lowB_len _ _), num_lowB_lt (by omega)]
  have et : txB (frontL p ++ m) = p.t := by
    unfold txB
    have e : frontL p ++ m = (lowB p.k 1 ++ (lowB p.body.length 1 ++ (lowB p.i 2 ++ lowB (p.t % 4294967296) 4))) ++ (lowB p.t 8 ++ ((p.body ++ zerosL (232 - p.body.length)) ++ m)) := by
      rw [frontL_at]; simp
    rw [e, List.drop_left' (by simp [lowB_len]), List.take_left' (lowB_len _ _), num_lowB_lt (by omega)]
  have eb : bodyB (frontL p ++ m) = p.body := by
    unfold bodyB; rw [el]
    have e : frontL p ++ m = headL p ++ (p.body ++ (zerosL (232 - p.body.length) ++ m)) := by simp [frontL]
    rw [e, List.drop_left' (headL_len p), List.take_left' rfl]
  unfold pgB
  rw [ek, ei, et, eb]
theorem pgB_lay {p : Pg} (h : p.ok) : pgB (layL p) = p := pgB_front p h _
theorem lenB_lay {p : Pg} (h : p.ok) : lenB (layL p) = p.body.length := by
  unfold lenB layL; rw [frontL_at, List.append_assoc, List.drop_left' (lowB_len _ _), List.append_assoc, List.take_left' (lowB_len _ _), num_lowB_lt (by have := h.2.2.2.2; omega)]
theorem layL_inj {p q : Pg} (hp : p.ok) (hq : q.ok) (h : layL p = layL q) : p = q := by rw [← pgB_lay hp, ← pgB_lay hq, h]

/-- How a sector of 256 bytes reads: 0, or the reason. -/
def errB (b : List UInt8) : Nat :=
  if 232 < lenB b ∨ ¬ (pgB b).ok then 6
  else if (layL (pgB b)).take 248 ≠ b.take 248 ∨ (layL (pgB b)).drop 252 ≠ b.drop 252 then 6
  else if layL (pgB b) ≠ b then 7 else 0
theorem errB_cases (b : List UInt8) : errB b = 0 ∨ errB b = 6 ∨ errB b = 7 := by
  unfold errB; split
  · simp
  · split
    · simp
    · split <;> simp
theorem errB_ok {b : List UInt8} (h : errB b = 0) : (pgB b).ok ∧ layL (pgB b) = b := by
  unfold errB at h; split at h
  · omega
  · rename_i h1
    split at h
    · omega
    · split at h
      · omega
      · rename_i h2
        exact ⟨by simp at h1; exact h1.2, by simpa using h2⟩
theorem errB_lay {p : Pg} (h : p.ok) : errB (layL p) = 0 := by
  unfold errB
  rw [pgB_lay h, lenB_lay h, if_neg (by simp [h]; exact h.2.2.2.2), if_neg (by simp), if_neg (by simp)]

theorem eq_of_parts {a b : List UInt8} (_ha : a.length = 256) (_hb : b.length = 256) (h1 : a.take 248 = b.take 248) (h2 : (a.drop 248).take 4 = (b.drop 248).take 4) (h3 : a.drop 252 = b.drop 252) : a = b := by
  have e : ∀ c : List UInt8, c = c.take 248 ++ ((c.drop 248).take 4 ++ c.drop 252) := fun c => by
    have : c.drop 252 = (c.drop 248).drop 4 := by rw [List.drop_drop]
    rw [this, List.take_append_drop, List.take_append_drop]
  rw [e a, e b, h1, h2, h3]

/-- One byte of a sector is another one: no page. -/
theorem errB_flip {p : Pg} (h : p.ok) {at_ : Nat} {v b : UInt8} (hb : (layL p)[at_]? = some b) (hv : v ≠ b) : errB ((layL p).set at_ v) = 6 ∨ errB ((layL p).set at_ v) = 7 := by
  rcases errB_cases ((layL p).set at_ v) with h0 | h0
  · exfalso
    obtain ⟨hq, e⟩ := errB_ok h0
    generalize pgB ((layL p).set at_ v) = q at hq e
    have hlt : at_ < 256 := by have := (List.getElem?_eq_some_iff.1 hb).1; rw [layL_len h] at this; exact this
    have hself : ((layL p).set at_ v)[at_]? = some v := List.getElem?_set_self (by rw [layL_len h]; exact hlt)
    by_cases h1 : at_ < 248
    · -- in front: the sums are alike, the fronts part in one byte
      have ef : frontL q = (frontL p).set at_ v := by
        rw [← layL_front hq, e, List.take_set, layL_front h]
      have es : lowB (crc (frontL q)) 4 = lowB (crc (frontL p)) 4 := by
        rw [← layL_sum hq, ← layL_sum h, e, List.drop_set_of_lt h1]
      rw [ef] at es
      have := lowB_inj 4 (by have := crc_lt ((frontL p).set at_ v); omega) (by have := crc_lt (frontL p); omega) es
      refine crc_set (frontL p) at_ v b ?_ hv this
      rw [← layL_front h, List.getElem?_take, if_pos h1]; exact hb
    · have ef : frontL q = frontL p := by
        rw [← layL_front hq, e, List.take_set_of_le (by omega), layL_front h]
      have et : lowB (q.t % 4294967296) 4 = lowB (p.t % 4294967296) 4 := by rw [← front_low, ← front_low, ef]
      have : layL q = layL p := by unfold layL; rw [ef, et]
      rw [← e, this, hb] at hself
      exact hv (Option.some.inj hself).symm
  · exact h0

/-- The sum over four bytes tells them. -/
theorem crcL_num (l : List UInt8) (x : Nat) (_hx : x < 4294967296) (_hl : l.length ≤ 4) : crcL x l = shN (8 * l.length) (x ^^^ numL l) := by
  have H : ∀ (m k : List UInt8), m ++ k = l → crcL x m = shN (8 * m.length) (x ^^^ numL m) := by
    intro m
    generalize hn : m.length = n
    induction n generalizing m with
    | zero =>
      intro k _
      obtain rfl := List.eq_nil_of_length_eq_zero hn
      simp [crcL, shN, numL]
    | succ n ih0 =>
      intro k hk
      obtain ⟨m', b, rfl⟩ : ∃ m' b, m = m' ++ [b] := by
        rcases List.eq_nil_or_concat m with h | ⟨m', b, h⟩
        · subst h; simp at hn
        · exact ⟨m', b, by simpa using h⟩
      have hn' : m'.length = n := by simp at hn; exact hn
      have ih : ∀ k, m' ++ k = l → crcL x m' = shN (8 * m'.length) (x ^^^ numL m') := fun k hk => by rw [hn']; exact ih0 m' hn' k hk
      rw [← hn]
      clear ih0
      generalize m' = m at *
      rw [crcL_snoc, ih ([b] ++ k) (by rw [← hk]; simp)]
      have hpow : (256 : Nat) ^ m.length * b.toNat = 2 ^ (8 * m.length) * b.toNat := by rw [Nat.pow_mul]
      have e1 : numL (m ++ [b]) = numL m ^^^ 2 ^ (8 * m.length) * b.toNat := by
        have hlt : numL m < 2 ^ (8 * m.length) := by rw [Nat.pow_mul]; exact numL_lt m
        rw [numL_snoc, hpow, Nat.add_comm, Nat.two_pow_add_eq_or_of_lt hlt]
        apply Nat.eq_of_testBit_eq; intro i
        rw [Nat.testBit_xor, Nat.testBit_or]
        by_cases hi : i < 8 * m.length
        · have : (2 ^ (8 * m.length) * b.toNat).testBit i = false := by rw [Nat.testBit_two_pow_mul]; simp; omega
          simp [this]
        · have : (numL m).testBit i = false := by
            apply Nat.testBit_lt_two_pow
            have h2 : 2 ^ (8 * m.length) ≤ 2 ^ i := Nat.pow_le_pow_right (by omega) (by omega)
            omega
          simp [this]
      have e2 : shN (8 * m.length) (2 ^ (8 * m.length) * b.toNat) = b.toNat := shN_high _ _
      rw [e1, show 8 * (m ++ [b]).length = 8 + 8 * m.length by simp; omega, shN_add, ← Nat.xor_assoc, shN_xor (8 * m.length) (x ^^^ numL m), e2]
  exact H l [] (by simp)
theorem crcL_four {l m : List UInt8} (hl : l.length = 4) (hm : m.length = 4) {x : Nat} (hx : x < 4294967296) (h : crcL x l = crcL x m) : l = m := by
  rw [crcL_num l x hx (by omega), crcL_num m x hx (by omega), hl, hm] at h
  have nl := numL_lt l; have nm := numL_lt m
  rw [hl] at nl; rw [hm] at nm
  have e := shN_inj 32 (Nat.xor_lt_two_pow (n := 32) hx (by omega)) (Nat.xor_lt_two_pow (n := 32) hx (by omega)) h
  have := xor_left_inj e
  rw [← lowB_num l, ← lowB_num m, hl, hm, this]

/-- A torn sector: the one, or the other, or none. -/
theorem torn {p q : Pg} (hp : p.ok) (hq : q.ok) (ht : p.t % 4294967296 ≠ q.t % 4294967296) {cut : Nat} (hc : cut ≤ 256) (h : errB ((layL p).take cut ++ (layL q).drop cut) = 0) :
    (layL p).take cut ++ (layL q).drop cut = layL p ∨ (layL p).take cut ++ (layL q).drop cut = layL q := by
  obtain ⟨hx, e⟩ := errB_ok h
  generalize hs : (layL p).take cut ++ (layL q).drop cut = s at hx e ⊢
  generalize pgB s = x at hx e
  have lp := layL_len hp; have lq := layL_len hq; have lx := layL_len hx
  have ls : s.length = 256 := by rw [← e]; exact lx
  -- the number stands at two places of s
  have h4 : (s.drop 4).take 4 = s.drop 252 := by rw [← e, lay_low hx, layL_tail hx]
  have p4 : ((layL p).drop 4).take 4 = (layL p).drop 252 := by rw [lay_low hp, layL_tail hp]
  have q4 : ((layL q).drop 4).take 4 = (layL q).drop 252 := by rw [lay_low hq, layL_tail hq]
  have hne : (layL p).drop 252 ≠ (layL q).drop 252 := by
    rw [layL_tail hp, layL_tail hq]
    intro hh; exact ht (lowB_inj 4 (by omega) (by omega) hh)
  have sa : ∀ j, j < cut → s[j]? = (layL p)[j]? := fun j hj => by
    rw [← hs, List.getElem?_append_left (by rw [List.length_take]; omega), List.getElem?_take, if_pos hj]
  have sb : ∀ j, cut ≤ j → s[j]? = (layL q)[j]? := fun j hj => by
    rw [← hs, List.getElem?_append_right (by rw [List.length_take]; omega), List.length_take, List.getElem?_drop]
    congr 1; omega
  have at4 : ∀ j, j < 4 → s[4 + j]? = s[252 + j]? := fun j hj => by
    have := congrArg (·[j]?) h4
    simpa [List.getElem?_take, List.getElem?_drop, hj] using this
  have pt4 : ∀ j, j < 4 → (layL p)[4 + j]? = (layL p)[252 + j]? := fun j hj => by
    have := congrArg (·[j]?) p4
    simpa [List.getElem?_take, List.getElem?_drop, hj] using this
  have qt4 : ∀ j, j < 4 → (layL q)[4 + j]? = (layL q)[252 + j]? := fun j hj => by
    have := congrArg (·[j]?) q4
    simpa [List.getElem?_take, List.getElem?_drop, hj] using this
  by_cases hc1 : 252 < cut
  · left
    apply List.ext_getElem?
    intro j
    by_cases hj : j < cut
    · exact sa j hj
    · by_cases hj2 : j < 256
      · obtain ⟨i, rfl⟩ : ∃ i, j = 252 + i := ⟨j - 252, by omega⟩
        rw [← at4 i (by omega), sa (4 + i) (by omega), pt4 i (by omega)]
      · rw [List.getElem?_eq_none (by omega), List.getElem?_eq_none (by omega)]
  · by_cases hc2 : 8 ≤ cut
    · exfalso
      apply hne
      rw [← p4]
      apply List.ext_getElem?
      intro j
      rw [List.getElem?_take]
      by_cases hj : j < 4
      · rw [if_pos hj, List.getElem?_drop, List.getElem?_drop, ← sa (4 + j) (by omega), at4 j hj, sb (252 + j) (by omega)]
      · rw [if_neg hj, List.getElem?_eq_none (by rw [List.length_drop]; omega)]
    · right
      have tail4 : ∀ j, 4 ≤ j → s[j]? = (layL q)[j]? := fun j hj => by
        by_cases hj2 : j < 8
        · obtain ⟨i, rfl⟩ : ∃ i, j = 4 + i := ⟨j - 4, by omega⟩
          rw [at4 i (by omega), sb (252 + i) (by omega), qt4 i (by omega)]
        · exact sb j (by omega)
      have d4 : s.drop 4 = (layL q).drop 4 := by
        apply List.ext_getElem?
        intro j
        rw [List.getElem?_drop, List.getElem?_drop, tail4 (4 + j) (by omega)]
      have es : crc (frontL x) = crc (frontL q) := by
        have h5 : lowB (crc (frontL x)) 4 = lowB (crc (frontL q)) 4 := by
          rw [← layL_sum hx, ← layL_sum hq, e]
          have e2 : ∀ c : List UInt8, (c.drop 248).take 4 = ((c.drop 4).drop 244).take 4 := fun c => by rw [List.drop_drop]
          rw [e2, e2, d4]
        exact lowB_inj 4 (by have := crc_lt (frontL x); omega) (by have := crc_lt (frontL q); omega) h5
      have fx : frontL x = s.take 248 := by rw [← e, layL_front hx]
      have fq : frontL q = (layL q).take 248 := (layL_front hq).symm
      have parts : ∀ c : List UInt8, c.take 248 = c.take 4 ++ (c.drop 4).take 244 := fun c => by
        conv => lhs; rw [← List.take_append_drop 4 (c.take 248)]
        rw [List.take_take, List.drop_take]; rfl
      rw [fx, fq, parts s, parts (layL q), d4] at es
      unfold crc at es
      have es2 := xor_right_inj es
      rw [crcL_append, crcL_append] at es2
      have es3 := crcL_inj _ (crcL_lt (by omega) _) (crcL_lt (by omega) _) es2
      have t4 := crcL_four (by rw [List.length_take]; omega) (by rw [List.length_take]; omega) (by omega) es3
      rw [← List.take_append_drop 4 s, ← List.take_append_drop 4 (layL q), t4, d4]
end Go.Proofs.Ytgigkekajdgngaa
