/-
  A message as bytes, in plain words: how it is laid, or why not; no message's bytes are another's first part. No condition of its own.
-/
import Derived.Test.YtgigkekajdgngaaGreatMtOne
namespace Go.Proofs.YtgigkekajdgngaaGreat
open Go Go.RowKit

/-- A message. -/
structure Ms where
  kind : Int
  a : Int
  b : Int
  c : Int
  d : Int
  r : Int
  ok : Bool
  txt : ByteArray
  es : List En
def Ms.nums (m : Ms) : List Int := [m.a, m.b, m.c, m.d, m.r]
/-- Can it not be laid? -/
def Ms.bad (m : Ms) : Bool := decide (m.kind < 1) || decide (9 < m.kind) || decide (1000 < m.txt.size) || decide (4 < m.es.length) || m.nums.any (fun z => decide (z < 0)) || m.nums.any (fun z => decide (2147483647 < z))
/-- Its bytes ahead of the sum. -/
def Ms.body (m : Ms) : List UInt8 := headM m.kind.toNat (m.nums.map Int.toNat) m.ok m.txt m.es.length ++ entsB m.es
def layM (m : Ms) : ByteArray × Int := if m.bad || !entsOk m.es then (⟨#[]⟩, 1) else (sealB (bs m.body), 0)
theorem Ms.good {m : Ms} (h : m.bad = false) : (1 ≤ m.kind ∧ m.kind ≤ 9) ∧ m.txt.size ≤ 1000 ∧ m.es.length ≤ 4 ∧ (∀ z ∈ m.nums, 0 ≤ z ∧ z ≤ 2147483647) := by
  unfold Ms.bad at h
  simp only [Bool.or_eq_false_iff, decide_eq_false_iff_not, List.any_eq_false, decide_eq_true_eq] at h
  obtain ⟨⟨⟨⟨⟨h1, h2⟩, h3⟩, h4⟩, h5⟩, h6⟩ := h
  exact ⟨⟨by omega, by omega⟩, by omega, by omega, fun z hz => ⟨by have := h5 z hz; omega, by have := h6 z hz; omega⟩⟩
theorem layM_ok {m : Ms} {T : ByteArray} (h : layM m = (T, 0)) : m.bad = false ∧ (∀ x ∈ m.es, (layE x).2 = 0) ∧ T = sealB (bs m.body) := by
  unfold layM at h
  split at h
  · have h2 : (1 : Int) = 0 := congrArg (fun x => x.2) h
    exact absurd h2 (by decide)
  · rename_i hn
    simp only [Bool.or_eq_true, not_or, Bool.not_eq_true, Bool.not_eq_false'] at hn
    exact ⟨hn.1, entsOk_iff.1 hn.2, (congrArg (fun x => x.1) h).symm⟩
theorem pre_same {P Q r s : List UInt8} (h : P ++ r <+: Q ++ s) (hl : P.length = Q.length) : P = Q ∧ r <+: s := by
  obtain ⟨t, ht⟩ := h
  rw [List.append_assoc] at ht
  obtain ⟨h1, h2⟩ := List.append_inj ht hl
  exact ⟨h1, t, h2⟩
theorem lowB_inj2 {a b n : Nat} (ha : a < 256 ^ n) (hb : b < 256 ^ n) (h : lowB a n = lowB b n) : a = b := by
  rw [← num_lowB_lt ha, ← num_lowB_lt hb, h]
theorem text_pre {t u : ByteArray} {r s : List UInt8} (h : textB t ++ r <+: textB u ++ s) (ht : t.size < 65536) (hu : u.size < 65536) : t.size = u.size ∧ r <+: s := by
  unfold textB at h
  rw [List.append_assoc, List.append_assoc] at h
  obtain ⟨h1, h2⟩ := pre_same h (by rw [lowB_len, lowB_len])
  have e := lowB_inj2 (n := 2) (by omega) (by omega) h1
  exact ⟨e, (pre_same h2 (by rw [bts_len, bts_len, e])).2⟩
theorem ents_pre {l k : List En} {r s : List UInt8} (hl : l.length = k.length) (ho : ∀ x ∈ l, (layE x).2 = 0) (hk : ∀ x ∈ k, (layE x).2 = 0) (h : entsB l ++ r <+: entsB k ++ s) : (entsB l).length = (entsB k).length ∧ r <+: s := by
  induction l generalizing k with
  | nil =>
    cases k with
    | nil => exact ⟨rfl, h⟩
    | cons y ys => cases hl
  | cons x xs ih =>
    cases k with
    | nil => cases hl
    | cons y ys =>
      have e : ∀ (z : En) zs, entsB (z :: zs) = textB (layE z).1 ++ entsB zs := fun _ _ => rfl
      rw [e, e, List.append_assoc, List.append_assoc] at h
      have h1 := layE_size (ho x (by simp))
      have h2 := layE_size (hk y (by simp))
      obtain ⟨h3, h4⟩ := text_pre h (by omega) (by omega)
      obtain ⟨h5, h6⟩ := ih (by simpa using hl) (fun z hz => ho z (by simp [hz])) (fun z hz => hk z (by simp [hz])) h4
      refine ⟨?_, h6⟩
      rw [e, e, List.length_append, List.length_append, textB_len, textB_len, h3, h5]
theorem body_pre {m n : Ms} (hm : m.bad = false) (hn : n.bad = false) (ho : ∀ x ∈ m.es, (layE x).2 = 0) (hk : ∀ x ∈ n.es, (layE x).2 = 0) (h : m.body <+: n.body) : m.body.length = n.body.length := by
  obtain ⟨g1, g2, g3, g4⟩ := Ms.good hm
  obtain ⟨k1, k2, k3, k4⟩ := Ms.good hn
  unfold Ms.body headM at h ⊢
  have et : ∀ t : ByteArray, lowB t.size 2 ++ bts t = textB t := fun _ => rfl
  simp only [et, List.append_assoc] at h
  have e0 : m.nums.length = 5 := rfl
  have e1 : n.nums.length = 5 := rfl
  obtain ⟨_, h⟩ := pre_same h (by rw [lowB_len, lowB_len])
  obtain ⟨_, h⟩ := pre_same h (by rw [numsB_len, numsB_len, List.length_map, List.length_map, e0, e1])
  obtain ⟨_, h⟩ := pre_same h (by rw [lowB_len, lowB_len])
  obtain ⟨hs, h⟩ := text_pre h (by omega) (by omega)
  obtain ⟨hc, h⟩ := pre_same h (by rw [lowB_len, lowB_len])
  have hl := lowB_inj2 (n := 1) (by omega) (by omega) hc
  have h' : entsB m.es ++ [] <+: entsB n.es ++ [] := by simpa using h
  have he := (ents_pre hl ho hk h').1
  simp only [List.length_append, lowB_len, numsB_len, List.length_map, e0, e1, bts_len, hs, he]
/-- No message's bytes are the first part of another's. -/
theorem layM_pre {m n : Ms} {T U : ByteArray} {j : Nat} (hm : layM m = (T, 0)) (hn : layM n = (U, 0)) (h : bts T = (bts U).take j) : T.size = U.size := by
  obtain ⟨g1, g2, rfl⟩ := layM_ok hm
  obtain ⟨k1, k2, rfl⟩ := layM_ok hn
  have hb : ∀ b : List UInt8, bts (sealB (bs b)) = b ++ lowB (crc b) 4 := fun b => rfl
  rw [hb, hb] at h
  have hp : m.body <+: n.body ++ lowB (crc n.body) 4 := by
    refine List.IsPrefix.trans ⟨lowB (crc m.body) 4, h⟩ (List.take_prefix _ _)
  have hl : m.body.length ≤ n.body.length := by
    have := congrArg List.length h
    rw [List.length_append, List.length_take, List.length_append, lowB_len, lowB_len] at this
    omega
  have h2 : m.body <+: n.body := List.prefix_of_prefix_length_le hp (List.prefix_append _ _) hl
  have := body_pre g1 k1 g2 k2 h2
  rw [sealB_size, sealB_size, bs_size, bs_size, this]
end Go.Proofs.YtgigkekajdgngaaGreat
