/-
  Plain facts for the law HistJoins: lists of terms as logs, what a join does to them. No program in them.
-/
import Derived.Test.YtdhohaeopfgbmaaOne
import Derived.Test.YtdhohaeopfgbmaaHistTrim
import Derived.Test.YtdhohaeopfgbmaaHistJoinS
namespace Go.Proofs.Ytdhohaeopfgbmaa
open Go Go.RowKit

/-- Entries of these terms behind an index. -/
def mkE (i : Int) : List Int → List Ent
  | [] => []
  | t :: ts => ⟨i + 1, t, 0, 0, .slice none 0 0⟩ :: mkE (i + 1) ts
theorem mkE_len (i : Int) (ts : List Int) : (mkE i ts).length = ts.length := by
  induction ts generalizing i with
  | nil => rfl
  | cons t ts ih => simp [mkE, ih]
theorem mkE_app (i : Int) (a b : List Int) : mkE i (a ++ b) = mkE i a ++ mkE (i + a.length) b := by
  induction a generalizing i with
  | nil => simp [mkE]
  | cons t ts ih => simp [mkE, ih, show i + 1 + (ts.length : Int) = i + (ts.length + 1) by omega]
theorem mkE_at (i : Int) (ts : List Int) (k : Nat) : (mkE i ts)[k]? = (ts[k]?).map fun t => ⟨i + k + 1, t, 0, 0, .slice none 0 0⟩ := by
  induction ts generalizing i k with
  | nil => simp [mkE]
  | cons t ts ih =>
    cases k with
    | zero => simp [mkE]
    | succ k => simp [mkE, ih, show i + 1 + (k : Int) = i + (k + 1) by omega]
theorem mkE_drop (i : Int) (ts : List Int) (k : Nat) (hk : k ≤ ts.length) : (mkE i ts).drop k = mkE (i + k) (ts.drop k) := by
  have h := mkE_app i (ts.take k) (ts.drop k)
  rw [List.take_append_drop, List.length_take, Nat.min_eq_left hk] at h
  rw [h, List.drop_left' (by rw [mkE_len, List.length_take]; omega)]
theorem mkE_take (i : Int) (ts : List Int) (k : Nat) : (mkE i ts).take k = mkE i (ts.take k) := by
  induction ts generalizing i k with
  | nil => simp [mkE]
  | cons t ts ih =>
    cases k with
    | zero => simp [mkE]
    | succ k => simp [mkE, ih]
theorem mkE_nil (i : Int) (ts : List Int) : ∀ e ∈ mkE i ts, e.cmds = .slice none 0 0 := by
  induction ts generalizing i with
  | nil => simp [mkE]
  | cons t ts ih => intro e he; simp [mkE] at he; rcases he with rfl | he; rfl; exact ih _ e he
/-- The term behind k of them. -/
def tmOf (t : Int) (ts : List Int) (k : Nat) : Int := if k = 0 then t else ts.getD (k - 1) 0
theorem tmOf_zero (t : Int) (ts : List Int) : tmOf t ts 0 = t := rfl
theorem tmOf_succ (t : Int) (ts : List Int) (k : Nat) (x : Int) (h : ts[k]? = some x) : tmOf t ts (k + 1) = x := by
  unfold tmOf; rw [if_neg (by omega), Nat.add_sub_cancel, List.getD_eq_getElem?_getD, h]; rfl
/-- Terms do not fall. -/
def Up (t : Int) (ts : List Int) : Prop := ∀ k x, ts[k]? = some x → tmOf t ts k ≤ x
theorem rises_mk (i t : Int) (ts : List Int) (hu : Up t ts) : Rises i (tmOf t ts) (mkE i ts) := by
  refine ⟨fun k e he => ?_, fun k e he => ?_, fun k e he => ?_, fun k e he => ?_⟩
  all_goals
    rw [mkE_at] at he
    cases hx : ts[k]? with
    | none => rw [hx] at he; cases he
    | some x =>
      rw [hx] at he; simp at he; subst he
      first
        | rfl
        | exact hu k x hx
        | exact tmOf_succ t ts k x hx
theorem tmOf_drop (t : Int) (ts : List Int) (p k : Nat) (_hp : p ≤ ts.length) (h : p + k ≤ ts.length) : tmOf (tmOf t ts p) (ts.drop p) k = tmOf t ts (p + k) := by
  unfold tmOf
  by_cases hk : k = 0
  · subst hk; simp
  · rw [if_neg hk, if_neg (by omega), List.getD_eq_getElem?_getD, List.getD_eq_getElem?_getD, List.getElem?_drop, show p + (k - 1) = p + k - 1 by omega]
theorem Up.drop {t : Int} {ts : List Int} (h : Up t ts) (p : Nat) (hp : p ≤ ts.length) : Up (tmOf t ts p) (ts.drop p) := fun k x hx => by
  rw [List.getElem?_drop] at hx
  have hl := (List.getElem?_eq_some_iff.1 hx).1
  rw [tmOf_drop t ts p k hp (by omega)]
  exact h _ x hx
theorem tmOf_take (t : Int) (ts : List Int) (p k : Nat) (h : k ≤ p) : tmOf t (ts.take p) k = tmOf t ts k := by
  unfold tmOf
  by_cases hk : k = 0
  · simp [hk]
  · rw [if_neg hk, if_neg hk, List.getD_eq_getElem?_getD, List.getD_eq_getElem?_getD, List.getElem?_take, if_pos (by omega)]
theorem Up.take {t : Int} {ts : List Int} (h : Up t ts) (p : Nat) : Up t (ts.take p) := fun k x hx => by
  have hl := (List.getElem?_eq_some_iff.1 hx).1
  rw [List.length_take] at hl
  rw [tmOf_take t ts p k (by omega)]
  rw [List.getElem?_take, if_pos (by omega)] at hx
  exact h k x hx
theorem Up.snoc {t : Int} {ts : List Int} (h : Up t ts) (x : Int) (hx : tmOf t ts ts.length ≤ x) : Up t (ts ++ [x]) := fun k y hy => by
  have e : ∀ j, j ≤ ts.length → tmOf t (ts ++ [x]) j = tmOf t ts j := fun j hj => by
    have := tmOf_take t (ts ++ [x]) ts.length j hj
    rw [List.take_left] at this; exact this.symm
  have hl := (List.getElem?_eq_some_iff.1 hy).1
  simp at hl
  rw [e k (by omega)]
  by_cases hk : k < ts.length
  · rw [List.getElem?_append_left hk] at hy; exact h k y hy
  · obtain rfl : k = ts.length := by omega
    simp at hy; subst hy; exact hx
theorem tmOf_snoc (t : Int) (ts : List Int) (x : Int) : tmOf t (ts ++ [x]) (ts ++ [x]).length = x := by
  rw [List.length_append]; exact tmOf_succ _ _ _ _ (by simp)
theorem tmOf_end (t : Int) (ts : List Int) (i : Int) : lastT t (mkE i ts) = tmOf t ts ts.length := by
  unfold lastT
  rw [List.getLast?_eq_getElem?, mkE_len, mkE_at]
  by_cases h : ts.length = 0
  · have : ts = [] := by simpa using h
    subst this; rfl
  · have hl : ts.length - 1 < ts.length := by omega
    rw [List.getElem?_eq_getElem hl]
    unfold tmOf
    rw [if_neg h, List.getD_eq_getElem?_getD, List.getElem?_eq_getElem hl]; rfl
/-- The term of an index. -/
theorem termE_mk (ts : List Int) (k : Nat) : termE 0 0 (mkE 0 ts) k = if k ≤ ts.length then some (tmOf 0 ts k) else none := by
  unfold termE
  rw [mkE_len]
  by_cases h : k ≤ ts.length
  · rw [if_neg (by omega), if_pos h]
    by_cases h0 : k = 0
    · subst h0; rfl
    · rw [if_neg (by omega), mkE_at, show ((k : Int) - 0 - 1).toNat = k - 1 by omega, List.getElem?_eq_getElem (by omega)]
      unfold tmOf
      rw [if_neg h0, List.getD_eq_getElem?_getD, List.getElem?_eq_getElem (by omega)]; rfl
  · rw [if_pos (by omega), if_neg h]
theorem termE_succ (ts : List Int) (k : Nat) : termE 0 0 (mkE 0 ts) ((k : Int) + 1) = ts[k]? := by
  have h := termE_mk ts (k + 1)
  rw [show ((k + 1 : Nat) : Int) = (k : Int) + 1 by omega] at h
  rw [h]
  by_cases hk : k < ts.length
  · rw [if_pos (by omega), List.getElem?_eq_getElem hk, tmOf_succ 0 ts k ts[k] (List.getElem?_eq_getElem hk)]
  · rw [if_neg (by omega), List.getElem?_eq_none (by omega)]

/-- Logs that begin alike and then never are: what one of them has become. -/
def St (xs ss bs ys : List Int) (p : Nat) : Prop := p ≤ xs.length ∧ ((ys = ss ++ bs ∧ p ≤ ss.length) ∨ ys = xs.take p)
theorem St.agree {xs ss as_ bs ys : List Int} {p : Nat} (h : St xs ss bs ys p) (hx : xs = ss ++ as_) (k : Nat) (hk : k < p) : ys[k]? = xs[k]? := by
  rcases h.2 with ⟨rfl, h2⟩ | rfl
  · subst hx; rw [List.getElem?_append_left (by omega), List.getElem?_append_left (by omega)]
  · rw [List.getElem?_take, if_pos hk]
theorem St.len {xs ss as_ bs ys : List Int} {p : Nat} (h : St xs ss bs ys p) (_hx : xs = ss ++ as_) : p ≤ ys.length := by
  have := h.1
  rcases h.2 with ⟨rfl, h2⟩ | rfl
  · simp; omega
  · simp; omega
/-- What a join finds, and what comes of it: K of the n new ones are there. -/
theorem join_plain {xs ss as_ bs ys : List Int} {p n K : Nat} (hx : xs = ss ++ as_) (hd : ∀ (i j : Nat) (a b : Int), as_[i]? = some a → bs[j]? = some b → a ≠ b) (h : St xs ss bs ys p) (hn : p + n ≤ xs.length) (hK : K ≤ n)
    (hs : ∀ j, j < K → ys[p + j]? = xs[p + j]?) (hne : K < n → ys[p + K]? ≠ xs[p + K]?) :
    (K = n ∧ St xs ss bs ys (p + n)) ∨
    (K < n ∧ ys[p + K]? = none ∧ ys.length = p + K ∧ ys = xs.take (p + K) ∧ St xs ss bs (ys ++ (xs.drop (p + K)).take (n - K)) (p + n)) ∨
    (K < n ∧ (ys[p + K]?).isSome = true ∧ p + K < ys.length ∧ ys.take (p + K) = xs.take (p + K) ∧ St xs ss bs (ys.take (p + K) ++ (xs.drop (p + K)).take (n - K)) (p + n)) := by
  have hlen := h.len hx
  have hall : ∀ k, k < p + K → ys[k]? = xs[k]? := fun k hk => by
    by_cases hk2 : k < p
    · exact h.agree hx k hk2
    · have := hs (k - p) (by omega)
      rwa [show p + (k - p) = k by omega] at this
  have hylen : p + K ≤ ys.length := by
    by_cases h0 : K = 0
    · omega
    · have := hs (K - 1) (by omega)
      rw [List.getElem?_eq_getElem (l := xs) (by omega)] at this
      have := (List.getElem?_eq_some_iff.1 this).1
      omega
  have htake : ys.take (p + K) = xs.take (p + K) := by
    apply List.ext_getElem?
    intro k
    rw [List.getElem?_take, List.getElem?_take]
    by_cases hk : k < p + K
    · rw [if_pos hk, if_pos hk]; exact hall k hk
    · rw [if_neg hk, if_neg hk]
  have hcat : xs.take (p + K) ++ (xs.drop (p + K)).take (n - K) = xs.take (p + K + (n - K)) := List.take_add.symm
  have hfin : K < n → St xs ss bs (ys.take (p + K) ++ (xs.drop (p + K)).take (n - K)) (p + n) := fun hk => by
    refine ⟨hn, .inr ?_⟩
    rw [htake, hcat, show p + K + (n - K) = p + n by omega]
  by_cases hk : K = n
  · left
    refine ⟨hk, hn, ?_⟩
    subst hk
    rcases h.2 with ⟨rfl, h2⟩ | h2
    · by_cases hss : p + K ≤ ss.length
      · exact .inl ⟨rfl, hss⟩
      · exfalso
        have e := hall ss.length (by omega)
        have hl : ss.length < (ss ++ bs).length := by omega
        subst hx
        simp at hl hn
        rw [List.getElem?_append_right (Nat.le_refl _), List.getElem?_append_right (Nat.le_refl _), Nat.sub_self, List.getElem?_eq_getElem (by omega), List.getElem?_eq_getElem (by omega)] at e
        injection e with e
        exact hd 0 0 _ _ (List.getElem?_eq_getElem (by omega)) (List.getElem?_eq_getElem (by omega)) e.symm
    · right
      have : K = 0 := by rw [h2, List.length_take] at hylen; omega
      subst this; exact h2
  · right
    have hlt : K < n := by omega
    cases hy : ys[p + K]? with
    | none =>
      left
      have hyl : ys.length = p + K := by rw [List.getElem?_eq_none_iff] at hy; omega
      have hyt : ys = xs.take (p + K) := by rw [← htake, List.take_of_length_le (by omega)]
      refine ⟨hlt, rfl, hyl, hyt, ?_⟩
      have := hfin hlt
      rwa [List.take_of_length_le (by omega : ys.length ≤ p + K)] at this
    | some y =>
      right
      exact ⟨hlt, rfl, (List.getElem?_eq_some_iff.1 hy).1, htake, hfin hlt⟩
/-- In the beginning: where both have a term that is the same one, they have agreed. -/
theorem St.begin {xs ss as_ bs : List Int} {p : Nat} (hx : xs = ss ++ as_) (hd : ∀ (i j : Nat) (a b : Int), as_[i]? = some a → bs[j]? = some b → a ≠ b) (hp : p ≤ xs.length) (hq : p ≤ (ss ++ bs).length) (he : tmOf 0 (ss ++ bs) p = tmOf 0 xs p) : St xs ss bs (ss ++ bs) p := by
  refine ⟨hp, .inl ⟨rfl, ?_⟩⟩
  apply Nat.le_of_not_lt
  intro hlt
  subst hx
  simp at hp hq
  have h1 : (ss ++ bs)[p - 1]? = bs[p - 1 - ss.length]? := List.getElem?_append_right (by omega)
  have h2 : (ss ++ as_)[p - 1]? = as_[p - 1 - ss.length]? := List.getElem?_append_right (by omega)
  rw [List.getElem?_eq_getElem (l := ss ++ bs) (by simp; omega), List.getElem?_eq_getElem (l := bs) (by omega)] at h1
  rw [List.getElem?_eq_getElem (l := ss ++ as_) (by simp; omega), List.getElem?_eq_getElem (l := as_) (by omega)] at h2
  unfold tmOf at he
  rw [if_neg (by omega), if_neg (by omega), List.getD_eq_getElem?_getD, List.getD_eq_getElem?_getD, List.getElem?_eq_getElem (by simp; omega), List.getElem?_eq_getElem (by simp; omega)] at he
  injection h1 with h1
  injection h2 with h2
  simp at he
  rw [h1, h2] at he
  exact hd _ _ _ _ (List.getElem?_eq_getElem _) (List.getElem?_eq_getElem _) he.symm
theorem St.ends {xs ss as_ bs ys : List Int} (hx : xs = ss ++ as_) (h : St xs ss bs ys xs.length) (k : Nat) (hk : k ≤ xs.length) : k ≤ ys.length ∧ tmOf 0 ys k = tmOf 0 xs k := by
  refine ⟨Nat.le_trans hk (h.len hx), ?_⟩
  unfold tmOf
  by_cases h0 : k = 0
  · simp [h0]
  · rw [if_neg h0, if_neg h0, List.getD_eq_getElem?_getD, List.getD_eq_getElem?_getD, h.agree hx _ (by omega)]
theorem St.ok {xs ss as_ bs ys : List Int} {p : Nat} (hx : xs = ss ++ as_) (h : St xs ss bs ys p) : p ≤ ys.length ∧ tmOf 0 ys p = tmOf 0 xs p := by
  refine ⟨h.len hx, ?_⟩
  unfold tmOf
  by_cases h0 : p = 0
  · simp [h0]
  · rw [if_neg h0, if_neg h0, List.getD_eq_getElem?_getD, List.getD_eq_getElem?_getD, h.agree hx _ (by omega)]
theorem St.len_le {xs ss bs ys : List Int} {p : Nat} (h : St xs ss bs ys p) : ys.length ≤ max xs.length (ss ++ bs).length := by
  rcases h.2 with ⟨rfl, _⟩ | rfl
  · omega
  · rw [List.length_take]; omega
theorem backE_ge (f : Int → Int) (t : Int) (n : Nat) : 0 ≤ backE f 0 t n ∧ backE f 0 t n ≤ n := by
  induction n with
  | zero => simp [backE]
  | succ n ih => unfold backE; split <;> omega
theorem backV_mk (ys : List Int) (p : Nat) (hp : 1 ≤ p) (t : Int) : ∃ q : Nat, backV 0 0 (mkE 0 ys) (min ((p : Int) - 1) ys.length) t = q ∧ q + 1 ≤ p := by
  unfold backV
  have h := backE_ge (fun j => (termE 0 0 (mkE 0 ys) j).getD 0) t (min (min ((p : Int) - 1) ys.length) (0 + (mkE 0 ys).length) - 0).toNat
  exact ⟨(backE (fun j => (termE 0 0 (mkE 0 ys) j).getD 0) 0 t (min (min ((p : Int) - 1) ys.length) (0 + (mkE 0 ys).length) - 0).toNat).toNat, by omega, by omega⟩
theorem mkE_snoc (ts : List Int) (t : Int) : mkE 0 (ts ++ [t]) = mkE 0 ts ++ [⟨0 + (mkE 0 ts).length + 1, t, 0, 0, .slice none 0 0⟩] := by
  rw [mkE_app, mkE_len]; rfl
theorem mkE_one (i : Int) (ts : List Int) : ∀ e ∈ mkE i ts, e.cmds.oneCell' = true := fun e he => by rw [mkE_nil i ts e he]; rfl
theorem sliceE_mk (xs : List Int) (p : Nat) (m : Int) (hp : p ≤ xs.length) : sliceE 0 (mkE 0 xs) ((p : Int) + 1) m = mkE p ((xs.drop p).take m.toNat) := by
  unfold sliceE
  rw [mkE_len]
  by_cases h : p < xs.length
  · rw [if_neg (by omega), show ((p : Int) + 1 - 0 - 1).toNat = p by omega, mkE_drop 0 xs p hp, mkE_take, Int.zero_add]
  · rw [if_pos (by omega), List.drop_of_length_le (by omega), List.take_nil]; rfl
theorem take_len (xs : List Int) (p nb n : Nat) (h : ((xs.drop p).take nb).length = n) : (xs.drop p).take nb = (xs.drop p).take n := by
  rw [List.length_take, List.length_drop] at h
  by_cases h1 : nb ≤ xs.length - p
  · rw [Nat.min_eq_left h1] at h; rw [h]
  · rw [Nat.min_eq_right (by omega)] at h
    rw [List.take_of_length_le (by rw [List.length_drop]; omega), List.take_of_length_le (by rw [List.length_drop]; omega)]
theorem hasB_mk (ys : List Int) (p : Nat) (t : Int) : hasB 0 0 (mkE 0 ys) p t = decide (p ≤ ys.length ∧ tmOf 0 ys p = t) := by
  unfold hasB
  rw [termE_mk]
  by_cases h : p ≤ ys.length
  · rw [if_pos h]
    have : ¬ ((p : Int) < 0) := by omega
    simp [h, this]
  · rw [if_neg h]
    have : ¬ ((p : Int) < 0) := by omega
    simp [h, this]
/-- What a join found, in plain words. -/
theorem joined {xs ss as_ bs ys : List Int} {p n K : Nat} {cut : Int} (hx : xs = ss ++ as_) (hd : ∀ (i j : Nat) (a b : Int), as_[i]? = some a → bs[j]? = some b → a ≠ b) (h : St xs ss bs ys p) (hn : p + n ≤ xs.length) (hK : K ≤ n)
    (hs : ∀ j x, j < K → (mkE p ((xs.drop p).take n))[j]? = some x → skipE 0 0 (mkE 0 ys) x = true)
    (hc : K = n ∧ cut = 0 ∨ ∃ x, (mkE p ((xs.drop p).take n))[K]? = some x ∧ skipE 0 0 (mkE 0 ys) x = false ∧ cut = if (termE 0 0 (mkE 0 ys) x.index).isSome then x.index else 0) :
    (K = n ∧ cut = 0 ∧ St xs ss bs ys (p + n)) ∨
    (K < n ∧ ∃ ys', ys'.length = p + K ∧ ys' = xs.take (p + K) ∧ St xs ss bs (ys' ++ (xs.drop (p + K)).take (n - K)) (p + n) ∧
      (cut = 0 ∧ ys' = ys ∨ cut = (p : Int) + K + 1 ∧ p + K < ys.length ∧ ys' = ys.take (p + K))) := by
  have hat : ∀ j, j < n → (mkE p ((xs.drop p).take n))[j]? = (xs[p + j]?).map fun t => ⟨(p : Int) + j + 1, t, 0, 0, .slice none 0 0⟩ := fun j hj => by
    rw [mkE_at, List.getElem?_take, if_pos hj, List.getElem?_drop]
  have hsk : ∀ (j : Nat) (t : Int), skipE 0 0 (mkE 0 ys) ⟨(p : Int) + j + 1, t, 0, 0, .slice none 0 0⟩ = decide (ys[p + j]? = some t) := fun j t => by
    unfold skipE
    have e := termE_succ ys (p + j)
    rw [show ((p + j : Nat) : Int) + 1 = (p : Int) + j + 1 by omega] at e
    rw [e]
    have : ¬ ((p : Int) + j + 1 ≤ 0) := by omega
    simp [this]
  have hs' : ∀ j, j < K → ys[p + j]? = xs[p + j]? := fun j hj => by
    have hl : p + j < xs.length := by omega
    have := hs j _ hj (by rw [hat j (by omega), List.getElem?_eq_getElem hl]; rfl)
    rw [hsk] at this
    rw [List.getElem?_eq_getElem hl]; simpa using this
  have hne : K < n → ys[p + K]? ≠ xs[p + K]? ∧ cut = if (ys[p + K]?).isSome then (p : Int) + K + 1 else 0 := fun hlt => by
    rcases hc with ⟨h1, _⟩ | ⟨x, h1, h2, h3⟩
    · omega
    · have hl : p + K < xs.length := by omega
      rw [hat K hlt, List.getElem?_eq_getElem hl] at h1
      simp at h1
      subst h1
      rw [hsk] at h2
      have e := termE_succ ys (p + K)
      rw [show ((p + K : Nat) : Int) + 1 = (p : Int) + K + 1 by omega] at e
      rw [List.getElem?_eq_getElem hl]
      refine ⟨by simpa using h2, ?_⟩
      rw [h3, e]
  rcases join_plain hx hd h hn hK hs' (fun h => (hne h).1) with ⟨a, b⟩ | ⟨a, b, c, d, f⟩ | ⟨a, b, c, d, f⟩
  · left
    refine ⟨a, ?_, b⟩
    rcases hc with ⟨_, h2⟩ | ⟨x, h1, _⟩
    · exact h2
    · have := (List.getElem?_eq_some_iff.1 h1).1
      rw [mkE_len, List.length_take] at this; omega
  · right
    refine ⟨a, ys, c, d, f, .inl ⟨?_, rfl⟩⟩
    rw [(hne a).2, b]; rfl
  · right
    refine ⟨a, ys.take (p + K), by rw [List.length_take]; omega, d, f, .inr ⟨?_, c, rfl⟩⟩
    rw [(hne a).2, b]; rfl
/-- What is appended follows. -/
theorem rises_cut {xs ys' : List Int} {q m : Nat} (hu : Up 0 xs) (hq : q ≤ xs.length) (hy : ys' = xs.take q) (hl : ys'.length = q) :
    Rises (0 + (mkE 0 ys').length) (tmOf (tmOf 0 xs q) ((xs.drop q).take m)) (mkE q ((xs.drop q).take m)) ∧ tmOf (tmOf 0 xs q) ((xs.drop q).take m) 0 = lastT 0 (mkE 0 ys') ∧ mkE 0 ys' ++ mkE q ((xs.drop q).take m) = mkE 0 (ys' ++ (xs.drop q).take m) := by
  refine ⟨?_, ?_, ?_⟩
  · rw [mkE_len, hl, Int.zero_add]
    exact rises_mk _ _ _ ((hu.drop q hq).take m)
  · rw [tmOf_zero, tmOf_end, hl, hy, tmOf_take _ _ _ _ (Nat.le_refl _)]
  · rw [mkE_app, hl, Int.zero_add]
end Go.Proofs.Ytdhohaeopfgbmaa
