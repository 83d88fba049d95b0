/-
  The free pages in plain words: what is taken, given, released, told. No program in them.
-/
import Derived.Test.YtfgihfhpnhedkaaSortP
namespace Go.Proofs.Ytfgihfhpnhedkaa
open Go Go.RowKit

/-- A list of free pages: how many pages, those that are free, those that are pending (for whom, which). -/
structure Fs where
  pages : Int
  fr : List Int
  pd : List (Int × Int)
def idsP (pd : List (Int × Int)) : List Int := pd.map (·.2)
structure Fs.ok (s : Fs) : Prop where
  p0 : 2 ≤ s.pages
  p1 : s.pages ≤ 4000
  up : s.fr.Pairwise (· < ·)
  rg : ∀ x ∈ s.fr, 2 ≤ x ∧ x < s.pages
  nd : (idsP s.pd).Nodup
  rp : ∀ x ∈ idsP s.pd, 2 ≤ x ∧ x < s.pages
  ap : ∀ x ∈ idsP s.pd, x ∉ s.fr
/-- How many distinct numbers lie in a range. -/
theorem nodup_len : ∀ (n : Nat) (l : List Int), l.Nodup → (∀ x ∈ l, 0 ≤ x ∧ x < (n : Int)) → l.length ≤ n := by
  intro n
  induction n with
  | zero =>
    intro l _ h
    cases l with
    | nil => simp
    | cons x l => have := h x (by simp); omega
  | succ n ih =>
    intro l hn h
    have h1 := ih (l.filter fun x => !(x == (n : Int))) (hn.filter _) (fun x hx => by
      simp at hx
      have := h x hx.1
      omega)
    have h2 : l.countP (fun x => x == (n : Int)) ≤ 1 := by
      have : ∀ l : List Int, l.Nodup → l.countP (fun x => x == (n : Int)) ≤ 1 := by
        intro l
        induction l with
        | nil => simp
        | cons x l ih =>
          intro hn
          rw [List.nodup_cons] at hn
          by_cases e : x = (n : Int)
          · subst e
            rw [List.countP_cons_of_pos (by simp)]
            have : l.countP (fun y => y == (n : Int)) = 0 := by
              rw [List.countP_eq_zero]
              intro y hy e2
              simp at e2
              subst e2
              exact hn.1 hy
            omega
          · rw [List.countP_cons_of_neg (by simp [e])]
            exact ih hn.2
      exact this l hn
    have h3 := List.length_eq_countP_add_countP (fun x => x == (n : Int)) (l := l)
    have h4 : l.countP (fun a => decide ¬(a == (n : Int)) = true) = (l.filter fun x => !(x == (n : Int))).length := by
      rw [List.countP_eq_length_filter]
      congr 1
      refine List.filter_congr fun x _ => ?_
      cases hx : (x == (n : Int)) <;> simp [hx]
    omega
theorem Fs.ok.len {s : Fs} (h : s.ok) : s.fr.length ≤ 4000 ∧ s.pd.length ≤ 4000 ∧ s.fr.length + s.pd.length ≤ 4000 := by
  have hall : (s.fr ++ idsP s.pd).Nodup := by
    rw [List.nodup_append]
    exact ⟨rise_nodup h.up, h.nd, fun a ha b hb e => by subst e; exact h.ap a hb ha⟩
  have h1 := nodup_len s.pages.toNat _ hall (fun x hx => by
    have := h.p0
    rcases List.mem_append.1 hx with hx | hx
    · have := h.rg x hx; omega
    · have := h.rp x hx; omega)
  rw [List.length_append, show (idsP s.pd).length = s.pd.length by unfold idsP; simp] at h1
  have := h.p1
  omega

/-- Is there a run of so many from this place on? -/
def runAt (l : List Int) (n i : Nat) : Bool := match l[i]?, l[i + n - 1]? with
  | some a, some b => b == a + (n : Int) - 1
  | _, _ => false
/-- The place of the first run of so many. -/
def runV (l : List Int) (n : Nat) : Option Nat := (List.range l.length).find? (runAt l n)
theorem runAt_iff {l : List Int} {n i : Nat} : runAt l n i = true ↔ ∃ a b, l[i]? = some a ∧ l[i + n - 1]? = some b ∧ b = a + (n : Int) - 1 := by
  unfold runAt
  constructor
  · intro h
    split at h
    · rename_i a b ha hb
      exact ⟨a, b, ha, hb, by simpa using h⟩
    · cases h
  · rintro ⟨a, b, ha, hb, rfl⟩
    rw [ha, hb]; simp
theorem runV_some {l : List Int} {n i : Nat} (h : runV l n = some i) : i < l.length ∧ runAt l n i = true ∧ ∀ j, j < i → runAt l n j = false := by
  unfold runV at h
  rw [List.find?_range_eq_some] at h
  obtain ⟨h1, h2, h3⟩ := h
  exact ⟨by simpa using h2, h1, fun j hj => by simpa using h3 j hj⟩
theorem runV_none {l : List Int} {n : Nat} (h : runV l n = none) : ∀ i, runAt l n i = false := fun i => by
  cases hr : runAt l n i with
  | false => rfl
  | true =>
    obtain ⟨a, b, ha, _⟩ := runAt_iff.1 hr
    have hi := (List.getElem?_eq_some_iff.1 ha).1
    unfold runV at h
    rw [List.find?_eq_none] at h
    exact absurd hr (h i (by simpa using hi))
theorem runV_of {l : List Int} {n i : Nat} (h1 : runAt l n i = true) (h2 : ∀ j, j < i → runAt l n j = false) : runV l n = some i := by
  obtain ⟨a, b, ha, _⟩ := runAt_iff.1 h1
  have hi := (List.getElem?_eq_some_iff.1 ha).1
  unfold runV
  rw [List.find?_range_eq_some]
  exact ⟨h1, by simpa using hi, fun j hj => by simpa using h2 j hj⟩
theorem runV_not {l : List Int} {n : Nat} (h : ∀ i, i < l.length → runAt l n i = false) : runV l n = none := by
  unfold runV
  rw [List.find?_eq_none]
  intro i hi
  rw [h i (by simpa using hi)]
  simp
/-- Within a run all lie. -/
theorem run_mem {l : List Int} (hu : l.Pairwise (· < ·)) {n i : Nat} (hn : 0 < n) {a : Int} (ha : l[i]? = some a) (hr : runAt l n i = true) {j : Nat} (hj : j < n) : l[i + j]? = some (a + (j : Int)) := by
  obtain ⟨a', b, ha', hb, rfl⟩ := runAt_iff.1 hr
  obtain rfl : a = a' := Option.some.inj (ha.symm.trans ha')
  have hl : i + j < l.length := by have := (List.getElem?_eq_some_iff.1 hb).1; omega
  have hx := List.getElem?_eq_getElem hl
  have h1 := rise_gap hu ha hx (by omega)
  have h2 := rise_gap hu hx hb (by omega)
  rw [hx]
  congr 1
  omega
theorem run_of_mem {l : List Int} (hu : l.Pairwise (· < ·)) {n i : Nat} (hn : 0 < n) {a : Int} (ha : l[i]? = some a) (h : ∀ j : Nat, j < n → a + (j : Int) ∈ l) : runAt l n i = true := by
  have key : ∀ j : Nat, j < n → l[i + j]? = some (a + (j : Int)) := by
    intro j
    induction j with
    | zero => intro _; simpa using ha
    | succ j ih =>
      intro hj
      have h1 := ih (by omega)
      obtain ⟨t, ht⟩ := List.mem_iff_getElem?.1 (h (j + 1) hj)
      have htl := (List.getElem?_eq_some_iff.1 ht).1
      have h2 : i + j < t := by
        rcases Nat.lt_or_ge (i + j) t with h | h
        · exact h
        · exfalso
          by_cases e : t = i + j
          · subst e; rw [h1] at ht; have := Option.some.inj ht; omega
          · have := rise_lt hu ht h1 (by omega); omega
      by_cases e : t = i + (j + 1)
      · rw [← e]; exact ht
      · exfalso
        have hl : i + (j + 1) < l.length := by omega
        have hx := List.getElem?_eq_getElem hl
        have h3 := rise_lt hu h1 hx (by omega)
        have h4 := rise_lt hu hx ht (by omega)
        omega
  refine runAt_iff.2 ⟨a, a + (n : Int) - 1, ha, ?_, rfl⟩
  have := key (n - 1) (by omega)
  rw [show i + n - 1 = i + (n - 1) by omega, this]
  congr 1
  omega
/-- Without a run. -/
theorem run_cut {l : List Int} (hu : l.Pairwise (· < ·)) {n i : Nat} (hn : 0 < n) {a : Int} (ha : l[i]? = some a) (hr : runAt l n i = true) :
    (l.filter fun x => !(decide (a ≤ x) && decide (x < a + (n : Int)))) = l.take i ++ l.drop (i + n) := by
  have hln : i + n ≤ l.length := by
    obtain ⟨_, b, _, hb, _⟩ := runAt_iff.1 hr
    have := (List.getElem?_eq_some_iff.1 hb).1
    omega
  have h1 : ∀ x ∈ l.take i, x < a := fun x hx => by
    obtain ⟨j, hj⟩ := List.mem_iff_getElem?.1 hx
    have hjl := (List.getElem?_eq_some_iff.1 hj).1
    rw [List.length_take] at hjl
    rw [List.getElem?_take, if_pos (by omega)] at hj
    exact rise_lt hu hj ha (by omega)
  have h3 : ∀ x ∈ l.drop (i + n), a + (n : Int) ≤ x := fun x hx => by
    obtain ⟨j, hj⟩ := List.mem_iff_getElem?.1 hx
    rw [List.getElem?_drop] at hj
    have h := run_mem hu hn ha hr (j := n - 1) (by omega)
    have := rise_lt hu h hj (by omega)
    omega
  have h2 : ∀ x ∈ (l.drop i).take n, a ≤ x ∧ x < a + (n : Int) := fun x hx => by
    obtain ⟨j, hj⟩ := List.mem_iff_getElem?.1 hx
    have hjl := (List.getElem?_eq_some_iff.1 hj).1
    rw [List.length_take] at hjl
    rw [List.getElem?_take, if_pos (by omega), List.getElem?_drop, run_mem hu hn ha hr (by omega)] at hj
    have := Option.some.inj hj
    omega
  have hsplit : l = l.take i ++ ((l.drop i).take n ++ l.drop (i + n)) := by
    rw [← List.drop_drop, List.take_append_drop, List.take_append_drop]
  conv => lhs; rw [hsplit, List.filter_append, List.filter_append]
  congr 1
  · rw [List.filter_eq_self]
    intro x hx
    have := h1 x hx
    simp; omega
  · have e1 : ((l.drop i).take n).filter (fun x => !(decide (a ≤ x) && decide (x < a + (n : Int)))) = [] := by
      rw [List.filter_eq_nil_iff]
      intro x hx
      have := h2 x hx
      simp; omega
    rw [e1, List.nil_append, List.filter_eq_self]
    intro x hx
    have := h3 x hx
    simp; omega

/-- What Take does. -/
def takeS (s : Fs) (n : Int) : (Int × Int) × Fs :=
  if n < 1 ∨ 20 < n then ((0, 1), s) else match runV s.fr n.toNat with
    | some i => ((s.fr.getD i 0, 0), { s with fr := s.fr.take i ++ s.fr.drop (i + n.toNat) })
    | none => if 4000 < s.pages + n then ((0, 20), s) else ((s.pages, 0), { s with pages := s.pages + n })
theorem takeS_ok {s : Fs} (h : s.ok) (n : Int) : (takeS s n).2.ok := by
  unfold takeS
  split
  · exact h
  · rename_i hn
    split
    · rename_i i hi
      refine ⟨h.p0, h.p1, ?_, fun x hx => ?_, h.nd, h.rp, fun x hx hx2 => h.ap x hx ?_⟩
      · show (s.fr.take i ++ s.fr.drop (i + n.toNat)).Pairwise (· < ·)
        have : (s.fr.take i ++ s.fr.drop (i + n.toNat)).Sublist s.fr := by
          conv => rhs; rw [← List.take_append_drop i s.fr]
          refine List.Sublist.append (List.Sublist.refl _) ?_
          rw [← List.drop_drop]
          exact List.drop_sublist _ _
        exact h.up.sublist this
      · have hx' : x ∈ s.fr.take i ++ s.fr.drop (i + n.toNat) := hx
        rcases List.mem_append.1 hx' with hx | hx
        · exact h.rg x (List.mem_of_mem_take hx)
        · exact h.rg x (List.mem_of_mem_drop hx)
      · have hx' : x ∈ s.fr.take i ++ s.fr.drop (i + n.toNat) := hx2
        rcases List.mem_append.1 hx' with hx | hx
        · exact List.mem_of_mem_take hx
        · exact List.mem_of_mem_drop hx
    · split
      · exact h
      · rename_i hp
        exact ⟨by show 2 ≤ s.pages + n; have := h.p0; omega, by show s.pages + n ≤ 4000; omega, h.up, fun x hx => ⟨(h.rg x hx).1, by show x < s.pages + n; have := (h.rg x hx).2; omega⟩, h.nd, fun x hx => ⟨(h.rp x hx).1, by show x < s.pages + n; have := (h.rp x hx).2; omega⟩, h.ap⟩
/-- Is it free, or pending? -/
def hasS (s : Fs) (id : Int) : Bool := decide (id ∈ s.fr) || decide (id ∈ idsP s.pd)
/-- One more is given. -/
def give1 (tx : Int) (q : Fs × Nat) (id : Int) : Fs × Nat := if 2 ≤ id ∧ id < q.1.pages ∧ hasS q.1 id = false then ({ q.1 with pd := q.1.pd ++ [(tx, id)] }, q.2 + 1) else q
def giveS (s : Fs) (tx : Int) (ids : List Int) : Fs × Nat := ids.foldl (give1 tx) (s, 0)
theorem give1_ok {s : Fs} (h : s.ok) (tx : Int) (k : Nat) (id : Int) : (give1 tx (s, k) id).1.ok := by
  unfold give1
  split
  · rename_i hc
    obtain ⟨h1, h2, h3⟩ := hc
    unfold hasS at h3
    simp only [Bool.or_eq_false_iff, decide_eq_false_iff_not] at h3
    refine ⟨h.p0, h.p1, h.up, h.rg, ?_, fun x hx => ?_, fun x hx => ?_⟩
    · show (idsP (s.pd ++ [(tx, id)])).Nodup
      unfold idsP at h3 ⊢
      rw [List.map_append, List.nodup_append]
      exact ⟨h.nd, by simp, fun a ha b hb e => by simp at hb; subst hb; subst e; exact h3.2 ha⟩
    · have hx' : x ∈ idsP (s.pd ++ [(tx, id)]) := hx
      unfold idsP at hx'
      rw [List.map_append, List.mem_append] at hx'
      rcases hx' with hx' | hx'
      · exact h.rp x hx'
      · simp at hx'; subst hx'; exact ⟨h1, h2⟩
    · have hx' : x ∈ idsP (s.pd ++ [(tx, id)]) := hx
      unfold idsP at hx'
      rw [List.map_append, List.mem_append] at hx'
      rcases hx' with hx' | hx'
      · exact h.ap x hx'
      · simp at hx'; subst hx'; exact h3.1
  · exact h
theorem giveS_next (s : Fs) (tx : Int) (ids : List Int) (k : Nat) (id : Int) (h : ids[k]? = some id) : giveS s tx (ids.take (k + 1)) = give1 tx (giveS s tx (ids.take k)) id := by
  unfold giveS; rw [List.take_add_one, h, List.foldl_append]; rfl
theorem giveS_ok {s : Fs} (h : s.ok) (tx : Int) (ids : List Int) : (giveS s tx ids).1.ok := by
  unfold giveS
  have : ∀ (ids : List Int) (q : Fs × Nat), q.1.ok → (ids.foldl (give1 tx) q).1.ok := by
    intro ids
    induction ids with
    | nil => intro q hq; exact hq
    | cons x ids ih => intro q hq; exact ih _ (by obtain ⟨a, b⟩ := q; exact give1_ok hq tx b x)
  exact this ids _ h
/-- The ids that are pending for transactions that are so. -/
def outS (p : Int → Bool) (s : Fs) : List Int := idsP (s.pd.filter fun q => p q.1)
/-- What Release does. -/
def relS (s : Fs) (b : Int) : Fs × Nat := ({ s with fr := sortZ (s.fr ++ outS (fun t => decide (t < b)) s), pd := s.pd.filter fun q => !decide (q.1 < b) }, (outS (fun t => decide (t < b)) s).length)
def pendS (s : Fs) (tx : Int) : List Int := sortZ (outS (fun t => t == tx) s)
def allS (s : Fs) : List Int := sortZ (s.fr ++ idsP s.pd)
theorem outS_sub (p : Int → Bool) (s : Fs) : (outS p s).Sublist (idsP s.pd) := by unfold outS idsP; exact List.filter_sublist.map _
theorem all_nodup {s : Fs} (h : s.ok) (p : Int → Bool) : (s.fr ++ outS p s).Nodup := by
  rw [List.nodup_append]
  exact ⟨rise_nodup h.up, h.nd.sublist (outS_sub p s), fun a ha b hb e => by subst e; exact h.ap a ((outS_sub p s).subset hb) ha⟩
theorem relS_ok {s : Fs} (h : s.ok) (b : Int) : (relS s b).1.ok := by
  have hn := all_nodup h (fun t => decide (t < b))
  refine ⟨h.p0, h.p1, sortZ_rise hn, fun x hx => ?_, ?_, fun x hx => ?_, fun x hx hx2 => ?_⟩
  · have hx' : x ∈ sortZ (s.fr ++ outS (fun t => decide (t < b)) s) := hx
    rw [sortZ_mem, List.mem_append] at hx'
    rcases hx' with hx' | hx'
    · exact h.rg x hx'
    · exact h.rp x ((outS_sub _ s).subset hx')
  · exact h.nd.sublist (by show (idsP (s.pd.filter _)).Sublist (idsP s.pd); unfold idsP; exact List.filter_sublist.map _)
  · refine h.rp x ?_
    have hx' : x ∈ idsP (s.pd.filter fun q => !decide (q.1 < b)) := hx
    unfold idsP at hx' ⊢
    exact (List.filter_sublist.map _).subset hx'
  · have hx1 : x ∈ idsP (s.pd.filter fun q => !decide (q.1 < b)) := hx
    have hx' : x ∈ sortZ (s.fr ++ outS (fun t => decide (t < b)) s) := hx2
    rw [sortZ_mem, List.mem_append] at hx'
    have hxp : x ∈ idsP s.pd := by unfold idsP at hx1 ⊢; exact (List.filter_sublist.map _).subset hx1
    rcases hx' with hx' | hx'
    · exact h.ap x hxp hx'
    · unfold outS idsP at hx'
      unfold idsP at hx1
      rw [List.mem_map] at hx' hx1
      obtain ⟨q1, hq1, e1⟩ := hx'
      obtain ⟨q2, hq2, e2⟩ := hx1
      rw [List.mem_filter] at hq1 hq2
      have hq : q1 = q2 := by
        have hnd := h.nd
        unfold idsP at hnd
        obtain ⟨i1, hi1⟩ := List.mem_iff_getElem?.1 hq1.1
        obtain ⟨i2, hi2⟩ := List.mem_iff_getElem?.1 hq2.1
        have e3 : i1 = i2 := by
          apply Classical.byContradiction
          intro hne
          have hp := List.pairwise_iff_getElem.1 hnd
          have l1 := (List.getElem?_eq_some_iff.1 hi1).1
          have l2 := (List.getElem?_eq_some_iff.1 hi2).1
          have v1 : (s.pd.map (·.2))[i1]'(by simpa using l1) = x := by
            rw [List.getElem_map]; rw [List.getElem?_eq_getElem l1] at hi1; rw [Option.some.inj hi1]; exact e1
          have v2 : (s.pd.map (·.2))[i2]'(by simpa using l2) = x := by
            rw [List.getElem_map]; rw [List.getElem?_eq_getElem l2] at hi2; rw [Option.some.inj hi2]; exact e2
          rcases Nat.lt_or_gt_of_ne hne with hl | hl
          · exact hp i1 i2 (by simpa using l1) (by simpa using l2) hl (v1.trans v2.symm)
          · exact hp i2 i1 (by simpa using l2) (by simpa using l1) hl (v2.trans v1.symm)
        subst e3
        rw [hi1] at hi2
        exact Option.some.inj hi2
      subst hq
      have a1 := hq1.2
      have a2 := hq2.2
      simp at a1 a2
      omega
end Go.Proofs.Ytfgihfhpnhedkaa
