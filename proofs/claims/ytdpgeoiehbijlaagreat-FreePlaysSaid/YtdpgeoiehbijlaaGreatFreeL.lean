/-
  The laws on free pages in plain words. No program in them.
-/
import Derived.Test.YtdpgeoiehbijlaaGreatOne
namespace Go.Proofs.YtdpgeoiehbijlaaGreat
open Go Go.RowKit

/-- What is given is counted, and is pending for the one who gave it. -/
theorem giveS_pd (s : Fs) (tx : Int) (ids : List Int) : (giveS s tx ids).1.pages = s.pages ∧ (giveS s tx ids).1.fr = s.fr ∧ ∃ l : List Int, (giveS s tx ids).1.pd = s.pd ++ l.map (fun x => (tx, x)) ∧ l.length = (giveS s tx ids).2 := by
  have key : ∀ (ids : List Int) (q : Fs × Nat) (l0 : List Int), q.1.pages = s.pages → q.1.fr = s.fr → q.1.pd = s.pd ++ l0.map (fun x => (tx, x)) → l0.length = q.2 →
      (ids.foldl (give1 tx) q).1.pages = s.pages ∧ (ids.foldl (give1 tx) q).1.fr = s.fr ∧ ∃ l : List Int, (ids.foldl (give1 tx) q).1.pd = s.pd ++ l.map (fun x => (tx, x)) ∧ l.length = (ids.foldl (give1 tx) q).2 := by
    intro ids
    induction ids with
    | nil => intro q l0 h1 h2 h3 h4; exact ⟨h1, h2, l0, h3, h4⟩
    | cons x ids ih =>
      intro q l0 h1 h2 h3 h4
      rw [List.foldl_cons]
      by_cases hc : 2 ≤ x ∧ x < q.1.pages ∧ hasS q.1 x = false
      · have e : give1 tx q x = ({ q.1 with pd := q.1.pd ++ [(tx, x)] }, q.2 + 1) := by unfold give1; rw [if_pos hc]
        rw [e]
        refine ih _ (l0 ++ [x]) h1 h2 ?_ (by rw [List.length_append, h4]; rfl)
        show q.1.pd ++ [(tx, x)] = _
        rw [h3, List.map_append, List.append_assoc]; rfl
      · have e : give1 tx q x = q := by unfold give1; rw [if_neg hc]
        rw [e]
        exact ih q l0 h1 h2 h3 h4
  exact key ids (s, 0) [] rfl rfl (by simp) rfl
theorem outS_all (s : Fs) (p : Int → Bool) (tx : Int) (l : List Int) (h : s.pd = l.map fun x => (tx, x)) (hp : p tx = true) : outS p s = l := by
  unfold outS idsP
  rw [h, List.filter_eq_self.2 (by intro q hq; obtain ⟨x, _, rfl⟩ := List.mem_map.1 hq; exact hp), List.map_map]
  simp [Function.comp_def]
theorem outS_not (s : Fs) (p : Int → Bool) (tx : Int) (l : List Int) (h : s.pd = l.map fun x => (tx, x)) (hp : p tx = false) : outS p s = [] := by
  unfold outS idsP
  rw [h, List.filter_eq_nil_iff.2 (by intro q hq; obtain ⟨x, _, rfl⟩ := List.mem_map.1 hq; simp [hp])]
  rfl
/-- A free list of its own. -/
theorem ok_load {pages : Int} {l : List Int} (h0 : 2 ≤ pages) (h1 : pages ≤ 4000) (hu : l.Pairwise (· < ·)) (hr : ∀ x ∈ l, 2 ≤ x ∧ x < pages) : (⟨pages, l, []⟩ : Fs).ok := ⟨h0, h1, hu, hr, by simp [idsP], by simp [idsP], by simp [idsP]⟩
/-- Ids that lie one behind the other. -/
def upFrom (a : Int) (n : Nat) : List Int := (List.range n).map fun (j : Nat) => a + (j : Int)
theorem upFrom_len (a : Int) (n : Nat) : (upFrom a n).length = n := by simp [upFrom]
theorem upFrom_succ (a : Int) (n : Nat) : upFrom a (n + 1) = upFrom a n ++ [a + (n : Int)] := by simp [upFrom, List.range_succ]
theorem upFrom_mem {a x : Int} {n : Nat} : x ∈ upFrom a n ↔ a ≤ x ∧ x < a + (n : Int) := by
  unfold upFrom
  rw [List.mem_map]
  constructor
  · rintro ⟨j, hj, rfl⟩
    simp at hj
    omega
  · rintro ⟨h1, h2⟩
    exact ⟨(x - a).toNat, by simp; omega, by omega⟩
/-- All of them are given. -/
theorem giveS_up (s : Fs) (tx a : Int) (n : Nat) (hp : s.pd = []) (h1 : ∀ j : Nat, j < n → 2 ≤ a + (j : Int) ∧ a + (j : Int) < s.pages ∧ a + (j : Int) ∉ s.fr) : giveS s tx (upFrom a n) = ({ s with pd := (upFrom a n).map fun x => (tx, x) }, n) := by
  induction n with
  | zero => simp [giveS, upFrom, ← hp]
  | succ n ih =>
    have h := ih fun j hj => h1 j (by omega)
    rw [upFrom_succ]
    unfold giveS at h ⊢
    rw [List.foldl_append, h]
    obtain ⟨h2, h3, h4⟩ := h1 n (by omega)
    show give1 tx ({ s with pd := (upFrom a n).map fun x => (tx, x) }, n) (a + (n : Int)) = _
    unfold give1
    rw [if_pos]
    · rw [List.map_append]; rfl
    · refine ⟨h2, h3, ?_⟩
      unfold hasS
      simp only [Bool.or_eq_false_iff, decide_eq_false_iff_not]
      refine ⟨h4, fun hm => ?_⟩
      unfold idsP at hm
      rw [List.map_map] at hm
      have : a + (n : Int) ∈ upFrom a n := by simpa [Function.comp_def] using hm
      rw [upFrom_mem] at this
      omega

/-- What is taken: it was free, or it is new. -/
theorem take_law {pages : Int} {l : List Int} {n : Nat} (h0 : (⟨pages, l, []⟩ : Fs).ok) (hn : 0 < n) (hn2 : n ≤ 20) {a f : Int} {s1 : Fs} (ht : takeS ⟨pages, l, []⟩ (n : Int) = ((a, f), s1)) (hf : f = 0) :
    (∀ j : Nat, j < n → 2 ≤ a + (j : Int) ∧ a + (j : Int) < s1.pages ∧ a + (j : Int) ∉ s1.fr ∧ (a < pages → a + (j : Int) ∈ l)) ∧ s1.pd = [] ∧ s1.ok ∧ (∀ x, x ∈ l → x ∈ s1.fr ∨ x ∈ upFrom a n) := by
  have hok : s1.ok := by have := takeS_ok h0 (n : Int); rw [ht] at this; exact this
  unfold takeS at ht
  rw [if_neg (by omega)] at ht
  simp only [Int.toNat_natCast] at ht
  split at ht
  · rename_i i hi
    obtain ⟨hil, hr, _⟩ := runV_some hi
    simp only [Prod.mk.injEq] at ht
    obtain ⟨⟨ha, _⟩, rfl⟩ := ht
    have ha' : l[i]? = some a := by
      have hil' : i < l.length := hil
      rw [List.getElem?_eq_getElem hil', ← ha, List.getD_eq_getElem?_getD, List.getElem?_eq_getElem hil']; rfl
    have hcut := run_cut h0.up hn ha' hr
    have hmem : ∀ x, x ∈ (l.take i ++ l.drop (i + n)) ↔ x ∈ l ∧ ¬ (a ≤ x ∧ x < a + (n : Int)) := fun x => by
      rw [← hcut, List.mem_filter]; simp; intro _; omega
    refine ⟨fun j hj => ?_, rfl, hok, fun x hx => ?_⟩
    · have hm := List.mem_of_getElem? (run_mem h0.up hn ha' hr hj)
      have hrg := h0.rg _ hm
      exact ⟨hrg.1, hrg.2, fun h => by rw [hmem] at h; omega, fun _ => hm⟩
    · by_cases hc : a ≤ x ∧ x < a + (n : Int)
      · exact .inr (upFrom_mem.2 hc)
      · exact .inl ((hmem x).2 ⟨hx, hc⟩)
  · split at ht
    · simp only [Prod.mk.injEq] at ht
      omega
    · simp only [Prod.mk.injEq] at ht
      obtain ⟨⟨rfl, _⟩, rfl⟩ := ht
      refine ⟨fun j hj => ⟨by have := h0.p0; simp at this; omega, by show pages + (j : Int) < pages + (n : Int); omega, fun h => by have := h0.rg _ h; simp at this; omega, fun h => by omega⟩, rfl, hok, fun x hx => .inl hx⟩
theorem take_full {pages : Int} {l : List Int} {n : Nat} (hn : 0 < n) (hn2 : n ≤ 20) {a f : Int} {s1 : Fs} (ht : takeS ⟨pages, l, []⟩ (n : Int) = ((a, f), s1)) (hf : f ≠ 0) : f = 20 ∧ 4000 < pages + (n : Int) := by
  unfold takeS at ht
  rw [if_neg (by omega)] at ht
  split at ht
  · simp only [Prod.mk.injEq] at ht
    omega
  · split at ht
    · rename_i h
      simp only [Prod.mk.injEq] at ht
      exact ⟨ht.1.2.symm, h⟩
    · simp only [Prod.mk.injEq] at ht
      omega
/-- The next one who asks for as much is given just that, or less. -/
theorem take_again {s : Fs} {n : Nat} {a : Int} (h : s.ok) (hn : 0 < n) (hn2 : n ≤ 20) (hm : ∀ x ∈ upFrom a n, x ∈ s.fr) : (takeS s (n : Int)).1.2 = 0 ∧ (takeS s (n : Int)).1.1 ≤ a := by
  obtain ⟨t, ht⟩ := List.mem_iff_getElem?.1 (hm a (upFrom_mem.2 ⟨Int.le_refl _, by omega⟩))
  have hr := run_of_mem h.up hn ht fun j hj => hm _ (upFrom_mem.2 ⟨by omega, by omega⟩)
  have htl := (List.getElem?_eq_some_iff.1 ht).1
  unfold takeS
  rw [if_neg (by omega)]
  simp only [Int.toNat_natCast]
  cases hv : runV s.fr n with
  | none => have := runV_none hv t; rw [hr] at this; cases this
  | some i =>
    obtain ⟨hil, hri, hno⟩ := runV_some hv
    refine ⟨rfl, ?_⟩
    show s.fr.getD i 0 ≤ a
    have hit : i ≤ t := by
      rcases Nat.lt_or_ge t i with hlt | hge
      · have := hno t hlt; rw [hr] at this; cases this
      · exact hge
    rw [List.getD_eq_getElem?_getD, List.getElem?_eq_getElem hil, Option.getD_some]
    have := rise_gap h.up (List.getElem?_eq_getElem hil) ht hit
    omega
end Go.Proofs.YtdpgeoiehbijlaaGreat
