/-
  StoreKeeps in plain words: all that its walk wants. No condition of its own.
-/
import Derived.Test.YtkgcihhpcbodnaaStoreAlive
namespace Go.Proofs.Ytkgcihhpcbodnaa
open Go Go.RowKit

/-- Pages that are to be safe. -/
def goodB (p : Pv) : Bool := p.put && decide (p.i ≤ 40)
def safeL (l : List Pv) : List Pv := l.filter goodB
theorem safeL_mem {l : List Pv} {p : Pv} (h : p ∈ safeL l) : p.put = true ∧ p.i ≤ 40 := by
  have := (List.mem_filter.1 h).2
  unfold goodB at this
  simpa using this
theorem safeL_succ {l : List Pv} {k : Nat} {x : Pv} (h : l[k]? = some x) : safeL (l.take (k + 1)) = safeL (l.take k) ++ (if goodB x then [x] else []) := by
  unfold safeL
  rw [List.take_add_one, h, List.filter_append]
  congr 1
  cases hg : goodB x <;> simp [hg]
theorem safeL_len (l : List Pv) : (safeL l).length ≤ l.length := List.length_filter_le _ _
/-- Pages that come late. -/
def lateAt (p : Pv) (j : Nat) : Pv := ⟨p.k, 41 + (j : Int), p.t, p.bd⟩
def lateB (p : Pv) : Bool := decide p.ok && decide (p.k ≠ 1)
def lateN (l : List Pv) (k : Nat) : List Pv := ((List.range k).map fun j => lateAt (l.getD j noPv) j).filter lateB
theorem lateN_succ {l : List Pv} {k : Nat} {x : Pv} (h : l[k]? = some x) : lateN l (k + 1) = lateN l k ++ (if lateB (lateAt x k) then [lateAt x k] else []) := by
  unfold lateN
  rw [List.range_succ, List.map_append, List.filter_append]
  congr 1
  have : l.getD k noPv = x := by rw [List.getD_eq_getElem?_getD, h]; rfl
  simp only [List.map_cons, List.map_nil, this]
  cases hg : lateB (lateAt x k) <;> simp [hg]
theorem lateN_len (l : List Pv) (k : Nat) : (lateN l k).length ≤ k := by
  unfold lateN
  exact Nat.le_trans (List.length_filter_le _ _) (by simp)
theorem lateN_mem {l : List Pv} {k : Nat} {p : Pv} (h : p ∈ lateN l k) : p.put = true ∧ 41 ≤ p.i.toNat ∧ p.i.toNat < 41 + k ∧ p.bd.size ≤ 232 := by
  unfold lateN at h
  obtain ⟨h1, h2⟩ := List.mem_filter.1 h
  obtain ⟨j, hj, rfl⟩ := List.mem_map.1 h1
  have hjk := List.mem_range.1 hj
  generalize l.getD j noPv = y at h2 ⊢
  unfold lateB at h2
  rw [Bool.and_eq_true, decide_eq_true_iff, decide_eq_true_iff] at h2
  have hi : (lateAt y j).i = 41 + (j : Int) := rfl
  refine ⟨?_, by omega, by omega, ?_⟩
  · unfold Pv.put
    rw [decide_eq_true h2.1, decide_eq_true h2.2, decide_eq_true (by omega)]; rfl
  · have := h2.1
    unfold Pv.ok okP at this
    omega
theorem safeL_body {l : List Pv} {p : Pv} (h : p ∈ safeL l) : p.bd.size ≤ 232 := by
  have := (Pv.put_ok (safeL_mem h).1).1
  unfold Pv.ok okP at this
  omega
/-- What the calls tell, one behind the other. -/
structure KeepF (safe rest : List Pv) (keep : List Int) (d1 d2 d3 d4 : Ds) (e2 : Int) (k : Nat) : Prop where
  put : putS (newD 0) stN safe = (0, d1)
  fine1 : d1.fine
  sync : syncD d1 stN = (e2, d2)
  e2 : e2 = 0 ∨ e2 = 8
  fine2 : d2.fine
  ws2 : d2.ws.length = 0
  put2 : putS d2 stN rest = (0, d3)
  fine3 : d3.fine
  crash : crashD d3 keep = (k, d4)
  opens : openE (restoreD d4) stN = 0
  tells : TellsK (restoreD d4) stN safe
theorem keep_facts {safe rest : List Pv} (hs : ∀ p ∈ safe, p.put = true ∧ p.i ≤ 40) (hr : ∀ p ∈ rest, p.put = true ∧ 41 ≤ p.i.toNat ∧ p.i.toNat < 60) (h1 : safe.length ≤ 15) (h2 : rest.length ≤ 15) (keep : List Int) : ∃ d1 d2 d3 d4 e2 k, KeepF safe rest keep d1 d2 d3 d4 e2 k := by
  have hsl : ∀ p ∈ safe, p.i.toNat + 1 ≤ 41 := fun p hp => by have := (hs p hp).2; omega
  have hrl : ∀ p ∈ rest, p.i.toNat + 1 ≤ 60 := fun p hp => by have := (hr p hp).2.2; omega
  obtain ⟨N, hN⟩ : ∃ N, N = putN [] safe := ⟨_, rfl⟩
  have hNl : N.length ≤ 41 := by rw [hN]; exact putN_le safe 41 [] (by simp) hsl
  have hemp : safe ≠ [] → N ≠ [] := fun h e => by
    cases safe with
    | nil => exact h rfl
    | cons p l =>
      have := putN_len l (putPg [] p)
      rw [show putN (putPg [] p) l = N from hN.symm, e, putPg_len] at this
      simp at this
  obtain ⟨b, hb⟩ : ∃ b, b = !safe.isEmpty := ⟨_, rfl⟩
  have hput1 : putS (newD 0) stN safe = (0, kD stN N [] false (putW [] safe)) := by
    rw [kD_new (nm := stN) (S := []) (b := false), kD_putS stN_ok (fun _ => ⟨rfl, rfl⟩) (fun p hp => (hs p hp).1) (by simp), hN]
    rfl
  have hfine1 : (kD stN N [] false (putW [] safe)).fine := by
    have hl := putW_len safe 41 [] hsl
    refine kD_fine (fun e => ?_) (by have : safe.length * 41 ≤ 15 * 41 := Nat.mul_le_mul_right _ h1; omega) (putW_id safe [])
    cases safe with
    | nil => rfl
    | cons p l => exact absurd e (hemp (by simp))
  have hsync : ∃ e2, syncD (kD stN N [] false (putW [] safe)) stN = (e2, kD stN N N b []) ∧ (e2 = 0 ∨ e2 = 8) := by
    cases safe with
    | nil =>
      have : N = [] := hN
      subst this; subst hb
      exact ⟨8, kD_nosync stN_ok, .inr rfl⟩
    | cons p l =>
      have : b = true := hb
      rw [this]
      exact ⟨0, kD_sync stN_ok (hemp (by simp)) (putW_id _ []), .inl rfl⟩
  obtain ⟨e2, hsync, he2⟩ := hsync
  have hbN : N = [] → N = [] ∧ b = false := fun e => ⟨e, by
    cases safe with
    | nil => exact hb
    | cons p l => exact absurd e (hemp (by simp))⟩
  have hfine2 : (kD stN N N b []).fine := kD_fine (fun _ => rfl) (by simp) (fun x hx => by simp at hx)
  have hput2 : putS (kD stN N N b []) stN rest = (0, kD stN (putN N rest) N b (putW N rest)) := by
    rw [kD_putS stN_ok hbN (fun p hp => (hr p hp).1) (by omega)]
    rfl
  have hend : putN N rest = [] → putW N rest = [] ∧ b = false := fun e => by
    cases rest with
    | nil => exact ⟨rfl, (hbN e).2⟩
    | cons p l =>
      have := putN_len l (putPg N p)
      rw [show putN (putPg N p) l = [] from e, putPg_len] at this
      simp at this
  have hlate : ∀ x ∈ putW N rest, Late N.length x := putW_late rest N.length N (Nat.le_refl _) (fun p hp => ⟨(Pv.put_ok (hr p hp).1).1, (hr p hp).2.1⟩) hNl
  have hfine3 : (kD stN (putN N rest) N b (putW N rest)).fine := by
    have hl := putW_len rest 60 N hrl
    exact kD_fine (fun e => (hend e).1) (by have : rest.length * 60 ≤ 15 * 60 := Nat.mul_le_mul_right _ h2; omega) (putW_id rest N)
  obtain ⟨k, d4, hcr, ⟨T, hT⟩, hoff, _⟩ := kD_crash (nm := stN) keep hlate hend
  have hT2 : ∃ T, (d4.find stN = some ⟨0, T, T, true⟩ ∧ Left (putN [] safe) T) ∨ (d4.find stN = none ∧ safe = []) := by
    rcases hT with ⟨h1, h2⟩ | ⟨h1, h2⟩
    · exact ⟨T, .inl ⟨h1, hN ▸ h2⟩⟩
    · refine ⟨T, .inr ⟨h1, ?_⟩⟩
      rw [h2] at hb
      cases safe with
      | nil => rfl
      | cons p l => simp at hb
  have hopen : openE (restoreD d4) stN = 0 := by
    have hm : mayD (restoreD d4) stN = 0 := by unfold mayD; rw [hoff, stN_ok]; rfl
    have hfd : (restoreD d4).find stN = d4.find stN := rfl
    have hfl : fileD (restoreD d4) stN = match d4.find stN with
        | none => (8, none)
        | some f => (0, some f) := by
      unfold fileD
      rw [if_neg (show ¬ mayD (restoreD d4) stN ≠ 0 by rw [hm]; decide), hfd]
      cases d4.find stN <;> rfl
    unfold openE sizeD
    rw [hfl]
    rcases hT with ⟨h1, _⟩ | ⟨h1, _⟩
    · rw [h1]; rfl
    · rw [h1]; rfl
  exact ⟨_, _, _, d4, e2, k, hput1, hfine1, hsync, he2, hfine2, rfl, hput2, hfine3, hcr, hopen, keeps_plain stN_ok hs hoff hT2⟩
end Go.Proofs.Ytkgcihhpcbodnaa
