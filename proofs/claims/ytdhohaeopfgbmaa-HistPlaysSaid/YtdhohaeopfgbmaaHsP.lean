/-
  Logs of entries with commands, in plain words: what follows what, what is skipped, where two logs tell the same. No condition of its own.
-/
import Derived.Test.YtdhohaeopfgbmaaOne
import Derived.Test.YtdhohaeopfgbmaaHistTrim
import Derived.Test.YtdhohaeopfgbmaaHistJoinS
namespace Go.Proofs.Ytdhohaeopfgbmaa
open Go Go.RowKit

/-- An entry by its cells alone. -/
def ent (x : En) : Ent := ⟨x.index, x.term, x.client, x.seq, .slice x.A x.n x.c⟩
def ents (l : List En) : List Ent := l.map ent
theorem flatE_ents (l : List En) : flatE (ents l) = flatEn l := by
  unfold flatE ents flatEn
  rw [List.flatMap_map]; rfl
theorem ents_len (l : List En) : (ents l).length = l.length := List.length_map ..
theorem ents_one (l : List En) : ∀ e ∈ ents l, e.cmds.oneCell' = true := fun e he => by
  obtain ⟨x, _, rfl⟩ := List.mem_map.1 he; rfl
theorem ents_app (a b : List En) : ents (a ++ b) = ents a ++ ents b := List.map_append ..
theorem ents_take (a : List En) (k : Nat) : ents (a.take k) = (ents a).take k := List.map_take ..
theorem ents_drop (a : List En) (k : Nat) : ents (a.drop k) = (ents a).drop k := List.map_drop ..
theorem ents_at {l : List En} {k : Nat} {x : En} (h : l[k]? = some x) : (ents l)[k]? = some (ent x) := by unfold ents; rw [List.getElem?_map, h]; rfl
/-- Of the same terms. -/
def SameT (a b : List Ent) : Prop := a.map Ent.term = b.map Ent.term
theorem SameT.len {a b : List Ent} (h : SameT a b) : a.length = b.length := by have := congrArg List.length h; simpa using this
theorem pl_same {xs ys : List En} (h : xs.map plE = ys.map plE) : SameT (ents xs) (ents ys) := by
  have e : ∀ l : List En, (ents l).map Ent.term = (l.map plE).map (fun x => x.term) := fun l => by
    unfold ents; rw [List.map_map, List.map_map]; rfl
  unfold SameT
  rw [e, e, h]
theorem termE_same {idx trm : Int} {a b : List Ent} (h : SameT a b) (i : Int) : termE idx trm a i = termE idx trm b i := by
  unfold termE
  have e : ∀ (l : List Ent) (k : Nat), (l[k]?).map (fun x => x.term) = (l.map Ent.term)[k]? := fun l k => (List.getElem?_map ..).symm
  rw [h.len, e, e, h]
theorem lastT_same {trm : Int} {a b : List Ent} (h : SameT a b) : lastT trm a = lastT trm b := by
  unfold lastT
  have e : ∀ l : List Ent, (l.getLast?).map (fun x => x.term) = (l.map Ent.term).getLast? := fun l => by simp
  rw [e, e, h]
theorem hasB_same {idx trm : Int} {a b : List Ent} (h : SameT a b) (i t : Int) : hasB idx trm a i t = hasB idx trm b i t := by unfold hasB; rw [termE_same h]
theorem newerB_same {idx trm : Int} {a b : List Ent} (h : SameT a b) (i t : Int) : newerB idx trm a i t = newerB idx trm b i t := by unfold newerB; rw [lastT_same h, h.len]
theorem backV_same {idx trm : Int} {a b : List Ent} (h : SameT a b) (i t : Int) : backV idx trm a i t = backV idx trm b i t := by
  unfold backV
  rw [h.len, show (fun j => (termE idx trm a j).getD 0) = (fun j => (termE idx trm b j).getD 0) from funext fun j => by rw [termE_same h]]
/-- Do entries follow an index and a term, one by one? -/
def riseE : Int → Int → List En → Bool
  | _, _, [] => true
  | i, t, x :: xs => decide (x.index = i + 1) && decide (t ≤ x.term) && riseE x.index x.term xs
theorem riseE_pl {xs ys : List En} (h : xs.map plE = ys.map plE) (i t : Int) : riseE i t xs = riseE i t ys := by
  induction xs generalizing ys i t with
  | nil => cases ys with
    | nil => rfl
    | cons y ys => simp at h
  | cons x xs ih => cases ys with
    | nil => simp at h
    | cons y ys =>
      simp only [List.map_cons, List.cons.injEq] at h
      obtain ⟨e1, e2, _⟩ := plE_eq h.1
      unfold riseE
      rw [e1, e2, ih h.2]
theorem riseE_ix {l : List En} {i t : Int} (h : riseE i t l = true) {k : Nat} {x : En} (hx : l[k]? = some x) : x.index = i + k + 1 := by
  induction l generalizing i t k with
  | nil => simp at hx
  | cons y ys ih =>
    unfold riseE at h
    simp only [Bool.and_eq_true, decide_eq_true_eq] at h
    cases k with
    | zero => simp at hx; subst hx; omega
    | succ k =>
      have := ih h.2 (k := k) (by simpa using hx)
      omega
/-- How many are cut. -/
def cutK (idx : Int) (n : Nat) (i : Int) : Nat := if idx + n < i then n else (i - idx - 1).toNat
def trimK (idx : Int) (n : Nat) (i : Int) : Nat := if i < idx ∨ idx + n < i then 0 else (i - idx).toNat
def trimT (idx trm : Int) (es : List Ent) (i : Int) : Int := (termE idx trm es (idx + trimK idx es.length i)).getD trm
theorem trimT_same {idx trm : Int} {a b : List Ent} (h : SameT a b) (i : Int) : trimT idx trm a i = trimT idx trm b i := by unfold trimT; rw [h.len, termE_same h]
theorem cutK_le (idx : Int) (n : Nat) (i : Int) : cutK idx n i ≤ n := by unfold cutK; split <;> omega
theorem trimK_le (idx : Int) (n : Nat) (i : Int) : trimK idx n i ≤ n := by unfold trimK; split <;> omega
/-- Entries told from an index on. -/
def sliceN (idx : Int) (es : List En) (i m : Int) : List En := if i ≤ idx ∨ idx + es.length < i then [] else (es.drop (i - idx - 1).toNat).take m.toNat
theorem sliceN_pl {idx : Int} {xs ys : List En} (h : xs.map plE = ys.map plE) (i m : Int) : (sliceN idx xs i m).map plE = (sliceN idx ys i m).map plE := by
  have hl : xs.length = ys.length := by have := congrArg List.length h; simpa using this
  unfold sliceN
  rw [hl]
  split
  · rfl
  · rw [List.map_take, List.map_drop, h, ← List.map_drop, ← List.map_take]
theorem sliceN_mem {idx : Int} {xs : List En} {i m : Int} {x : En} (h : x ∈ sliceN idx xs i m) : x ∈ xs := by
  unfold sliceN at h
  split at h
  · exact absurd h (by simp)
  · exact List.mem_of_mem_drop (List.mem_of_mem_take h)
theorem sliceN_len (idx : Int) (xs : List En) (i m : Int) : (sliceN idx xs i m).length ≤ xs.length := by
  unfold sliceN
  split
  · exact Nat.zero_le _
  · rw [List.length_take, List.length_drop]; omega
/-- What Join tells: K are passed by, then where to cut. -/
structure JK (idx trm : Int) (es : List Ent) (l : List En) (K : Nat) (cut : Int) : Prop where
  le : K ≤ l.length
  skip : ∀ (j : Nat) x, j < K → l[j]? = some x → skipE idx trm es (ent x) = true
  fin : K = l.length ∧ cut = 0 ∨ ∃ x, l[K]? = some x ∧ skipE idx trm es (ent x) = false ∧ cut = if (termE idx trm es x.index).isSome then x.index else 0
theorem skipE_same {idx trm : Int} {a b : List Ent} (h : SameT a b) {x y : En} (e : plE x = plE y) : skipE idx trm a (ent x) = skipE idx trm b (ent y) := by
  obtain ⟨e1, e2, _⟩ := plE_eq e
  unfold skipE
  show (decide (x.index ≤ idx) || decide (termE idx trm a x.index = some x.term)) = (decide (y.index ≤ idx) || decide (termE idx trm b y.index = some y.term))
  rw [e1, e2, termE_same h]
theorem pl_at {xs ys : List En} (h : xs.map plE = ys.map plE) {k : Nat} {x : En} (hx : xs[k]? = some x) : ∃ y, ys[k]? = some y ∧ plE x = plE y := by
  have h1 : (ys.map plE)[k]? = some (plE x) := by rw [← h, List.getElem?_map, hx]; rfl
  rw [List.getElem?_map] at h1
  cases hy : ys[k]? with
  | none => rw [hy] at h1; cases h1
  | some y => rw [hy] at h1; exact ⟨y, rfl, (Option.some.inj h1).symm⟩
theorem JK.one {idx trm : Int} {a b : List Ent} {l m : List En} {K K' : Nat} {cut cut' : Int} (h : JK idx trm a l K cut) (k : JK idx trm b m K' cut') (hs : SameT a b) (hp : l.map plE = m.map plE) : K = K' ∧ cut = cut' := by
  have hl : l.length = m.length := by have := congrArg List.length hp; simpa using this
  have h1 : ¬ K < K' := fun hc => by
    rcases h.fin with ⟨e, _⟩ | ⟨x, hx, hs1, _⟩
    · have := k.le; omega
    · obtain ⟨y, hy, e⟩ := pl_at hp hx
      have := k.skip K y hc hy
      rw [← skipE_same hs e, hs1] at this; cases this
  have h2 : ¬ K' < K := fun hc => by
    rcases k.fin with ⟨e, _⟩ | ⟨x, hx, hs1, _⟩
    · have := h.le; omega
    · obtain ⟨y, hy, e⟩ := pl_at hp.symm hx
      have := h.skip K' y hc hy
      rw [skipE_same hs e.symm, hs1] at this; cases this
  have h3 : K = K' := by omega
  subst h3
  refine ⟨rfl, ?_⟩
  rcases h.fin with ⟨e, hc⟩ | ⟨x, hx, hs1, hc⟩
  · rcases k.fin with ⟨_, hc'⟩ | ⟨y, hy, _, _⟩
    · rw [hc, hc']
    · have := (List.getElem?_eq_some_iff.1 hy).1; omega
  · rcases k.fin with ⟨e, _⟩ | ⟨y, hy, _, hc'⟩
    · have := (List.getElem?_eq_some_iff.1 hx).1; omega
    · obtain ⟨z, hz, e⟩ := pl_at hp hx
      rw [hy] at hz; injection hz with hz; subst hz
      rw [hc, hc', termE_same hs, (plE_eq e).1]
end Go.Proofs.Ytdhohaeopfgbmaa
