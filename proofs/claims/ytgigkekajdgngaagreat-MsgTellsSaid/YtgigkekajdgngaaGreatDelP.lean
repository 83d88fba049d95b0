/-
  Plain facts on what slices.DeleteFunc does: what is kept moves to the front. No program in them.
-/
import Derived.Test.YtgigkekajdgngaaGreatSliceSz
namespace Go.Proofs.YtgigkekajdgngaaGreat
open Go Go.RowKit

/-- The first place whose element is so; -1 of none. -/
def ixV {α : Type} (p : α → Bool) (ks : List α) : Int := match ks.findIdx? p with
  | none => -1
  | some i => i
theorem ixV_none {α : Type} {p : α → Bool} {ks : List α} (h : ∀ x ∈ ks, p x = false) : ixV p ks = -1 := by
  unfold ixV; rw [List.findIdx?_eq_none_iff.2 h]
theorem ixV_at {α : Type} {p : α → Bool} {ks : List α} {k : Nat} {x : α} (hx : ks[k]? = some x) (hp : p x = true) (hn : ∀ (j : Nat) y, j < k → ks[j]? = some y → p y = false) : ixV p ks = (k : Int) := by
  unfold ixV
  have hk := (List.getElem?_eq_some_iff.1 hx).1
  have : ks.findIdx? p = some k := by
    rw [List.findIdx?_eq_some_iff_getElem]
    refine ⟨hk, ?_, fun j hj => ?_⟩
    · rw [List.getElem?_eq_getElem hk] at hx; rw [Option.some.inj hx]; exact hp
    · rw [hn j _ hj (List.getElem?_eq_getElem (by omega))]; simp
  rw [this]
/-- How far DeleteFunc has come: i are kept of the first j; what is ahead is as it was. -/
structure DelI {α : Type} (p : α → Bool) (ks cur : List α) (i j : Nat) : Prop where
  lt : i < j
  le : j ≤ ks.length
  len : cur.length = ks.length
  kept : cur.take i = (ks.take j).filter fun x => !p x
  rest : ∀ t, j ≤ t → cur[t]? = ks[t]?
theorem DelI.ilen {α : Type} {p : α → Bool} {ks cur : List α} {i j : Nat} (h : DelI p ks cur i j) : ((ks.take j).filter fun x => !p x).length = i := by
  rw [← h.kept, List.length_take]; have := h.lt; have := h.le; have := h.len; omega
theorem DelI.start {α : Type} {p : α → Bool} {ks : List α} {k : Nat} {x : α} (hx : ks[k]? = some x) (hp : p x = true) (hn : ∀ (j : Nat) y, j < k → ks[j]? = some y → p y = false) : DelI p ks ks k (k + 1) := by
  have hk := (List.getElem?_eq_some_iff.1 hx).1
  refine ⟨by omega, by omega, rfl, ?_, fun t _ => rfl⟩
  rw [List.take_add_one, hx, List.filter_append]
  have h1 : (ks.take k).filter (fun x => !p x) = ks.take k := by
    rw [List.filter_eq_self]
    intro y hy
    obtain ⟨j, hj⟩ := List.mem_iff_getElem?.1 hy
    have hjl := (List.getElem?_eq_some_iff.1 hj).1
    rw [List.length_take] at hjl
    rw [List.getElem?_take, if_pos (by omega)] at hj
    rw [hn j y (by omega) hj]; rfl
  rw [h1]; simp [hp]
theorem DelI.drop {α : Type} {p : α → Bool} {ks cur : List α} {i j : Nat} {x : α} (h : DelI p ks cur i j) (hx : ks[j]? = some x) (hp : p x = true) : DelI p ks cur i (j + 1) := by
  have hj := (List.getElem?_eq_some_iff.1 hx).1
  refine ⟨by have := h.lt; omega, by omega, h.len, ?_, fun t ht => h.rest t (by omega)⟩
  rw [List.take_add_one, hx, List.filter_append, ← h.kept]; simp [hp]
theorem DelI.keep {α : Type} {p : α → Bool} {ks cur : List α} {i j : Nat} {x : α} (h : DelI p ks cur i j) (hx : ks[j]? = some x) (hp : p x = false) : DelI p ks (cur.set i x) (i + 1) (j + 1) := by
  have hj := (List.getElem?_eq_some_iff.1 hx).1
  have hi : i < cur.length := by have := h.lt; have := h.le; have := h.len; omega
  refine ⟨by have := h.lt; omega, by omega, by rw [List.length_set]; exact h.len, ?_, fun t ht => ?_⟩
  · rw [List.take_add_one, List.take_set_of_le (Nat.le_refl _), List.getElem?_set_self hi, h.kept, List.take_add_one, hx, List.filter_append]
    simp [hp]
  · rw [List.getElem?_set_ne (by have := h.lt; omega)]
    exact h.rest t (by omega)
theorem DelI.done {α : Type} {p : α → Bool} {ks cur : List α} {i : Nat} (h : DelI p ks cur i ks.length) : cur.take i = ks.filter fun x => !p x := by
  rw [h.kept, List.take_length]
/-- A new row without an element. -/
theorem own_mt0 (w : World) (t : TypeId) (size : Nat) : (w.alloc (.cells #[] t)).ownsRow w.heap.size t size (.slice (some ⟨w.heap.size, 0, none⟩) 0 0) 0 [] :=
  ⟨by simp, .inr ⟨w.heap.size, 0, #[], rfl, Nat.le_refl _, heap_alloc_new w _, Nat.le_refl _, by unfold maxLen; omega, by simp, by simp⟩⟩
/-- A row whose end is cleared: what stands ahead of it stays. -/
theorem own_cleared {w : World} {base g n c i size : Nat} {e : TypeId} {xs zs : List Value} (h : w.ownsRow base e size (.slice (some ⟨g, 0, none⟩) n c) n xs) (hi : i ≤ n) (hz : zs.length = (n - i) * size) :
    (w.setCells g (i * size) zs).ownsRow base e size (.slice (some ⟨g, 0, none⟩) i c) i (xs.take (i * size)) ∧ Frm (at1 g) w (w.setCells g (i * size) zs) := by
  obtain ⟨cur, hB, hbg, hnc, hcm, hcs, htk⟩ := own_open h
  have h1 : i * size + (n - i) * size = n * size := by rw [← Nat.add_mul]; congr 1; omega
  have h2 : n * size ≤ c * size := Nat.mul_le_mul_right _ hnc
  have hB2 : Blk (w.setCells g (i * size) zs) g e (splice cur.toList (i * size) zs).toArray := Blk.cells_ zs _ cur w hB (by rw [hz, hcs]; omega)
  refine ⟨own_close hB2 hbg (by omega) hcm ?_ ?_, Frm.cells_ _ _ _⟩
  · rw [List.size_toArray, splice_len (by rw [hz, Array.length_toList, hcs]; omega), Array.length_toList, hcs]
  · show (splice cur.toList (i * size) zs).take (i * size) = _
    unfold splice
    rw [List.take_append_of_le_length (by rw [List.length_take, Array.length_toList, hcs]; omega), List.take_take, Nat.min_self, ← htk, List.take_take]
    congr 1
    have : i * size ≤ n * size := Nat.mul_le_mul_right _ hi
    omega
end Go.Proofs.YtgigkekajdgngaaGreat
