/-
  A frame that is another one but for some slots. No condition of its own.
-/
import Derived.Test.YtmnndekpedacmaaAnyInv
namespace Go.Proofs.Ytmnndekpedacmaa
open Go Go.RowKit

/-- What stands in a slot. -/
def slot (a : Act) (k : Nat) : Value := a.tmps.getD k undef
theorem slot_eval (a : Act) (k : Nat) : a.eval (.tmp k) = slot a k := rfl
/-- a is a0 but for the slots in D. -/
structure Alike (D : List Nat) (a0 a : Act) : Prop where
  defers : a.defers = a0.defers
  size : a.tmps.size = a0.tmps.size
  same : ∀ k, k ∉ D → a.tmps[k]? = a0.tmps[k]?
theorem Alike.refl (D : List Nat) (a : Act) : Alike D a a := ⟨rfl, rfl, fun _ _ => rfl⟩
theorem Alike.put {D : List Nat} {a0 a : Act} (h : Alike D a0 a) {d : Nat} (hd : d ∈ D) (v : Value) : Alike D a0 (a.put (some d) v) :=
  ⟨h.defers, by show (a.tmps.setIfInBounds d v).size = _; rw [Array.size_setIfInBounds]; exact h.size, fun k hk => by
    have hne : d ≠ k := fun e => hk (by rw [← e]; exact hd)
    show (a.tmps.setIfInBounds d v)[k]? = a0.tmps[k]?
    rw [Array.getElem?_setIfInBounds_ne hne]
    exact h.same k hk⟩
theorem Alike.put_none {D : List Nat} {a0 a : Act} (h : Alike D a0 a) (v : Value) : Alike D a0 (a.put none v) := h
theorem Alike.slot {D : List Nat} {a0 a : Act} (h : Alike D a0 a) {k : Nat} (hk : k ∉ D) : slot a k = Go.Proofs.Ytmnndekpedacmaa.slot a0 k := by
  unfold Go.Proofs.Ytmnndekpedacmaa.slot
  rw [Array.getD_eq_getD_getElem?, Array.getD_eq_getD_getElem?, h.same k hk]
theorem slot_same {a : Act} {d : Nat} (hd : d < a.tmps.size) (v : Value) : slot (a.put (some d) v) d = v := by
  show (a.tmps.setIfInBounds d v).getD d undef = v
  rw [Array.getD_eq_getD_getElem?, Array.getElem?_setIfInBounds_self_of_lt hd]; rfl
theorem slot_other {a : Act} {d k : Nat} (h : d ≠ k) (v : Value) : slot (a.put (some d) v) k = slot a k := by
  show (a.tmps.setIfInBounds d v).getD k undef = a.tmps.getD k undef
  rw [Array.getD_eq_getD_getElem?, Array.getD_eq_getD_getElem?, Array.getElem?_setIfInBounds_ne h]
theorem fold_set_size (D : List Nat) (f : Nat → Value) (t : Array Value) : (D.foldl (fun t d => t.setIfInBounds d (f d)) t).size = t.size := by
  induction D generalizing t with
  | nil => rfl
  | cons d D ih => rw [List.foldl_cons, ih, Array.size_setIfInBounds]
theorem fold_set_at (D : List Nat) (f : Nat → Value) (t : Array Value) (k : Nat) (hk : k < t.size) : (D.foldl (fun t d => t.setIfInBounds d (f d)) t)[k]? = if k ∈ D then some (f k) else t[k]? := by
  induction D generalizing t with
  | nil => simp
  | cons d D ih =>
    rw [List.foldl_cons, ih _ (by rw [Array.size_setIfInBounds]; exact hk)]
    by_cases h : k ∈ D
    · rw [if_pos h, if_pos (List.mem_cons_of_mem _ h)]
    · rw [if_neg h]
      by_cases hd : d = k
      · subst hd
        rw [if_pos (List.mem_cons_self ..), Array.getElem?_setIfInBounds_self_of_lt hk]
      · rw [Array.getElem?_setIfInBounds_ne hd, if_neg]
        intro hc
        rcases List.mem_cons.1 hc with e | e
        · exact hd e.symm
        · exact h e
/-- The frame written out. -/
theorem Alike.form {D : List Nat} {a0 a : Act} (h : Alike D a0 a) : a = { tmps := D.foldl (fun t d => t.setIfInBounds d (Go.Proofs.Ytmnndekpedacmaa.slot a d)) a0.tmps, defers := a0.defers } := by
  obtain ⟨tm, df⟩ := a
  have h1 := h.defers
  have h2 := h.size
  have h3 := h.same
  simp only [] at h1 h2 h3
  subst h1
  congr 1
  apply Array.ext_getElem?
  intro k
  by_cases hk : k < a0.tmps.size
  · rw [fold_set_at _ _ _ _ hk]
    by_cases hd : k ∈ D
    · rw [if_pos hd]
      show tm[k]? = some (tm.getD k undef)
      rw [Array.getD_eq_getD_getElem?, Array.getElem?_eq_getElem (by omega)]; rfl
    · rw [if_neg hd]; exact h3 k hd
  · rw [Array.getElem?_eq_none (by omega), Array.getElem?_eq_none (by rw [fold_set_size]; omega)]
end Go.Proofs.Ytmnndekpedacmaa
