/-
  Lists of ints behind a row of slices: how they lie, and when no two of them share memory. No condition of its own.
-/
import Derived.Test.YtgigkekajdgngaaGreatMtOne
import Derived.Test.YtgigkekajdgngaaGreatOwn2
namespace Go.Proofs.YtgigkekajdgngaaGreat
open Go Go.RowKit

theorem flatZ_app (a b : List Int) : flatZ (a ++ b) = flatZ a ++ flatZ b := by unfold flatZ; rw [List.flatMap_append]
/-- A list of ints, of the call's own. -/
inductive MadeZ (base : Nat) (e : Ending) (w' : World) (xs : List Int) : Prop
  | mk (A : Option Addr) (n c : Nat) (hn : xs.length = n) (he : e = .returned (.slice A n c)) (ho : w'.ownsRow base 3 1 (.slice A n c) n (flatZ xs)) : MadeZ base e w' xs
/-- Lists behind a row of slices. -/
structure RowsZ (w : World) (base : Nat) (V : List Value) (N : Nat) (f : Nat → List Int) : Prop where
  len : V.length = N
  at_ : ∀ i, i < N → ∃ A c, V[i]? = some (.slice A (f i).length c) ∧ w.ownsRow base 3 1 (.slice A (f i).length c) (f i).length (flatZ (f i))
/-- No two of them lie in one block. -/
def ApartV (V : List Value) : Prop := ∀ (i j : Nat) (x y : Value) (k : Nat), i ≠ j → V[i]? = some x → V[j]? = some y → x.ownBlock = some k → y.ownBlock ≠ some k
theorem RowsZ.frm {w w' : World} {base N : Nat} {V : List Value} {f : Nat → List Int} {S : Nat → Prop} (h : RowsZ w base V N f) (k : Frm S w w') (hs : ∀ (i : Nat) (x : Value) (b : Nat), V[i]? = some x → x.ownBlock = some b → ¬ S b) : RowsZ w' base V N f :=
  ⟨h.len, fun i hi => by obtain ⟨A, c, h1, h2⟩ := h.at_ i hi; exact ⟨A, c, h1, own_frm h2 k fun g hg => hs i _ g h1 hg⟩⟩
theorem RowsZ.below {w w' : World} {base N : Nat} {V : List Value} {f : Nat → List Int} (h : RowsZ w base V N f) (k : Below w.heap.size w w') : RowsZ w' base V N f :=
  h.frm (S := no) (Frm.of_below k) fun _ _ _ _ _ h => h
theorem RowsZ.ne {w : World} {base base' N s n : Nat} {V : List Value} {f : Nat → List Int} {v : Value} {e : TypeId} {xs : List Value} (h : RowsZ w base V N f) (hv : w.ownsRow base' e s v n xs) (he : e ≠ 3) : ∀ (i : Nat) (x : Value) (b : Nat), V[i]? = some x → x.ownBlock = some b → v.ownBlock ≠ some b := fun i x b hx hb => by
  obtain ⟨A, c, h1, h2⟩ := h.at_ i (by have := (List.getElem?_eq_some_iff.1 hx).1; rw [h.len] at this; exact this)
  rw [hx] at h1; injection h1 with h1; subst h1
  exact own_own h2 hv (Ne.symm he) hb
theorem RowsZ.neB {w : World} {base N g : Nat} {V : List Value} {f : Nat → List Int} {t : TypeId} {cs : Array Value} (h : RowsZ w base V N f) (hB : Blk w g t cs) (he : t ≠ 3) : ∀ (i : Nat) (x : Value) (b : Nat), V[i]? = some x → x.ownBlock = some b → b ≠ g := fun i x b hx hb e => by
  obtain ⟨A, c, h1, h2⟩ := h.at_ i (by have := (List.getElem?_eq_some_iff.1 hx).1; rw [h.len] at this; exact this)
  rw [hx] at h1; injection h1 with h1; subst h1
  rw [e] at hb
  exact Blk.own_ne hB h2 (Ne.symm he) hb
theorem RowsZ.lt {w : World} {base N : Nat} {V : List Value} {f : Nat → List Int} (h : RowsZ w base V N f) : ∀ (i : Nat) (x : Value) (b : Nat), V[i]? = some x → x.ownBlock = some b → base ≤ b ∧ b < w.heap.size := fun i x b hx hb => by
  obtain ⟨A, c, h1, h2⟩ := h.at_ i (by have := (List.getElem?_eq_some_iff.1 hx).1; rw [h.len] at this; exact this)
  rw [hx] at h1; injection h1 with h1; subst h1
  exact h2.lt b hb
theorem RowsZ.snoc {w : World} {base N : Nat} {V : List Value} {f : Nat → List Int} (h : RowsZ w base V N f) {A : Option Addr} {n c : Nat} {xs : List Int} (hn : xs.length = n) (ho : w.ownsRow base 3 1 (.slice A n c) n (flatZ xs)) : RowsZ w base (V ++ [.slice A n c]) (N + 1) (fun j => if j = N then xs else f j) := by
  refine ⟨by rw [List.length_append, h.len]; rfl, fun i hi => ?_⟩
  by_cases hc : i = N
  · subst hc
    subst hn
    refine ⟨A, c, ?_, ?_⟩
    · rw [List.getElem?_append_right (by rw [h.len]; omega), h.len]; simp
    · simpa using ho
  · obtain ⟨B, d, h1, h2⟩ := h.at_ i (by omega)
    refine ⟨B, d, ?_, ?_⟩
    · rw [List.getElem?_append_left (by rw [h.len]; omega)]; simpa [hc] using h1
    · simpa [hc] using h2
theorem ApartV.snoc {V : List Value} (h : ApartV V) {v : Value} (hv : ∀ (i : Nat) (x : Value) (b : Nat), V[i]? = some x → x.ownBlock = some b → v.ownBlock ≠ some b) : ApartV (V ++ [v]) := by
  intro i j x y k hij hx hy hk
  have at_ : ∀ (i : Nat) x, (V ++ [v])[i]? = some x → V[i]? = some x ∨ i = V.length ∧ x = v := fun i x h => by
    by_cases hc : i < V.length
    · rw [List.getElem?_append_left hc] at h; exact .inl h
    · rw [List.getElem?_append_right (by omega)] at h
      have : i - V.length = 0 := by
        by_cases h0 : i - V.length = 0
        · exact h0
        · rw [List.getElem?_eq_none (by simp; omega)] at h; cases h
      rw [this] at h
      simp at h
      exact .inr ⟨by omega, h.symm⟩
  rcases at_ i x hx with h1 | ⟨h1, rfl⟩
  · rcases at_ j y hy with h2 | ⟨h2, rfl⟩
    · exact h i j x y k hij h1 h2 hk
    · exact hv i x k h1 hk
  · rcases at_ j y hy with h2 | ⟨h2, rfl⟩
    · intro hc; exact hv j y k h2 hc hk
    · omega
theorem RowsZ.congr {w : World} {base N : Nat} {V : List Value} {f f' : Nat → List Int} (h : RowsZ w base V N f) (e : ∀ i, i < N → f' i = f i) : RowsZ w base V N f' := ⟨h.len, fun i hi => by
  obtain ⟨A, c, h1, h2⟩ := h.at_ i hi
  rw [e i hi]; exact ⟨A, c, h1, h2⟩⟩
/-- Blocks of the rows behind V. -/
def VS (V : List Value) : Nat → Prop := fun k => ∃ (i : Nat) (x : Value), V[i]? = some x ∧ x.ownBlock = some k
theorem own_free {w : World} {base : Nat} {e : TypeId} {s n c g : Nat} {xs : List Value} (h : w.ownsRow base e s (.slice (some ⟨g, 0, none⟩) n c) n xs) (i : Nat) : w.frozen? ⟨g, i, none⟩ = false := by
  rcases h.2 with ⟨e1, _⟩ | ⟨g1, c1, cur, e1, _, hg, _⟩
  · cases e1
  · have e4 : g = g1 := by injection e1 with e1; injection e1 with e1; injection e1
    subst e4
    exact frozen_of_row w g i cur e hg
end Go.Proofs.YtgigkekajdgngaaGreat
