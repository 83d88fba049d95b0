/-
  Lists of entries behind a row of slices: how they lie, and when no two of them share memory. No condition of its own.
-/
import Derived.Test.YtgigkekajdgngaaGreatPostE
import Derived.Test.YtgigkekajdgngaaGreatRowsInts
import Derived.Test.YtgigkekajdgngaaGreatOwn2
namespace Go.Proofs.YtgigkekajdgngaaGreat
open Go Go.RowKit

/-- A list of entries, of the call's own. -/
inductive MadeEn (base : Nat) (e : Ending) (w' : World) (xs : List En) : Prop
  | mk (A : Option Addr) (n c : Nat) (hn : xs.length = n) (he : e = .returned (.slice A n c)) (ho : w'.ownsRow base 61 5 (.slice A n c) n (flatEn xs)) : MadeEn base e w' xs
/-- Lists behind a row of slices. -/
structure RowsEn (w : World) (base : Nat) (V : List Value) (N : Nat) (f : Nat → List En) : Prop where
  len : V.length = N
  at_ : ∀ i, i < N → ∃ A c, V[i]? = some (.slice A (f i).length c) ∧ w.ownsRow base 61 5 (.slice A (f i).length c) (f i).length (flatEn (f i))
theorem RowsEn.frm {w w' : World} {base N : Nat} {V : List Value} {f : Nat → List En} {S : Nat → Prop} (h : RowsEn w base V N f) (k : Frm S w w') (hs : ∀ (i : Nat) (x : Value) (b : Nat), V[i]? = some x → x.ownBlock = some b → ¬ S b) : RowsEn w' base V N f :=
  ⟨h.len, fun i hi => by obtain ⟨A, c, h1, h2⟩ := h.at_ i hi; exact ⟨A, c, h1, own_frm h2 k fun g hg => hs i _ g h1 hg⟩⟩
theorem RowsEn.below {w w' : World} {base N : Nat} {V : List Value} {f : Nat → List En} (h : RowsEn w base V N f) (k : Below w.heap.size w w') : RowsEn w' base V N f :=
  h.frm (S := no) (Frm.of_below k) fun _ _ _ _ _ h => h
theorem RowsEn.ne {w : World} {base base' N s n : Nat} {V : List Value} {f : Nat → List En} {v : Value} {e : TypeId} {xs : List Value} (h : RowsEn w base V N f) (hv : w.ownsRow base' e s v n xs) (he : e ≠ 61) : ∀ (i : Nat) (x : Value) (b : Nat), V[i]? = some x → x.ownBlock = some b → v.ownBlock ≠ some b := fun i x b hx hb => by
  obtain ⟨A, c, h1, h2⟩ := h.at_ i (by have := (List.getElem?_eq_some_iff.1 hx).1; rw [h.len] at this; exact this)
  rw [hx] at h1; injection h1 with h1; subst h1
  exact own_own h2 hv (Ne.symm he) hb
theorem RowsEn.neB {w : World} {base N g : Nat} {V : List Value} {f : Nat → List En} {t : TypeId} {cs : Array Value} (h : RowsEn w base V N f) (hB : Blk w g t cs) (he : t ≠ 61) : ∀ (i : Nat) (x : Value) (b : Nat), V[i]? = some x → x.ownBlock = some b → b ≠ g := fun i x b hx hb e => by
  obtain ⟨A, c, h1, h2⟩ := h.at_ i (by have := (List.getElem?_eq_some_iff.1 hx).1; rw [h.len] at this; exact this)
  rw [hx] at h1; injection h1 with h1; subst h1
  rw [e] at hb
  exact Blk.own_ne hB h2 (Ne.symm he) hb
theorem RowsEn.lt {w : World} {base N : Nat} {V : List Value} {f : Nat → List En} (h : RowsEn w base V N f) : ∀ (i : Nat) (x : Value) (b : Nat), V[i]? = some x → x.ownBlock = some b → base ≤ b ∧ b < w.heap.size := fun i x b hx hb => by
  obtain ⟨A, c, h1, h2⟩ := h.at_ i (by have := (List.getElem?_eq_some_iff.1 hx).1; rw [h.len] at this; exact this)
  rw [hx] at h1; injection h1 with h1; subst h1
  exact h2.lt b hb
theorem RowsEn.snoc {w : World} {base N : Nat} {V : List Value} {f : Nat → List En} (h : RowsEn w base V N f) {A : Option Addr} {n c : Nat} {xs : List En} (hn : xs.length = n) (ho : w.ownsRow base 61 5 (.slice A n c) n (flatEn xs)) : RowsEn w base (V ++ [.slice A n c]) (N + 1) (fun j => if j = N then xs else f j) := by
  refine ⟨by rw [List.length_append, h.len]; rfl, fun i hi => ?_⟩
  by_cases hc : i = N
  · subst hc
    subst hn
    refine ⟨A, c, ?_, ?_⟩
    · rw [List.getElem?_append_right (by rw [h.len]; omega), h.len]; simp
    · simpa using ho
  · obtain ⟨B, d, h1, h2⟩ := h.at_ i (by omega)
    refine ⟨B, d, ?_, ?_⟩
    · rw [List.getElem?_append_left (by rw [h.len]; omega)]; simpa [hc] using h1
    · simpa [hc] using h2
theorem RowsEn.congr {w : World} {base N : Nat} {V : List Value} {f f' : Nat → List En} (h : RowsEn w base V N f) (e : ∀ i, i < N → f' i = f i) : RowsEn w base V N f' := ⟨h.len, fun i hi => by
  obtain ⟨A, c, h1, h2⟩ := h.at_ i hi
  rw [e i hi]; exact ⟨A, c, h1, h2⟩⟩
end Go.Proofs.YtgigkekajdgngaaGreat
