/-
  Arguments that are slices of structs of one-cell fields, opened. No condition of its own.
-/
import Derived.Test.YtgigkekajdgngaaRow
import Derived.Deep.Slices
import Derived.Deep.Fields
import Derived.Lib.SmallJoins
namespace Go.Proofs.Ytgigkekajdgngaa
open Go Go.RowKit Go.WideShapes Go.ChangeShapes Go.Deep

theorem flat_inv {α : Type} (cells : α → List Value) (k : Nat) (hk : ∀ x, (cells x).length = k) : ∀ (xs : List α) (j : Nat) (v : Value), (xs.flatMap cells)[j]? = some v → ∃ i x r, xs[i]? = some x ∧ j = i * k + r ∧ (cells x)[r]? = some v
  | [], j, v, h => by simp at h
  | x :: xs, j, v, h => by
    rw [List.flatMap_cons] at h
    by_cases hj : j < k
    · rw [List.getElem?_append_left (by rw [hk]; exact hj)] at h
      exact ⟨0, x, j, rfl, by omega, h⟩
    · rw [List.getElem?_append_right (by rw [hk]; omega), hk] at h
      obtain ⟨i, y, r, h1, h2, h3⟩ := flat_inv cells k hk xs (j - k) v h
      exact ⟨i + 1, y, r, by simpa using h1, by rw [Nat.add_mul]; omega, h3⟩

section
variable {H : Type} {enc : TypeId × Value → H} {P : Program} {w : World} {base : Nat} {spare : Nat → Bool} {held : Bool} {r : Reach}
theorem open_recs {α : Type} [Inhabited α] (cells : α → List Value) (ok : α → Prop) {t e : TypeId} {fs : Array Field} {v : Value} {d : DataW H} {p : List MemPlace} (ht : P.underlying t = some (.slice e)) (he : P.underlying e = some (.struct fs))
    (hone : oneCellFields P fs = true) (hC : P.cellsOf e = fs.size) (hlen : ∀ x, (cells x).length = fs.size)
    (dec : ∀ cs : Nat → Value, (∀ j f, fs[j]? = some f → ∃ m y, DataW.trod enc P w 0 spare held m f.type [cs j] = some y) → ∃ x, ok x ∧ ∀ j u, (cells x)[j]? = some u → cs j = u)
    (hv : Value.okWide P w r base t v) (h : DataW.Trod enc P w 0 spare held t v d p) :
    ∃ (A : Option Addr) (n c : Nat) (xs : List α), v = .slice A n c ∧ Rd w A (xs.flatMap cells) ∧ xs.length = n ∧ n ≤ c ∧ c ≤ maxLen ∧ ∀ x ∈ xs, ok x := by
  obtain ⟨a0, len0, cap0, rfl⟩ := okWide_slice ht hv
  obtain ⟨fuel, hf⟩ := h
  rcases open_slice ht hf with ⟨hcs, _⟩ | ⟨a, len, cap, m, n, D, Pl, hcs, _, hl, hm, hmm, _, hi⟩
  · simp [Value.cells] at hcs
    obtain ⟨rfl, rfl, rfl⟩ := hcs
    exact ⟨none, 0, 0, [], rfl, Rd.nil _ _, rfl, Nat.le_refl _, by unfold maxLen; omega, by simp⟩
  · simp [Value.cells] at hcs
    obtain ⟨rfl, rfl, rfl⟩ := hcs
    have hlm : len0 ≤ m := by rw [hmm]; split <;> omega
    have hx : ∀ i, i < len0 → ∃ x : α, ok x ∧ ∀ j u, (cells x)[j]? = some u → w.cell? (a.add (i * fs.size + j)) = some u := by
      intro i hil
      obtain ⟨cs', hc, ht'⟩ := hi i (by omega)
      rw [hC] at hc
      obtain ⟨_, hcl, hat⟩ := World.cells?_some hc
      obtain ⟨ys, n', _, _, _, _, hg⟩ := DataW.trod_struct he ht'
      obtain ⟨x, hok, hxc⟩ := dec (fun j => cs'.getD j default) (fun j f hj => by
        obtain ⟨ho, hk⟩ := hone_of hone j f hj
        have hjl : j < fs.size := (Array.getElem?_eq_some_iff.1 hj).1
        have h1 := hg j f hj
        rw [ho, hk] at h1
        have e1 : (cs'.drop j).take 1 = [cs'.getD j default] := by
          rw [List.drop_eq_getElem_cons (by omega), List.getD_eq_getElem?_getD, List.getElem?_eq_getElem (by omega)]
          rfl
        rw [e1] at h1
        obtain ⟨_, hys, _⟩ := DataW.trod_struct he ht'
        have hyl : ys[j]? = some (ys[j]'(by omega)) := List.getElem?_eq_getElem (by omega)
        exact ⟨n', _, h1.trans hyl⟩)
      refine ⟨x, hok, fun j u hu => ?_⟩
      have hjl : j < fs.size := by have := (List.getElem?_eq_some_iff.1 hu).1; rw [hlen] at this; exact this
      rw [← Go.Deep.add_add, hat j hjl, List.getElem?_eq_getElem (by omega)]
      have := hxc j u hu
      rw [List.getD_eq_getElem?_getD, List.getElem?_eq_getElem (by omega)] at this
      exact congrArg some this
    obtain ⟨f, hfx⟩ := choose_lt hx
    refine ⟨some a, len0, cap0, (List.range len0).map f, rfl, ?_, by simp, hl, hm, fun x hx => ?_⟩
    · intro j u hu
      obtain ⟨i, x, q, h1, h2, h3⟩ := flat_inv cells fs.size hlen _ j u hu
      rw [List.getElem?_map, Option.map_eq_some_iff] at h1
      obtain ⟨i', hi', rfl⟩ := h1
      have hil : i < len0 := by have := (List.getElem?_eq_some_iff.1 hi').1; simpa using this
      rw [List.getElem?_range hil] at hi'
      obtain rfl := Option.some.inj hi'
      exact ⟨a, rfl, by rw [h2]; exact (hfx i hil).2 q u h3⟩
    · rw [List.mem_map] at hx
      obtain ⟨i, hi', rfl⟩ := hx
      exact (hfx i (List.mem_range.1 hi')).1
end
end Go.Proofs.Ytgigkekajdgngaa
