/-
  Arguments of nested types, opened: what the cells of a type hold. No condition of its own.
-/
import Derived.Test.YtgigkekajdgngaaRowRecs
namespace Go.Proofs.Ytgigkekajdgngaa
open Go Go.RowKit Go.WideShapes Go.ChangeShapes Go.Deep
section
variable {H : Type} {enc : TypeId × Value → H} {P : Program} {w : World} {spare : Nat → Bool} {held : Bool}
/-- The cells are those of a value of the type. -/
def Dec (enc : TypeId × Value → H) (P : Program) (w : World) (spare : Nat → Bool) (held : Bool) (t : TypeId) (cs : List Value) : Prop := ∃ m y, DataW.trod enc P w 0 spare held m t cs = some y
theorem Dec.int {t : TypeId} {k : IntKind} {cs : List Value} (ht : P.underlying t = some (.int k)) (h : Dec enc P w spare held t cs) : ∃ z : Int, cs = [.int k z] ∧ (Lit.int k z).wf = true := by
  obtain ⟨m, y, h⟩ := h
  obtain ⟨z, e, _, hz⟩ := DataW.trod_int ht h
  exact ⟨z, e, hz⟩
theorem Dec.string {t : TypeId} {cs : List Value} (ht : P.underlying t = some .string) (h : Dec enc P w spare held t cs) : ∃ s : ByteArray, cs = [.string s] ∧ s.size ≤ maxLen := by
  obtain ⟨m, y, h⟩ := h
  obtain ⟨s, e, _, hz⟩ := DataW.trod_string ht h
  exact ⟨s, e, hz⟩
theorem Dec.bool {t : TypeId} {cs : List Value} (ht : P.underlying t = some .bool) (h : Dec enc P w spare held t cs) : ∃ b : Bool, cs = [.bool b] := by
  obtain ⟨m, y, h⟩ := h
  obtain ⟨b, e, _⟩ := DataW.trod_bool ht h
  exact ⟨b, e⟩
theorem Dec.struct {t : TypeId} {fs : Array Field} {cs : List Value} (ht : P.underlying t = some (.struct fs)) (h : Dec enc P w spare held t cs) : cs.length = P.cellsOf t ∧ ∀ (j : Nat) (f : Field), fs[j]? = some f → Dec enc P w spare held f.type ((cs.drop f.offset).take (P.cellsOf f.type)) := by
  obtain ⟨m, y, h⟩ := h
  obtain ⟨ys, n', _, _, hl, hys, hg⟩ := DataW.trod_struct ht h
  refine ⟨hl, fun j f hj => ?_⟩
  have hjl : j < fs.size := (Array.getElem?_eq_some_iff.1 hj).1
  have hyl : ys[j]? = some (ys[j]'(by omega)) := List.getElem?_eq_getElem (by omega)
  exact ⟨n', _, (hg j f hj).trans hyl⟩
/-- The cell is a slice of records. -/
theorem Dec.slice {α : Type} [Inhabited α] (cells : α → List Value) (ok : α → Prop) (K : Nat) {t e : TypeId} {cs : List Value} (ht : P.underlying t = some (.slice e)) (hC : P.cellsOf e = K) (hlen : ∀ x, (cells x).length = K)
    (dec : ∀ cs, cs.length = K → Dec enc P w spare held e cs → ∃ x, ok x ∧ cells x = cs) (h : Dec enc P w spare held t cs) :
    ∃ (A : Option Addr) (n c : Nat) (xs : List α), cs = [.slice A n c] ∧ Rd w A (xs.flatMap cells) ∧ xs.length = n ∧ n ≤ c ∧ c ≤ maxLen ∧ ∀ x ∈ xs, ok x := by
  obtain ⟨fuel, y, hf⟩ := h
  rcases open_slice ht hf with ⟨hcs, _⟩ | ⟨a, len, cap, m, n, D, Pl, hcs, _, hl, hm, hmm, _, hi⟩
  · exact ⟨none, 0, 0, [], hcs, Rd.nil _ _, rfl, Nat.le_refl _, by unfold maxLen; omega, by simp⟩
  · have hlm : len ≤ m := by rw [hmm]; split <;> omega
    have hx : ∀ i, i < len → ∃ x : α, ok x ∧ ∀ j u, (cells x)[j]? = some u → w.cell? (a.add (i * K + j)) = some u := by
      intro i hil
      obtain ⟨cs', hc, ht'⟩ := hi i (by omega)
      rw [hC] at hc
      obtain ⟨_, hcl, hat⟩ := World.cells?_some hc
      obtain ⟨x, hok, hxc⟩ := dec cs' hcl ⟨n, _, ht'⟩
      refine ⟨x, hok, fun j u hu => ?_⟩
      have hjl : j < K := by have := (List.getElem?_eq_some_iff.1 hu).1; rw [hlen] at this; exact this
      rw [← Go.Deep.add_add, hat j hjl, ← hxc]
      exact hu
    obtain ⟨f, hfx⟩ := choose_lt hx
    refine ⟨some a, len, cap, (List.range len).map f, hcs, ?_, by simp, hl, hm, fun x hx => ?_⟩
    · intro j u hu
      obtain ⟨i, x, q, h1, h2, h3⟩ := flat_inv cells K hlen _ j u hu
      rw [List.getElem?_map, Option.map_eq_some_iff] at h1
      obtain ⟨i', hi', rfl⟩ := h1
      have hil : i < len := by have := (List.getElem?_eq_some_iff.1 hi').1; simpa using this
      rw [List.getElem?_range hil] at hi'
      obtain rfl := Option.some.inj hi'
      exact ⟨a, rfl, by rw [h2]; exact (hfx i hil).2 q u h3⟩
    · rw [List.mem_map] at hx
      obtain ⟨i, hi', rfl⟩ := hx
      exact (hfx i (List.mem_range.1 hi')).1
/-- An argument that is a slice of records. -/
theorem open_deep {α : Type} [Inhabited α] (cells : α → List Value) (ok : α → Prop) (K : Nat) {base : Nat} {r : Reach} {t e : TypeId} {v : Value} {d : DataW H} {p : List MemPlace} (ht : P.underlying t = some (.slice e)) (hC : P.cellsOf e = K) (hlen : ∀ x, (cells x).length = K)
    (dec : ∀ cs, cs.length = K → Dec enc P w spare held e cs → ∃ x, ok x ∧ cells x = cs) (hv : Value.okWide P w r base t v) (h : DataW.Trod enc P w 0 spare held t v d p) :
    ∃ (A : Option Addr) (n c : Nat) (xs : List α), v = .slice A n c ∧ Rd w A (xs.flatMap cells) ∧ xs.length = n ∧ n ≤ c ∧ c ≤ maxLen ∧ ∀ x ∈ xs, ok x := by
  obtain ⟨a0, len0, cap0, rfl⟩ := okWide_slice ht hv
  obtain ⟨fuel, hf⟩ := h
  obtain ⟨A, n, c, xs, h1, h2⟩ := Dec.slice cells ok K ht hC hlen dec ⟨fuel, _, hf⟩
  simp [Value.cells] at h1
  obtain ⟨rfl, rfl, rfl⟩ := h1
  exact ⟨_, _, _, xs, rfl, h2⟩
/-- The cell is a slice of numbers. -/
theorem Dec.nums {t e : TypeId} {k : IntKind} {cs : List Value} (ht : P.underlying t = some (.slice e)) (he : P.underlying e = some (.int k)) (hC : P.cellsOf e = 1) (h : Dec enc P w spare held t cs) :
    ∃ (A : Option Addr) (n c : Nat) (zs : List Int), cs = [.slice A n c] ∧ Rd w A (zs.map (Value.int k)) ∧ zs.length = n ∧ n ≤ c ∧ c ≤ maxLen ∧ ∀ z ∈ zs, (Lit.int k z).wf = true := by
  have := Dec.slice (fun z : Int => [Value.int k z]) (fun z => (Lit.int k z).wf = true) 1 ht hC (fun _ => rfl) (fun cs _ hd => by
    obtain ⟨z, e, hz⟩ := hd.int he
    exact ⟨z, hz, e.symm⟩) h
  obtain ⟨A, n, c, zs, h1, h2, h3⟩ := this
  have e : ∀ l : List Int, (l.flatMap fun z : Int => [Value.int k z]) = l.map (Value.int k) := fun l => by
    induction l with
    | nil => rfl
    | cons x l ih => rw [List.flatMap_cons, ih]; rfl
  exact ⟨A, n, c, zs, h1, by rw [← e]; exact h2, h3⟩
end
end Go.Proofs.Ytgigkekajdgngaa
