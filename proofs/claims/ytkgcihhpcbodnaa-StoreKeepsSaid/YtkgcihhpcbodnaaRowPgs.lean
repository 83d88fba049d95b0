/-
  Arguments that are slices of pages, opened. No condition of its own.
-/
import Derived.Test.YtkgcihhpcbodnaaOne
import Derived.Test.YtkgcihhpcbodnaaStoreP
namespace Go.Proofs.Ytkgcihhpcbodnaa
open Go Go.RowKit Go.WideShapes Go.ChangeShapes Go.Deep
section
variable {H : Type} {enc : TypeId × Value → H} {P : Program} {w : World} {base : Nat} {spare : Nat → Bool} {held : Bool} {r : Reach}
instance : Inhabited Pv := ⟨noPv⟩
theorem open_pgs {t e ti ts : TypeId} {f0 f1 f2 f3 : Field} {v : Value} {d : DataW H} {p : List MemPlace} (ht : P.underlying t = some (.slice e)) (he : P.underlying e = some (.struct #[f0, f1, f2, f3])) (hone : oneCellFields P #[f0, f1, f2, f3] = true) (hC : P.cellsOf e = 4)
    (h0 : f0.type = ti) (h1 : f1.type = ti) (h2 : f2.type = ti) (h3 : f3.type = ts) (hi : P.underlying ti = some (.int .i64)) (hs : P.underlying ts = some .string) (hv : Value.okWide P w r base t v) (h : DataW.Trod enc P w 0 spare held t v d p) :
    ∃ (A : Option Addr) (n c : Nat) (ks : List Pv), v = .slice A n c ∧ Rd w A (flatPv ks) ∧ ks.length = n ∧ n ≤ c ∧ c ≤ maxLen ∧ ∀ k ∈ ks, k.bd.size ≤ 9223372036854775807 := by
  refine open_recs Pv.cells (fun k => k.bd.size ≤ 9223372036854775807) ht he hone hC (fun _ => rfl) (fun cs hcs => ?_) hv h
  obtain ⟨m0, y0, e0⟩ := hcs 0 f0 rfl
  obtain ⟨m1, y1, e1⟩ := hcs 1 f1 rfl
  obtain ⟨m2, y2, e2⟩ := hcs 2 f2 rfl
  obtain ⟨m3, y3, e3⟩ := hcs 3 f3 rfl
  rw [h0] at e0
  rw [h1] at e1
  rw [h2] at e2
  rw [h3] at e3
  obtain ⟨a, ea, _, _⟩ := DataW.trod_int hi e0
  obtain ⟨b, eb, _, _⟩ := DataW.trod_int hi e1
  obtain ⟨c, ec, _, _⟩ := DataW.trod_int hi e2
  obtain ⟨s, es, _, hz⟩ := DataW.trod_string hs e3
  refine ⟨⟨a, b, c, s⟩, by unfold maxLen at hz; show s.size ≤ _; omega, fun j u hu => ?_⟩
  simp at ea eb ec es
  match j, hu with
  | 0, hu => simp [Pv.cells] at hu; rw [ea, ← hu]
  | 1, hu => simp [Pv.cells] at hu; rw [eb, ← hu]
  | 2, hu => simp [Pv.cells] at hu; rw [ec, ← hu]
  | 3, hu => simp [Pv.cells] at hu; rw [es, ← hu]
  | j + 4, hu => simp [Pv.cells] at hu
end
end Go.Proofs.Ytkgcihhpcbodnaa
