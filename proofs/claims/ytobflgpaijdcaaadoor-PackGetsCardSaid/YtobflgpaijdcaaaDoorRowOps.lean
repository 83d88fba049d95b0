/-
  Arguments that are slices of the pack laws' acts, opened. No condition of its own.
-/
import Derived.Test.YtobflgpaijdcaaaDoorRowRecs
import Derived.Test.YtobflgpaijdcaaaDoorPackOps
namespace Go.Proofs.YtobflgpaijdcaaaDoor
open Go Go.RowKit Go.WideShapes Go.ChangeShapes Go.Deep
section
variable {H : Type} {enc : TypeId × Value → H} {P : Program} {w : World} {base : Nat} {spare : Nat → Bool} {held : Bool} {r : Reach}
theorem open_ops {t e ti ts : TypeId} {f0 f1 f2 : Field} {v : Value} {d : DataW H} {p : List MemPlace} (ht : P.underlying t = some (.slice e)) (he : P.underlying e = some (.struct #[f0, f1, f2])) (hone : oneCellFields P #[f0, f1, f2] = true) (hC : P.cellsOf e = 3)
    (h0 : f0.type = ti) (h1 : f1.type = ti) (h2 : f2.type = ts) (hi : P.underlying ti = some (.int .i64)) (hs : P.underlying ts = some .string) (hv : Value.okWide P w r base t v) (h : DataW.Trod enc P w 0 spare held t v d p) :
    ∃ (A : Option Addr) (n c : Nat) (os : List OpV), v = .slice A n c ∧ Rd w A (flatO os) ∧ os.length = n ∧ n ≤ c ∧ c ≤ maxLen ∧ ∀ o ∈ os, o.txt.size ≤ maxLen ∧ -9223372036854775808 ≤ o.num ∧ o.num ≤ 9223372036854775807 := by
  refine open_recs OpV.cells (fun o => o.txt.size ≤ maxLen ∧ -9223372036854775808 ≤ o.num ∧ o.num ≤ 9223372036854775807) ht he hone hC (fun _ => rfl) (fun cs hcs => ?_) hv h
  obtain ⟨m0, y0, e0⟩ := hcs 0 f0 rfl
  obtain ⟨m1, y1, e1⟩ := hcs 1 f1 rfl
  obtain ⟨m2, y2, e2⟩ := hcs 2 f2 rfl
  rw [h0] at e0
  rw [h1] at e1
  rw [h2] at e2
  obtain ⟨a, ea, _, _⟩ := DataW.trod_int hi e0
  obtain ⟨b, eb, _, wb⟩ := DataW.trod_int hi e1
  obtain ⟨s, es, _, hz⟩ := DataW.trod_string hs e2
  refine ⟨⟨a, b, s⟩, ⟨hz, wf_i64 wb⟩, fun j u hu => ?_⟩
  simp at ea eb es
  match j, hu with
  | 0, hu => simp [OpV.cells] at hu; rw [ea, ← hu]
  | 1, hu => simp [OpV.cells] at hu; rw [eb, ← hu]
  | 2, hu => simp [OpV.cells] at hu; rw [es, ← hu]
  | j + 3, hu => simp [OpV.cells] at hu
end
end Go.Proofs.YtobflgpaijdcaaaDoor
