/-
  Arguments that are slices of items, opened. No condition of its own.
-/
import Derived.Test.YtldkhhipfoeckaaRowRecs
import Derived.Test.YtldkhhipfoeckaaItemP
namespace Go.Proofs.Ytldkhhipfoeckaa
open Go Go.RowKit Go.WideShapes Go.ChangeShapes Go.Deep
section
variable {H : Type} {enc : TypeId × Value → H} {P : Program} {w : World} {base : Nat} {spare : Nat → Bool} {held : Bool} {r : Reach}
theorem open_items {t e ti ts : TypeId} {f0 f1 f2 : Field} {v : Value} {d : DataW H} {p : List MemPlace} (ht : P.underlying t = some (.slice e)) (he : P.underlying e = some (.struct #[f0, f1, f2])) (hone : oneCellFields P #[f0, f1, f2] = true) (hC : P.cellsOf e = 3)
    (h0 : f0.type = ts) (h1 : f1.type = ts) (h2 : f2.type = ti) (hi : P.underlying ti = some (.int .i64)) (hs : P.underlying ts = some .string) (hv : Value.okWide P w r base t v) (h : DataW.Trod enc P w 0 spare held t v d p) :
    ∃ (A : Option Addr) (n c : Nat) (ks : List Im), v = .slice A n c ∧ Rd w A (flatI ks) ∧ ks.length = n ∧ n ≤ c ∧ c ≤ maxLen ∧ ∀ k ∈ ks, k.key.size ≤ maxLen ∧ k.val.size ≤ maxLen ∧ -9223372036854775808 ≤ k.kind ∧ k.kind ≤ 9223372036854775807 := by
  refine open_recs Im.cells (fun k => k.key.size ≤ maxLen ∧ k.val.size ≤ maxLen ∧ -9223372036854775808 ≤ k.kind ∧ k.kind ≤ 9223372036854775807) ht he hone hC (fun _ => rfl) (fun cs hcs => ?_) hv h
  obtain ⟨m0, y0, e0⟩ := hcs 0 f0 rfl
  obtain ⟨m1, y1, e1⟩ := hcs 1 f1 rfl
  obtain ⟨m2, y2, e2⟩ := hcs 2 f2 rfl
  rw [h0] at e0
  rw [h1] at e1
  rw [h2] at e2
  obtain ⟨s, es, _, hz⟩ := DataW.trod_string hs e0
  obtain ⟨u, eu, _, hz2⟩ := DataW.trod_string hs e1
  obtain ⟨b, eb, _, wb⟩ := DataW.trod_int hi e2
  refine ⟨⟨s, u, b⟩, ⟨hz, hz2, wf_i64 wb⟩, fun j u hu => ?_⟩
  simp at es eu eb
  match j, hu with
  | 0, hu => simp [Im.cells] at hu; rw [es, ← hu]
  | 1, hu => simp [Im.cells] at hu; rw [eu, ← hu]
  | 2, hu => simp [Im.cells] at hu; rw [eb, ← hu]
  | j + 3, hu => simp [Im.cells] at hu
end
end Go.Proofs.Ytldkhhipfoeckaa
