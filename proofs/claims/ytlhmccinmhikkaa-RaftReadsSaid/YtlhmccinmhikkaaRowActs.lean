/-
  Arguments that are slices of structs of four ints, opened. No condition of its own.
-/
import Derived.Test.YtlhmccinmhikkaaRowRecs
import Derived.Test.YtlhmccinmhikkaaRecP
namespace Go.Proofs.Ytlhmccinmhikkaa
open Go Go.RowKit Go.WideShapes Go.ChangeShapes Go.Deep
/-- Something that is done. -/
structure O4 where
  kind : Int
  a : Int
  b : Int
  c : Int
deriving Inhabited
def O4.cells (x : O4) : List Value := [.int .i64 x.kind, .int .i64 x.a, .int .i64 x.b, .int .i64 x.c]
def flatO (L : List O4) : List Value := L.flatMap O4.cells
def O4.fits (k : O4) : Prop := (-9223372036854775808 ≤ k.kind ∧ k.kind ≤ 9223372036854775807) ∧ (-9223372036854775808 ≤ k.a ∧ k.a ≤ 9223372036854775807) ∧ (-9223372036854775808 ≤ k.b ∧ k.b ≤ 9223372036854775807) ∧ (-9223372036854775808 ≤ k.c ∧ k.c ≤ 9223372036854775807)
section
variable {H : Type} {enc : TypeId × Value → H} {P : Program} {w : World} {base : Nat} {spare : Nat → Bool} {held : Bool} {r : Reach}
theorem open_acts {t e ti : TypeId} {f0 f1 f2 f3 : Field} {v : Value} {d : DataW H} {p : List MemPlace} (ht : P.underlying t = some (.slice e)) (he : P.underlying e = some (.struct #[f0, f1, f2, f3])) (hone : oneCellFields P #[f0, f1, f2, f3] = true) (hC : P.cellsOf e = 4)
    (h0 : f0.type = ti) (h1 : f1.type = ti) (h2 : f2.type = ti) (h3 : f3.type = ti) (hi : P.underlying ti = some (.int .i64)) (hv : Value.okWide P w r base t v) (h : DataW.Trod enc P w 0 spare held t v d p) :
    ∃ (A : Option Addr) (n c : Nat) (ks : List O4), v = .slice A n c ∧ Rd w A (flatO ks) ∧ ks.length = n ∧ n ≤ c ∧ c ≤ maxLen ∧ ∀ k ∈ ks, k.fits := by
  refine open_recs O4.cells O4.fits ht he hone hC (fun _ => rfl) (fun cs hcs => ?_) hv h
  obtain ⟨m0, y0, e0⟩ := hcs 0 f0 rfl
  obtain ⟨m1, y1, e1⟩ := hcs 1 f1 rfl
  obtain ⟨m2, y2, e2⟩ := hcs 2 f2 rfl
  obtain ⟨m3, y3, e3⟩ := hcs 3 f3 rfl
  rw [h0] at e0
  rw [h1] at e1
  rw [h2] at e2
  rw [h3] at e3
  obtain ⟨a0, z0, _, w0⟩ := DataW.trod_int hi e0
  obtain ⟨a1, z1, _, w1⟩ := DataW.trod_int hi e1
  obtain ⟨a2, z2, _, w2⟩ := DataW.trod_int hi e2
  obtain ⟨a3, z3, _, w3⟩ := DataW.trod_int hi e3
  refine ⟨⟨a0, a1, a2, a3⟩, ⟨wf_i64 w0, wf_i64 w1, wf_i64 w2, wf_i64 w3⟩, fun j u hu => ?_⟩
  simp at z0 z1 z2 z3
  match j, hu with
  | 0, hu => simp [O4.cells] at hu; rw [z0, ← hu]
  | 1, hu => simp [O4.cells] at hu; rw [z1, ← hu]
  | 2, hu => simp [O4.cells] at hu; rw [z2, ← hu]
  | 3, hu => simp [O4.cells] at hu; rw [z3, ← hu]
  | j + 4, hu => simp [O4.cells] at hu
end
end Go.Proofs.Ytlhmccinmhikkaa
