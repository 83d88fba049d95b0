/-
  Arguments of the disk laws: acts in a slice, and one act by itself, opened. No condition of its own.
-/
import Derived.Test.YtfgpadikmnhldaaOne
import Derived.Test.YtfgpadikmnhldaaOpOne
import Derived.Lib.SmallJoins
namespace Go.Proofs.Ytfgpadikmnhldaa
open Go Go.RowKit Go.WideShapes Go.ChangeShapes Go.Deep Go.Joins
section
variable {H : Type} {enc : TypeId × Value → H} {P : Program} {w : World} {base : Nat} {spare : Nat → Bool} {held : Bool} {r : Reach}
theorem dec_opd {e ti ts tb tl : TypeId} {f0 f1 f2 f3 f4 f5 f6 : Field} {cs : List Value} (he : P.underlying e = some (.struct #[f0, f1, f2, f3, f4, f5, f6])) (hone : oneCellFields P #[f0, f1, f2, f3, f4, f5, f6] = true)
    (h0 : f0.type = ti) (h1 : f1.type = ts) (h2 : f2.type = ts) (h3 : f3.type = ti) (h4 : f4.type = ti) (h5 : f5.type = tb) (h6 : f6.type = tl) (hi : P.underlying ti = some (.int .i64)) (hs : P.underlying ts = some .string) (hb : P.underlying tb = some .bool) (hl : P.underlying tl = some (.slice ti)) (ci : P.cellsOf ti = 1)
    (hl7 : cs.length = 7) (hd : Dec enc P w spare held e cs) : ∃ x : OpD, x.fits w ∧ x.cells = cs := by
  obtain ⟨_, hg⟩ := hd.struct he
  obtain ⟨o0, k0⟩ := hone_of hone 0 f0 rfl
  obtain ⟨o1, k1⟩ := hone_of hone 1 f1 rfl
  obtain ⟨o2, k2⟩ := hone_of hone 2 f2 rfl
  obtain ⟨o3, k3⟩ := hone_of hone 3 f3 rfl
  obtain ⟨o4, k4⟩ := hone_of hone 4 f4 rfl
  obtain ⟨o5, k5⟩ := hone_of hone 5 f5 rfl
  obtain ⟨o6, k6⟩ := hone_of hone 6 f6 rfl
  have g0 := hg 0 f0 rfl
  have g1 := hg 1 f1 rfl
  have g2 := hg 2 f2 rfl
  have g3 := hg 3 f3 rfl
  have g4 := hg 4 f4 rfl
  have g5 := hg 5 f5 rfl
  have g6 := hg 6 f6 rfl
  rw [o0, k0, h0] at g0
  rw [o1, k1, h1] at g1
  rw [o2, k2, h2] at g2
  rw [o3, k3, h3] at g3
  rw [o4, k4, h4] at g4
  rw [o5, k5, h5] at g5
  rw [o6, k6, h6] at g6
  match cs, hl7 with
  | [c0, c1, c2, c3, c4, c5, c6], _ =>
    obtain ⟨z0, e0, _⟩ := g0.int hi
    obtain ⟨s1, e1, w1⟩ := g1.string hs
    obtain ⟨s2, e2, w2⟩ := g2.string hs
    obtain ⟨z3, e3, w3⟩ := g3.int hi
    obtain ⟨z4, e4, _⟩ := g4.int hi
    obtain ⟨b5, e5⟩ := g5.bool hb
    obtain ⟨A, n, cp, zs, e6, r6, l6, m6, x6, _⟩ := g6.nums hl hi ci
    simp at e0 e1 e2 e3 e4 e5 e6
    subst e0 e1 e2 e3 e4 e5 e6
    exact ⟨⟨z0, s1, s2, z3, z4, b5, A, n, cp, zs⟩, ⟨wf_i64 w3, by rw [flatZ_map]; exact r6, l6, w1, w2, Nat.le_trans m6 x6⟩, rfl⟩
theorem open_opds {t e ti ts tb tl : TypeId} {f0 f1 f2 f3 f4 f5 f6 : Field} {v : Value} {d : DataW H} {p : List MemPlace} (ht : P.underlying t = some (.slice e)) (he : P.underlying e = some (.struct #[f0, f1, f2, f3, f4, f5, f6])) (hone : oneCellFields P #[f0, f1, f2, f3, f4, f5, f6] = true) (hC : P.cellsOf e = 7)
    (h0 : f0.type = ti) (h1 : f1.type = ts) (h2 : f2.type = ts) (h3 : f3.type = ti) (h4 : f4.type = ti) (h5 : f5.type = tb) (h6 : f6.type = tl) (hi : P.underlying ti = some (.int .i64)) (hs : P.underlying ts = some .string) (hb : P.underlying tb = some .bool) (hl : P.underlying tl = some (.slice ti)) (ci : P.cellsOf ti = 1) (hv : Value.okWide P w r base t v) (h : DataW.Trod enc P w 0 spare held t v d p) :
    ∃ (A : Option Addr) (n c : Nat) (os : List OpD), v = .slice A n c ∧ Rd w A (flatD os) ∧ os.length = n ∧ n ≤ c ∧ c ≤ maxLen ∧ ∀ o ∈ os, o.fits w :=
  open_deep OpD.cells (OpD.fits w) 7 ht hC (fun _ => rfl) (fun _ hl7 hd => dec_opd he hone h0 h1 h2 h3 h4 h5 h6 hi hs hb hl ci hl7 hd) hv h
theorem open_opd {e ti ts tb tl : TypeId} {f0 f1 f2 f3 f4 f5 f6 : Field} {v : Value} {d : DataW H} {p : List MemPlace} (he : P.underlying e = some (.struct #[f0, f1, f2, f3, f4, f5, f6])) (hone : oneCellFields P #[f0, f1, f2, f3, f4, f5, f6] = true) (hC : P.cellsOf e = 7)
    (h0 : f0.type = ti) (h1 : f1.type = ts) (h2 : f2.type = ts) (h3 : f3.type = ti) (h4 : f4.type = ti) (h5 : f5.type = tb) (h6 : f6.type = tl) (hi : P.underlying ti = some (.int .i64)) (hs : P.underlying ts = some .string) (hb : P.underlying tb = some .bool) (hl : P.underlying tl = some (.slice ti)) (ci : P.cellsOf ti = 1) (hv : Value.okWide P w r base e v) (h : DataW.Trod enc P w 0 spare held e v d p) :
    ∃ x : OpD, v = opV x ∧ x.fits w := by
  obtain ⟨cs, rfl, hsz⟩ := okWide_struct he hv
  obtain ⟨fuel, hf⟩ := h
  obtain ⟨x, hx, hc⟩ := dec_opd he hone h0 h1 h2 h3 h4 h5 h6 hi hs hb hl ci (by rw [Array.length_toList]; exact hsz.trans hC) ⟨fuel, _, hf⟩
  refine ⟨x, ?_, hx⟩
  have hc2 : x.cells = cs.toList := hc
  have e1 : cs = x.cells.toArray := by rw [hc2, Array.toArray_toList]
  rw [e1]; rfl
end
end Go.Proofs.Ytfgpadikmnhldaa
