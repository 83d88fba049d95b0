/-
  An argument that is a message, opened. No condition of its own.
-/
import Derived.Test.YtgigkekajdgngaaGreatMtOne
import Derived.Test.YtgigkekajdgngaaGreatPostD
import Derived.Lib.SmallJoins
namespace Go.Proofs.YtgigkekajdgngaaGreat
open Go Go.RowKit Go.WideShapes Go.ChangeShapes Go.Deep Go.Joins
section
variable {H : Type} {enc : TypeId × Value → H} {P : Program} {w : World} {base : Nat} {spare : Nat → Bool} {held : Bool} {r : Reach}
theorem En.fits.lies {w : World} {x : En} (h : x.fits w) : x.lies w := ⟨h.2.2.2.2.1, h.2.2.2.2.2.1, h.2.2.2.2.2.2.1, fun y hy => (h.2.2.2.2.2.2.2 y hy).short⟩
theorem open_msg {e te t ti tb tq tl tc ts : TypeId} {f0 f1 f2 f3 f4 f5 f6 f7 f8 g0 g1 g2 q0 q1 q2 c0 c1 c2 c3 c4 : Field} {v : Value} {d : DataW H} {p : List MemPlace} (he : P.underlying e = some (.struct #[f0, f1, f2, f3, f4, f5, f6, f7, f8])) (hone : oneCellFields P #[f0, f1, f2, f3, f4, f5, f6, f7, f8] = true) (hC : P.cellsOf e = 9)
    (h0 : f0.type = ti) (h1 : f1.type = ti) (h2 : f2.type = ti) (h3 : f3.type = ti) (h4 : f4.type = ti) (h5 : f5.type = ti) (h6 : f6.type = tb) (h7 : f7.type = ts) (h8 : f8.type = te) (hi : P.underlying ti = some (.int .i64)) (hs : P.underlying ts = some .string) (hb : P.underlying tb = some .bool)
    (hte : P.underlying te = some (.slice t)) (ht : P.underlying t = some (.struct #[g0, g1, g2])) (o0 : g0.offset = 0) (o1 : g1.offset = 1) (o2 : g2.offset = 2) (j0 : g0.type = ti) (j1 : g1.type = ti) (j2 : g2.type = tq) (ci : P.cellsOf ti = 1) (cq : P.cellsOf tq = 3) (ct : P.cellsOf t = 5) (hq : P.underlying tq = some (.struct #[q0, q1, q2])) (honeq : oneCellFields P #[q0, q1, q2] = true) (y0 : q0.type = ti) (y1 : q1.type = ti) (y2 : q2.type = tl) (hl : P.underlying tl = some (.slice tc)) (hc : P.underlying tc = some (.struct #[c0, c1, c2, c3, c4])) (honec : oneCellFields P #[c0, c1, c2, c3, c4] = true) (cc : P.cellsOf tc = 5) (z0 : c0.type = ti) (z1 : c1.type = ts) (z2 : c2.type = ts) (z3 : c3.type = ts) (z4 : c4.type = ts) (hv : Value.okWide P w r base e v) (h : DataW.Trod enc P w 0 spare held e v d p) :
    ∃ (m : Ms) (A : Option Addr) (n c : Nat), v = m.v A n c ∧ Rd w A (flatEn m.es) ∧ m.es.length = n ∧ n ≤ maxLen ∧ m.txt.size ≤ maxLen ∧ ∀ x ∈ m.es, x.fits w := by
  obtain ⟨cs, rfl, hsz⟩ := okWide_struct he hv
  obtain ⟨fuel, hf⟩ := h
  have hd : Dec enc P w spare held e cs.toList := ⟨fuel, _, hf⟩
  have hl9 : cs.toList.length = 9 := by rw [Array.length_toList]; exact hsz.trans hC
  obtain ⟨_, hg⟩ := hd.struct he
  obtain ⟨m0, k0⟩ := hone_of hone 0 f0 rfl
  obtain ⟨m1, k1⟩ := hone_of hone 1 f1 rfl
  obtain ⟨m2, k2⟩ := hone_of hone 2 f2 rfl
  obtain ⟨m3, k3⟩ := hone_of hone 3 f3 rfl
  obtain ⟨m4, k4⟩ := hone_of hone 4 f4 rfl
  obtain ⟨m5, k5⟩ := hone_of hone 5 f5 rfl
  obtain ⟨m6, k6⟩ := hone_of hone 6 f6 rfl
  obtain ⟨m7, k7⟩ := hone_of hone 7 f7 rfl
  obtain ⟨m8, k8⟩ := hone_of hone 8 f8 rfl
  have d0 := hg 0 f0 rfl
  have d1 := hg 1 f1 rfl
  have d2 := hg 2 f2 rfl
  have d3 := hg 3 f3 rfl
  have d4 := hg 4 f4 rfl
  have d5 := hg 5 f5 rfl
  have d6 := hg 6 f6 rfl
  have d7 := hg 7 f7 rfl
  have d8 := hg 8 f8 rfl
  rw [m0, k0, h0] at d0
  rw [m1, k1, h1] at d1
  rw [m2, k2, h2] at d2
  rw [m3, k3, h3] at d3
  rw [m4, k4, h4] at d4
  rw [m5, k5, h5] at d5
  rw [m6, k6, h6] at d6
  rw [m7, k7, h7] at d7
  rw [m8, k8, h8] at d8
  obtain ⟨ds, hds⟩ : ∃ ds, ds = cs.toList := ⟨_, rfl⟩
  rw [← hds] at d0 d1 d2 d3 d4 d5 d6 d7 d8 hl9
  match ds, hl9 with
  | [a0, a1, a2, a3, a4, a5, a6, a7, a8], _ =>
    obtain ⟨z0', e0, _⟩ := d0.int hi
    obtain ⟨z1', e1, _⟩ := d1.int hi
    obtain ⟨z2', e2, _⟩ := d2.int hi
    obtain ⟨z3', e3, _⟩ := d3.int hi
    obtain ⟨z4', e4, _⟩ := d4.int hi
    obtain ⟨z5', e5, _⟩ := d5.int hi
    obtain ⟨b6, e6⟩ := d6.bool hb
    obtain ⟨s7, e7, w7⟩ := d7.string hs
    obtain ⟨A, n, c, l, e8, r8, l8, n8, x8, y8⟩ := d8.slice En.cells (En.fits w) 5 hte ct (fun _ => rfl) (fun _ h5 hd => hd.en ht o0 o1 o2 j0 j1 j2 ci cq hq honeq y0 y1 y2 hl hc honec cc z0 z1 z2 z3 z4 hi hs h5)
    simp at e0 e1 e2 e3 e4 e5 e6 e7 e8
    subst e0 e1 e2 e3 e4 e5 e6 e7 e8
    refine ⟨⟨z0', z1', z2', z3', z4', z5', b6, s7, l⟩, A, n, c, ?_, r8, l8, Nat.le_trans n8 x8, w7, y8⟩
    have e1 : cs = #[.int .i64 z0', .int .i64 z1', .int .i64 z2', .int .i64 z3', .int .i64 z4', .int .i64 z5', .bool b6, .string s7, .slice A n c] := by
      rw [← Array.toArray_toList (xs := cs), ← hds]
    rw [e1]; rfl
end
end Go.Proofs.YtgigkekajdgngaaGreat
