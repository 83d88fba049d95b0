/-
  Arguments that are slices of the net law's acts, opened. No condition of its own.
-/
import Derived.Test.YtpkbfdgfdgkbkaaRowDeep
import Derived.Test.YtpkbfdgfdgkbkaaNetM
namespace Go.Proofs.Ytpkbfdgfdgkbkaa
open Go Go.RowKit Go.WideShapes Go.ChangeShapes Go.Deep
/-- Something that is done to a net. -/
structure OpN where
  kind : Int
  a : Int
  b : Int
  A : Option Addr
  n : Nat
  c : Nat
  ps : List Pk
  own : Bool
deriving Inhabited
instance : Inhabited Pk := ⟨⟨0, 0, ByteArray.empty⟩⟩
def OpN.cells (x : OpN) : List Value := [.int .i64 x.kind, .int .i64 x.a, .int .i64 x.b, .slice x.A x.n x.c, .bool x.own]
def flatN (L : List OpN) : List Value := L.flatMap OpN.cells
def OpN.fits (w : World) (x : OpN) : Prop := Rd w x.A (flatK x.ps) ∧ x.ps.length = x.n ∧ x.n ≤ maxLen
theorem flatN_len (L : List OpN) : (flatN L).length = L.length * 5 := flat_len OpN.cells (fun _ => rfl) L
theorem flatN_at (L : List OpN) (k : Nat) (x : OpN) (h : L[k]? = some x) (j : Nat) (v : Value) (hv : x.cells[j]? = some v) : (flatN L)[k * 5 + j]? = some v := flat_at OpN.cells (fun _ => rfl) L k x h j v hv
theorem Rd.opn {w : World} {A : Option Addr} {L : List OpN} (h : Rd w A (flatN L)) {k : Nat} (hk : k < L.length) : ∃ b o x, A = some ⟨b, o, none⟩ ∧ b < w.heap.size ∧ L[k]? = some x ∧ w.cell? ⟨b, o + k * 5, none⟩ = some (.int .i64 x.kind) ∧ w.cell? ⟨b, o + k * 5 + 1, none⟩ = some (.int .i64 x.a) ∧ w.cell? ⟨b, o + k * 5 + 2, none⟩ = some (.int .i64 x.b) ∧ w.cell? ⟨b, o + k * 5 + 3, none⟩ = some (.slice x.A x.n x.c) ∧ w.cell? ⟨b, o + k * 5 + 4, none⟩ = some (.bool x.own) := by
  obtain ⟨x, hx⟩ : ∃ x, L[k]? = some x := ⟨L[k]'hk, List.getElem?_eq_getElem _⟩
  obtain ⟨b, o, e, hb, hc⟩ := h.flat (by rw [flatN_len]; omega)
  refine ⟨b, o, x, e, hb, hx, ?_, ?_, ?_, ?_, ?_⟩
  · have := hc _ _ (flatN_at L k x hx 0 _ rfl); simpa using this
  · have := hc _ _ (flatN_at L k x hx 1 _ rfl); rwa [← Nat.add_assoc] at this
  · have := hc _ _ (flatN_at L k x hx 2 _ rfl); rwa [← Nat.add_assoc] at this
  · have := hc _ _ (flatN_at L k x hx 3 _ rfl); rwa [← Nat.add_assoc] at this
  · have := hc _ _ (flatN_at L k x hx 4 _ rfl); rwa [← Nat.add_assoc] at this
section
variable {H : Type} {enc : TypeId × Value → H} {P : Program} {w : World} {base : Nat} {spare : Nat → Bool} {held : Bool} {r : Reach}
theorem Dec.pk {t ti ts : TypeId} {f0 f1 f2 : Field} {cs : List Value} (ht : P.underlying t = some (.struct #[f0, f1, f2])) (hone : oneCellFields P #[f0, f1, f2] = true) (h0 : f0.type = ti) (h1 : f1.type = ti) (h2 : f2.type = ts) (hi : P.underlying ti = some (.int .i64)) (hs : P.underlying ts = some .string)
    (hl3 : cs.length = 3) (hd : Dec enc P w spare held t cs) : ∃ x : Pk, True ∧ x.cells = cs := by
  obtain ⟨_, hg⟩ := hd.struct ht
  obtain ⟨o0, k0⟩ := hone_of hone 0 f0 rfl
  obtain ⟨o1, k1⟩ := hone_of hone 1 f1 rfl
  obtain ⟨o2, k2⟩ := hone_of hone 2 f2 rfl
  have g0 := hg 0 f0 rfl
  have g1 := hg 1 f1 rfl
  have g2 := hg 2 f2 rfl
  rw [o0, k0, h0] at g0
  rw [o1, k1, h1] at g1
  rw [o2, k2, h2] at g2
  match cs, hl3 with
  | [a, b, c], _ =>
    obtain ⟨z0, e0, _⟩ := g0.int hi
    obtain ⟨z1, e1, _⟩ := g1.int hi
    obtain ⟨s, e2, _⟩ := g2.string hs
    simp at e0 e1 e2
    subst e0 e1 e2
    exact ⟨⟨z0, z1, s⟩, trivial, rfl⟩
theorem open_opns {t e ti tp tk ts tb : TypeId} {f0 f1 f2 f3 f4 p0 p1 p2 : Field} {v : Value} {d : DataW H} {p : List MemPlace} (ht : P.underlying t = some (.slice e)) (he : P.underlying e = some (.struct #[f0, f1, f2, f3, f4])) (hone : oneCellFields P #[f0, f1, f2, f3, f4] = true) (hC : P.cellsOf e = 5)
    (h0 : f0.type = ti) (h1 : f1.type = ti) (h2 : f2.type = ti) (h3 : f3.type = tp) (h4 : f4.type = tb) (hi : P.underlying ti = some (.int .i64)) (hp : P.underlying tp = some (.slice tk)) (hk : P.underlying tk = some (.struct #[p0, p1, p2])) (honek : oneCellFields P #[p0, p1, p2] = true) (hCk : P.cellsOf tk = 3)
    (q0 : p0.type = ti) (q1 : p1.type = ti) (q2 : p2.type = ts) (hs : P.underlying ts = some .string) (hb : P.underlying tb = some .bool) (hv : Value.okWide P w r base t v) (h : DataW.Trod enc P w 0 spare held t v d p) :
    ∃ (A : Option Addr) (n c : Nat) (os : List OpN), v = .slice A n c ∧ Rd w A (flatN os) ∧ os.length = n ∧ n ≤ c ∧ c ≤ maxLen ∧ ∀ o ∈ os, o.fits w := by
  refine open_deep OpN.cells (OpN.fits w) 5 ht hC (fun _ => rfl) (fun cs hl5 hd => ?_) hv h
  obtain ⟨_, hg⟩ := hd.struct he
  obtain ⟨o0, k0⟩ := hone_of hone 0 f0 rfl
  obtain ⟨o1, k1⟩ := hone_of hone 1 f1 rfl
  obtain ⟨o2, k2⟩ := hone_of hone 2 f2 rfl
  obtain ⟨o3, k3⟩ := hone_of hone 3 f3 rfl
  obtain ⟨o4, k4⟩ := hone_of hone 4 f4 rfl
  have g0 := hg 0 f0 rfl
  have g1 := hg 1 f1 rfl
  have g2 := hg 2 f2 rfl
  have g3 := hg 3 f3 rfl
  have g4 := hg 4 f4 rfl
  rw [o0, k0, h0] at g0
  rw [o1, k1, h1] at g1
  rw [o2, k2, h2] at g2
  rw [o3, k3, h3] at g3
  rw [o4, k4, h4] at g4
  match cs, hl5 with
  | [a, b, c, dd, ee], _ =>
    obtain ⟨z0, e0, _⟩ := g0.int hi
    obtain ⟨z1, e1, _⟩ := g1.int hi
    obtain ⟨z2, e2, _⟩ := g2.int hi
    obtain ⟨A, n, cp, ps, e3, r3, l3, n3, m3, _⟩ := Dec.slice Pk.cells (fun _ => True) 3 hp hCk (fun _ => rfl) (fun cs hl3 hd => Dec.pk hk honek q0 q1 q2 hi hs hl3 hd) g3
    obtain ⟨bb, e4⟩ := g4.bool hb
    simp at e0 e1 e2 e3 e4
    subst e0 e1 e2 e3 e4
    exact ⟨⟨z0, z1, z2, A, n, cp, ps, bb⟩, ⟨r3, l3, Nat.le_trans n3 m3⟩, rfl⟩
end
end Go.Proofs.Ytpkbfdgfdgkbkaa
