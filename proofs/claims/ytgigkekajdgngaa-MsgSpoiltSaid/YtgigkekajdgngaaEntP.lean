/-
  Commands and entries, as they lie in memory; arguments that are slices of entries, opened. No condition of its own.
-/
import Derived.Test.YtgigkekajdgngaaRowDeep
import Derived.Test.YtgigkekajdgngaaRecP
namespace Go.Proofs.Ytgigkekajdgngaa
open Go Go.RowKit Go.WideShapes Go.ChangeShapes Go.Deep
/-- A command. -/
structure Cm where
  kind : Int
  path : ByteArray
  key : ByteArray
  val : ByteArray
  old : ByteArray
deriving Inhabited
def Cm.cells (x : Cm) : List Value := [.int .i64 x.kind, .string x.path, .string x.key, .string x.val, .string x.old]
def flatCm (l : List Cm) : List Value := l.flatMap Cm.cells
def Cm.fits (x : Cm) : Prop := (-9223372036854775808 ≤ x.kind ∧ x.kind ≤ 9223372036854775807) ∧ x.path.size ≤ maxLen ∧ x.key.size ≤ maxLen ∧ x.val.size ≤ maxLen ∧ x.old.size ≤ maxLen
theorem flatCm_len (L : List Cm) : (flatCm L).length = L.length * 5 := flat_len Cm.cells (fun _ => rfl) L
theorem flatCm_at (L : List Cm) (k : Nat) (x : Cm) (h : L[k]? = some x) (j : Nat) (v : Value) (hv : x.cells[j]? = some v) : (flatCm L)[k * 5 + j]? = some v := flat_at Cm.cells (fun _ => rfl) L k x h j v hv
/-- An entry: its Index, its Term, the request's client, number and commands. -/
structure En where
  index : Int
  term : Int
  client : Int
  seq : Int
  A : Option Addr
  n : Nat
  c : Nat
  cmds : List Cm
deriving Inhabited
def En.cells (x : En) : List Value := [.int .i64 x.index, .int .i64 x.term, .int .i64 x.client, .int .i64 x.seq, .slice x.A x.n x.c]
def flatEn (l : List En) : List Value := l.flatMap En.cells
def i64In (z : Int) : Prop := -9223372036854775808 ≤ z ∧ z ≤ 9223372036854775807
def En.fits (w : World) (x : En) : Prop := i64In x.index ∧ i64In x.term ∧ i64In x.client ∧ i64In x.seq ∧ Rd w x.A (flatCm x.cmds) ∧ x.cmds.length = x.n ∧ x.n ≤ maxLen ∧ ∀ y ∈ x.cmds, y.fits
theorem flatEn_len (L : List En) : (flatEn L).length = L.length * 5 := flat_len En.cells (fun _ => rfl) L
theorem flatEn_at (L : List En) (k : Nat) (x : En) (h : L[k]? = some x) (j : Nat) (v : Value) (hv : x.cells[j]? = some v) : (flatEn L)[k * 5 + j]? = some v := flat_at En.cells (fun _ => rfl) L k x h j v hv
theorem Rd.cm {w : World} {A : Option Addr} {L : List Cm} (h : Rd w A (flatCm L)) {k : Nat} (hk : k < L.length) : ∃ b o x, A = some ⟨b, o, none⟩ ∧ b < w.heap.size ∧ L[k]? = some x ∧ w.cell? ⟨b, o + k * 5, none⟩ = some (.int .i64 x.kind) ∧ w.cell? ⟨b, o + k * 5 + 1, none⟩ = some (.string x.path) ∧ w.cell? ⟨b, o + k * 5 + 2, none⟩ = some (.string x.key) ∧ w.cell? ⟨b, o + k * 5 + 3, none⟩ = some (.string x.val) ∧ w.cell? ⟨b, o + k * 5 + 4, none⟩ = some (.string x.old) := by
  obtain ⟨x, hx⟩ : ∃ x, L[k]? = some x := ⟨L[k]'hk, List.getElem?_eq_getElem _⟩
  obtain ⟨b, o, e, hb, hc⟩ := h.flat (by rw [flatCm_len]; omega)
  refine ⟨b, o, x, e, hb, hx, ?_, ?_, ?_, ?_, ?_⟩
  · have := hc _ _ (flatCm_at L k x hx 0 _ rfl); simpa using this
  all_goals rw [Nat.add_assoc]
  · exact hc _ _ (flatCm_at L k x hx 1 _ rfl)
  · exact hc _ _ (flatCm_at L k x hx 2 _ rfl)
  · exact hc _ _ (flatCm_at L k x hx 3 _ rfl)
  · exact hc _ _ (flatCm_at L k x hx 4 _ rfl)
theorem Rd.en {w : World} {A : Option Addr} {L : List En} (h : Rd w A (flatEn L)) {k : Nat} (hk : k < L.length) : ∃ b o x, A = some ⟨b, o, none⟩ ∧ b < w.heap.size ∧ L[k]? = some x ∧ w.cell? ⟨b, o + k * 5, none⟩ = some (.int .i64 x.index) ∧ w.cell? ⟨b, o + k * 5 + 1, none⟩ = some (.int .i64 x.term) ∧ w.cell? ⟨b, o + k * 5 + 2, none⟩ = some (.int .i64 x.client) ∧ w.cell? ⟨b, o + k * 5 + 3, none⟩ = some (.int .i64 x.seq) ∧ w.cell? ⟨b, o + k * 5 + 4, none⟩ = some (.slice x.A x.n x.c) := by
  obtain ⟨x, hx⟩ : ∃ x, L[k]? = some x := ⟨L[k]'hk, List.getElem?_eq_getElem _⟩
  obtain ⟨b, o, e, hb, hc⟩ := h.flat (by rw [flatEn_len]; omega)
  refine ⟨b, o, x, e, hb, hx, ?_, ?_, ?_, ?_, ?_⟩
  · have := hc _ _ (flatEn_at L k x hx 0 _ rfl); simpa using this
  all_goals rw [Nat.add_assoc]
  · exact hc _ _ (flatEn_at L k x hx 1 _ rfl)
  · exact hc _ _ (flatEn_at L k x hx 2 _ rfl)
  · exact hc _ _ (flatEn_at L k x hx 3 _ rfl)
  · exact hc _ _ (flatEn_at L k x hx 4 _ rfl)
section
variable {H : Type} {enc : TypeId × Value → H} {P : Program} {w : World} {base : Nat} {spare : Nat → Bool} {held : Bool} {r : Reach}
/-- The cells of a command. -/
theorem Dec.cm {t ti ts : TypeId} {f0 f1 f2 f3 f4 : Field} {cs : List Value} (ht : P.underlying t = some (.struct #[f0, f1, f2, f3, f4])) (hone : oneCellFields P #[f0, f1, f2, f3, f4] = true) (h0 : f0.type = ti) (h1 : f1.type = ts) (h2 : f2.type = ts) (h3 : f3.type = ts) (h4 : f4.type = ts) (hi : P.underlying ti = some (.int .i64)) (hs : P.underlying ts = some .string)
    (hl : cs.length = 5) (hd : Dec enc P w spare held t cs) : ∃ x : Cm, x.fits ∧ x.cells = cs := by
  obtain ⟨_, hg⟩ := hd.struct ht
  obtain ⟨o0, k0⟩ := hone_of hone 0 f0 rfl
  obtain ⟨o1, k1⟩ := hone_of hone 1 f1 rfl
  obtain ⟨o2, k2⟩ := hone_of hone 2 f2 rfl
  obtain ⟨o3, k3⟩ := hone_of hone 3 f3 rfl
  obtain ⟨o4, k4⟩ := hone_of hone 4 f4 rfl
  have g0 := hg 0 f0 rfl
  have g1 := hg 1 f1 rfl
  have g2 := hg 2 f2 rfl
  have g3 := hg 3 f3 rfl
  have g4 := hg 4 f4 rfl
  rw [o0, k0, h0] at g0
  rw [o1, k1, h1] at g1
  rw [o2, k2, h2] at g2
  rw [o3, k3, h3] at g3
  rw [o4, k4, h4] at g4
  match cs, hl with
  | [c0, c1, c2, c3, c4], _ =>
    obtain ⟨z0, e0, w0⟩ := g0.int hi
    obtain ⟨s1, e1, w1⟩ := g1.string hs
    obtain ⟨s2, e2, w2⟩ := g2.string hs
    obtain ⟨s3, e3, w3⟩ := g3.string hs
    obtain ⟨s4, e4, w4⟩ := g4.string hs
    simp at e0 e1 e2 e3 e4
    subst e0 e1 e2 e3 e4
    exact ⟨⟨z0, s1, s2, s3, s4⟩, ⟨wf_i64 w0, w1, w2, w3, w4⟩, rfl⟩
/-- The cells of an entry: the request lies within it. -/
theorem Dec.en {t ti tq tl tc ts : TypeId} {f0 f1 f2 q0 q1 q2 c0 c1 c2 c3 c4 : Field} {cs : List Value} (ht : P.underlying t = some (.struct #[f0, f1, f2])) (o0 : f0.offset = 0) (o1 : f1.offset = 1) (o2 : f2.offset = 2) (h0 : f0.type = ti) (h1 : f1.type = ti) (h2 : f2.type = tq) (ci : P.cellsOf ti = 1) (cq : P.cellsOf tq = 3)
    (hq : P.underlying tq = some (.struct #[q0, q1, q2])) (honeq : oneCellFields P #[q0, q1, q2] = true) (y0 : q0.type = ti) (y1 : q1.type = ti) (y2 : q2.type = tl) (hl : P.underlying tl = some (.slice tc)) (hc : P.underlying tc = some (.struct #[c0, c1, c2, c3, c4])) (honec : oneCellFields P #[c0, c1, c2, c3, c4] = true) (cc : P.cellsOf tc = 5)
    (z0 : c0.type = ti) (z1 : c1.type = ts) (z2 : c2.type = ts) (z3 : c3.type = ts) (z4 : c4.type = ts) (hi : P.underlying ti = some (.int .i64)) (hs : P.underlying ts = some .string)
    (hl5 : cs.length = 5) (hd : Dec enc P w spare held t cs) : ∃ x : En, x.fits w ∧ x.cells = cs := by
  obtain ⟨_, hg⟩ := hd.struct ht
  have g0 := hg 0 f0 rfl
  have g1 := hg 1 f1 rfl
  have g2 := hg 2 f2 rfl
  rw [o0, h0, ci] at g0
  rw [o1, h1, ci] at g1
  rw [o2, h2, cq] at g2
  match cs, hl5 with
  | [a0, a1, a2, a3, a4], _ =>
    simp only [List.drop_zero, List.drop_succ_cons, List.take_succ_cons, List.take_zero] at g0 g1 g2
    obtain ⟨_, hg2⟩ := g2.struct hq
    obtain ⟨p0, k0⟩ := hone_of honeq 0 q0 rfl
    obtain ⟨p1, k1⟩ := hone_of honeq 1 q1 rfl
    obtain ⟨p2, k2⟩ := hone_of honeq 2 q2 rfl
    have m0 := hg2 0 q0 rfl
    have m1 := hg2 1 q1 rfl
    have m2 := hg2 2 q2 rfl
    rw [p0, k0, y0] at m0
    rw [p1, k1, y1] at m1
    rw [p2, k2, y2] at m2
    obtain ⟨i0, e0, w0⟩ := g0.int hi
    obtain ⟨i1, e1, w1⟩ := g1.int hi
    obtain ⟨i2, e2, w2⟩ := m0.int hi
    obtain ⟨i3, e3, w3⟩ := m1.int hi
    obtain ⟨A, n, c, l, e4, r4, l4, n4, x4, y4⟩ := m2.slice Cm.cells Cm.fits 5 hl cc (fun _ => rfl) (fun _ h5 hd => hd.cm hc honec z0 z1 z2 z3 z4 hi hs h5)
    simp at e0 e1 e2 e3 e4
    subst e0 e1 e2 e3 e4
    exact ⟨⟨i0, i1, i2, i3, A, n, c, l⟩, ⟨wf_i64 w0, wf_i64 w1, wf_i64 w2, wf_i64 w3, r4, l4, Nat.le_trans n4 x4, y4⟩, rfl⟩
theorem open_ens {te t ti tq tl tc ts : TypeId} {f0 f1 f2 q0 q1 q2 c0 c1 c2 c3 c4 : Field} {v : Value} {d : DataW H} {p : List MemPlace} (hte : P.underlying te = some (.slice t)) (ht : P.underlying t = some (.struct #[f0, f1, f2])) (o0 : f0.offset = 0) (o1 : f1.offset = 1) (o2 : f2.offset = 2) (h0 : f0.type = ti) (h1 : f1.type = ti) (h2 : f2.type = tq) (ci : P.cellsOf ti = 1) (cq : P.cellsOf tq = 3) (ct : P.cellsOf t = 5)
    (hq : P.underlying tq = some (.struct #[q0, q1, q2])) (honeq : oneCellFields P #[q0, q1, q2] = true) (y0 : q0.type = ti) (y1 : q1.type = ti) (y2 : q2.type = tl) (hl : P.underlying tl = some (.slice tc)) (hc : P.underlying tc = some (.struct #[c0, c1, c2, c3, c4])) (honec : oneCellFields P #[c0, c1, c2, c3, c4] = true) (cc : P.cellsOf tc = 5)
    (z0 : c0.type = ti) (z1 : c1.type = ts) (z2 : c2.type = ts) (z3 : c3.type = ts) (z4 : c4.type = ts) (hi : P.underlying ti = some (.int .i64)) (hs : P.underlying ts = some .string) (hv : Value.okWide P w r base te v) (h : DataW.Trod enc P w 0 spare held te v d p) :
    ∃ (A : Option Addr) (n c : Nat) (es : List En), v = .slice A n c ∧ Rd w A (flatEn es) ∧ es.length = n ∧ n ≤ c ∧ c ≤ maxLen ∧ ∀ o ∈ es, o.fits w :=
  open_deep En.cells (En.fits w) 5 hte ct (fun _ => rfl) (fun _ h5 hd => hd.en ht o0 o1 o2 h0 h1 h2 ci cq hq honeq y0 y1 y2 hl hc honec cc z0 z1 z2 z3 z4 hi hs h5) hv h
end
end Go.Proofs.Ytgigkekajdgngaa
