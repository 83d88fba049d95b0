/-
  Arguments that are slices of metas, opened. No condition of its own.
-/
import Derived.Test.YtejmpfmkaiaklaaRowRecs
import Derived.Test.YtejmpfmkaiaklaaMetaPlain
namespace Go.Proofs.Ytejmpfmkaiaklaa
open Go Go.RowKit Go.WideShapes Go.ChangeShapes Go.Deep
instance : Inhabited Mt := ⟨⟨0, 0, 0, 0⟩⟩
/-- A meta's cells. -/
def Mt.cells (m : Mt) : List Value := [.int .i64 m.tx, .int .i64 m.ro, .int .i64 m.fr, .int .i64 m.pg]
def flatM (ms : List Mt) : List Value := ms.flatMap Mt.cells
section
variable {H : Type} {enc : TypeId × Value → H} {P : Program} {w : World} {base : Nat} {spare : Nat → Bool} {held : Bool} {r : Reach}
theorem open_metas {t e ti : TypeId} {f0 f1 f2 f3 : Field} {v : Value} {d : DataW H} {p : List MemPlace} (ht : P.underlying t = some (.slice e)) (he : P.underlying e = some (.struct #[f0, f1, f2, f3])) (hone : oneCellFields P #[f0, f1, f2, f3] = true) (hC : P.cellsOf e = 4)
    (h0 : f0.type = ti) (h1 : f1.type = ti) (h2 : f2.type = ti) (h3 : f3.type = ti) (hi : P.underlying ti = some (.int .i64)) (hv : Value.okWide P w r base t v) (h : DataW.Trod enc P w 0 spare held t v d p) :
    ∃ (A : Option Addr) (n c : Nat) (ms : List Mt), v = .slice A n c ∧ Rd w A (flatM ms) ∧ ms.length = n ∧ n ≤ c ∧ c ≤ maxLen ∧ ∀ m ∈ ms, True := by
  refine open_recs Mt.cells (fun _ => True) ht he hone hC (fun _ => rfl) (fun cs hcs => ?_) hv h
  obtain ⟨m0, y0, e0⟩ := hcs 0 f0 rfl
  obtain ⟨m1, y1, e1⟩ := hcs 1 f1 rfl
  obtain ⟨m2, y2, e2⟩ := hcs 2 f2 rfl
  obtain ⟨m3, y3, e3⟩ := hcs 3 f3 rfl
  rw [h0] at e0
  rw [h1] at e1
  rw [h2] at e2
  rw [h3] at e3
  obtain ⟨a, ea, _, _⟩ := DataW.trod_int hi e0
  obtain ⟨b, eb, _, _⟩ := DataW.trod_int hi e1
  obtain ⟨c, ec, _, _⟩ := DataW.trod_int hi e2
  obtain ⟨d, ed, _, _⟩ := DataW.trod_int hi e3
  refine ⟨⟨a, b, c, d⟩, trivial, fun j u hu => ?_⟩
  simp at ea eb ec ed
  match j, hu with
  | 0, hu => simp [Mt.cells] at hu; rw [ea, ← hu]
  | 1, hu => simp [Mt.cells] at hu; rw [eb, ← hu]
  | 2, hu => simp [Mt.cells] at hu; rw [ec, ← hu]
  | 3, hu => simp [Mt.cells] at hu; rw [ed, ← hu]
  | j + 4, hu => simp [Mt.cells] at hu
end
theorem flatM_len (ms : List Mt) : (flatM ms).length = ms.length * 4 := by
  induction ms with
  | nil => rfl
  | cons m ms ih =>
    have : flatM (m :: ms) = m.cells ++ flatM ms := rfl
    rw [this, List.length_append, ih]; simp [Mt.cells]; omega
theorem flatM_at (ms : List Mt) (k : Nat) (m : Mt) (h : ms[k]? = some m) (j : Nat) (v : Value) (hv : m.cells[j]? = some v) : (flatM ms)[k * 4 + j]? = some v := by
  induction ms generalizing k with
  | nil => simp at h
  | cons d ms ih =>
    have hd : flatM (d :: ms) = d.cells ++ flatM ms := rfl
    rw [hd]
    cases k with
    | zero =>
      simp at h; subst h
      have hj : j < d.cells.length := (List.getElem?_eq_some_iff.1 hv).1
      rw [Nat.zero_mul, Nat.zero_add, List.getElem?_append_left hj]; exact hv
    | succ k =>
      simp at h
      have hl : d.cells.length = 4 := rfl
      rw [List.getElem?_append_right (by omega), hl, show (k + 1) * 4 + j - 4 = k * 4 + j by omega]
      exact ih k h
end Go.Proofs.Ytejmpfmkaiaklaa
