/-
  The log in memory: what its reading calls give (Last, LastTerm, Term, Newer), and New. Condition: its base and its length are below 2^60.
-/
import Derived.Test.YtfgihfhpnhedkaaRows
import Derived.Test.YtfgihfhpnhedkaaBase
import Derived.Test.YtfgihfhpnhedkaaQt
namespace Go.Proofs.Ytfgihfhpnhedkaa
open Go Go.RowKit

/-- An entry's cells. -/
structure Ent where
  index : Int
  term : Int
  client : Int
  seq : Int
  cmds : Value
def Ent.cells (e : Ent) : List Value := [.int .i64 e.index, .int .i64 e.term, .int .i64 e.client, .int .i64 e.seq, e.cmds]
def flatE (es : List Ent) : List Value := es.flatMap Ent.cells
theorem flatE_len (es : List Ent) : (flatE es).length = es.length * 5 := by
  induction es with
  | nil => rfl
  | cons e es ih => simp [flatE, Ent.cells] at ih ⊢; omega
theorem flatE_at (es : List Ent) (k : Nat) (e : Ent) (h : es[k]? = some e) (j : Nat) (v : Value) (hv : e.cells[j]? = some v) : (flatE es)[k * 5 + j]? = some v := by
  induction es generalizing k with
  | nil => simp at h
  | cons d es ih =>
    have hd : flatE (d :: es) = d.cells ++ flatE es := rfl
    rw [hd]
    cases k with
    | zero =>
      simp at h; subst h
      have hj : j < d.cells.length := (List.getElem?_eq_some_iff.1 hv).1
      rw [Nat.zero_mul, Nat.zero_add, List.getElem?_append_left hj]; exact hv
    | succ k =>
      simp at h
      have hl : d.cells.length = 5 := rfl
      rw [List.getElem?_append_right (by omega), hl, show (k + 1) * 5 + j - 5 = k * 5 + j by omega]
      exact ih k h

/-- A log (T: its struct's type): its base's index and term, and its entries, at block g. -/
structure LogT (T : TypeId) (w : World) (base g : Nat) (idx trm : Int) (es : List Ent) (v : Value) : Prop where
  blk : Blk w g T #[.int .i64 idx, .int .i64 trm, v]
  low : base ≤ g
  own : w.ownsRow base 0 5 v es.length (flatE es)
  i0 : 0 ≤ idx
  i1 : idx ≤ 1152921504606846976
  n1 : es.length ≤ 1000000000

/-- The term of an index. -/
def termE (idx trm : Int) (es : List Ent) (i : Int) : Option Int :=
  if i < idx ∨ idx + es.length < i then none else if i = idx then some trm else (es[(i - idx - 1).toNat]?).map (·.term)

theorem termE_base (idx trm : Int) (es : List Ent) : termE idx trm es idx = some trm := by unfold termE; rw [if_neg (by omega), if_pos rfl]

section
variable {T : TypeId} {w w' : World} {base g : Nat} {idx trm : Int} {es : List Ent} {v : Value}
theorem LogT.drewN (h : LogT T w base g idx trm es v) (n : Nat) : LogT T (w.drewN n) base g idx trm es v := ⟨h.blk, h.low, h.own, h.i0, h.i1, h.n1⟩
theorem LogT.frm {S : Nat → Prop} (h : LogT T w base g idx trm es v) (k : Frm S w w') (hg : ¬ S g) (hv : ∀ r, v.ownBlock = some r → ¬ S r) : LogT T w' base g idx trm es v :=
  ⟨h.blk.frm k hg, h.low, own_frm h.own k hv, h.i0, h.i1, h.n1⟩
theorem LogT.below (h : LogT T w base g idx trm es v) (k : Below w.heap.size w w') : LogT T w' base g idx trm es v :=
  h.frm (S := no) (Frm.of_below k) id fun _ _ => id
theorem LogT.form (h : LogT T w base g idx trm es v) : ∃ A c, v = .slice A es.length c ∧ es.length ≤ c := own_form h.own
end

theorem LogT.qt {T : TypeId} {w w' : World} {base g : Nat} {idx trm : Int} {es : List Ent} {v : Value} (h : LogT T w base g idx trm es v) (k : Qt w w') : LogT T w' base g idx trm es v := by obtain ⟨n, rfl⟩ := k; exact h.drewN n

/-- The last term. -/
def lastT (trm : Int) (es : List Ent) : Int := ((es.getLast?).map (·.term)).getD trm
theorem termE_last (idx trm : Int) (es : List Ent) (_h : 0 ≤ idx) : termE idx trm es (idx + es.length) = some (lastT trm es) := by
  unfold termE lastT
  rw [if_neg (by omega)]
  cases hl : es.getLast? with
  | none =>
    have : es = [] := by simpa using hl
    subst this; simp
  | some e =>
    have hne : es ≠ [] := by intro h; rw [h] at hl; simp at hl
    have hp : 0 < es.length := List.length_pos_iff.2 hne
    rw [if_neg (by omega), show (idx + (es.length : Int) - idx - 1).toNat = es.length - 1 by omega, ← List.getLast?_eq_getElem?, hl]; rfl

/-- Is a log of this last index and term as new as one? -/
def newerB (idx trm : Int) (es : List Ent) (i t : Int) : Bool := decide (lastT trm es < t) || (t == lastT trm es && decide (idx + es.length ≤ i))
end Go.Proofs.Ytfgihfhpnhedkaa
