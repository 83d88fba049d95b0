/-
  Lists of ints as rows of one cell each, and what SameInts gives. Condition: no more than a million.
-/
import Derived.Test.YtgigkekajdgngaaRecP
import Derived.Test.YtgigkekajdgngaaRoom
import Derived.Test.YtgigkekajdgngaaPackPut
namespace Go.Proofs.Ytgigkekajdgngaa
open Go Go.RowKit
attribute [local go_sem] cell_set_if

theorem cell_b {w w' : World} {p : Addr} {v : Value} (hb : Below w.heap.size w w') (h : w.cell? p = some v) : w'.cell? p = some v := (hb.cell (block_lt_of_cell h)).trans h
theorem cell_bb {w w' : World} {B b o : Nat} {v : Value} (hb : Below B w w') (hB : b < B) (h : w.cell? ⟨b, o, none⟩ = some v) : w'.cell? ⟨b, o, none⟩ = some v := ((below_cells hb).1 b o hB).trans h
/-- One int's cell. -/
def zcells (x : Int) : List Value := [.int .i64 x]
def flatZ (ks : List Int) : List Value := ks.flatMap zcells
theorem flatZ_len (ks : List Int) : (flatZ ks).length = ks.length * 1 := flat_len zcells (fun _ => rfl) ks
theorem flatZ_at (ks : List Int) (k : Nat) (x : Int) (h : ks[k]? = some x) : (flatZ ks)[k]? = some (.int .i64 x) := by
  have := flat_at zcells (fun _ => rfl) ks k x h 0 _ rfl
  unfold flatZ
  simpa using this
theorem flatZ_one (ks : List Int) : ∀ u ∈ flatZ ks, u.oneCell' = true := flat_one zcells (fun x u hu => by unfold zcells at hu; simp at hu; subst hu; rfl) ks
theorem flatZ_map (ks : List Int) : flatZ ks = ks.map (Value.int .i64) := by
  unfold flatZ
  induction ks with
  | nil => rfl
  | cons x ks ih => rw [List.flatMap_cons, ih]; rfl
theorem Rd.num {w : World} {A : Option Addr} {ks : List Int} (h : Rd w A (flatZ ks)) {k : Nat} (hk : k < ks.length) : ∃ b o x, A = some ⟨b, o, none⟩ ∧ b < w.heap.size ∧ ks[k]? = some x ∧ w.cell? ⟨b, o + k, none⟩ = some (.int .i64 x) := by
  obtain ⟨x, hx⟩ : ∃ x, ks[k]? = some x := ⟨ks[k]'hk, List.getElem?_eq_getElem _⟩
  obtain ⟨b, o, e, hb, hc⟩ := h.flat (by rw [flatZ_len]; omega)
  exact ⟨b, o, x, e, hb, hx, hc _ _ (flatZ_at ks k x hx)⟩
theorem zinfo : (Try.prog.info? 3).map (fun i => (i.zero, i.size, i.bytes)) = some (some (.int .i64 0), 1, 8) := by kernel_rfl
end Go.Proofs.Ytgigkekajdgngaa
