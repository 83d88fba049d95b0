/-
  A store into a map from names to pointers, in a region that draws its order: the step's form. Conditions: those of the store's law.
-/
import Derived.Test.YtfgpadikmnhldaaOne
namespace Go.Proofs.Ytfgpadikmnhldaa
open Go Go.RowKit Go.Maps Go.ChangeMaps

theorem step_store {w : World} {ops : Array Oper} {o : Oper} {a : Act} {K : Act → World → Prop} {Q : Exit → Act → World → Prop} {E : Prop} {bm : Nat} {D : DataW Unit} {g : Names} {s : ByteArray}
    (hg : o.guard = none) (m x v : Operand) (hop : o.op = Op.mapUpdate 46 m x v) (hm : a.eval m = .map (some bm)) (hx : a.eval x = .string s) {b : Nat} (hv : a.eval v = .pointer (some ⟨b, 0, none⟩)) (h : MapAt w bm D g) (hs : s.size ≤ maxLen) (hn : g.length < 1000)
    (hK : ∀ w' D', MapAt w' bm D' ((s, b) :: g.filter fun p => !decide (p.1 = s)) → w.grownBy w' (some bm) → K (a.put o.dst undef) w') :
    if Region.wanted o (yielded ops a.tmps) = true then Oper.wp Try.prog o a w K Q else E := by
  have hw : Region.wanted o (yielded ops a.tmps) = true := by simp [Region.wanted, hg]
  rw [if_pos hw]
  obtain ⟨w', hrun, r1, r2⟩ := h.own.update strKeyed Try.underlying46 (by rw [h.size]; unfold maxLen; omega) (strKey hs) (val := .pointer (some ⟨b, 0, none⟩)) (d := .lit (.int .i64 b)) (ps := []) rfl
  unfold Oper.wp
  simp [execOp, hop, hm, hx, hv, hrun, Result.andThen]
  exact hK w' _ (h.put ⟨_, r1⟩) r2
/-- The store as an equation: laid ahead of a region that draws its order, it is run by the walk. -/
theorem MapAt.store_run {w : World} {bm : Nat} {D : DataW Unit} {g : Names} (h : MapAt w bm D g) {s : ByteArray} (hs : s.size ≤ maxLen) (hn : g.length < 1000) (b : Nat) :
    ∃ w' D', (Instr.mapUpdate 46 (.map (some bm)) (.string s) (.pointer (some ⟨b, 0, none⟩))).run Try.prog w = .ok () w' ∧ MapAt w' bm D' ((s, b) :: g.filter fun p => !decide (p.1 = s)) ∧ w.grownBy w' (some bm) := by
  obtain ⟨w', hrun, r1, r2⟩ := h.own.update strKeyed Try.underlying46 (by rw [h.size]; unfold maxLen; omega) (strKey hs) (val := .pointer (some ⟨b, 0, none⟩)) (d := .lit (.int .i64 b)) (ps := []) rfl
  exact ⟨w', _, hrun, h.put ⟨_, r1⟩, r2⟩
end Go.Proofs.Ytfgpadikmnhldaa
