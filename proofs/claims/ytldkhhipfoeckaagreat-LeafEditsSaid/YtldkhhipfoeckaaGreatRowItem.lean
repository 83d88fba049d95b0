/-
  One item as an argument, opened. No condition of its own.
-/
import Derived.Test.YtldkhhipfoeckaaGreatRowItems
import Derived.Test.YtldkhhipfoeckaaGreatItemW
import Derived.Deep.Matrix
import Derived.Lib.SmallJoins
namespace Go.Proofs.YtldkhhipfoeckaaGreat
open Go Go.RowKit Go.WideShapes Go.ChangeShapes Go.Joins Go.Deep
section
variable {H : Type} {enc : TypeId × Value → H} {P : Program} {w : World} {base : Nat} {held : Bool} {r : Reach}
theorem open_item {t ti ts : TypeId} {f0 f1 f2 : Field} {v : Value} {d : DataW H} {p : List MemPlace} (hs : P.underlying t = some (.struct #[f0, f1, f2])) (hone : oneCellFields P #[f0, f1, f2] = true) (hC : P.cellsOf t = 3) (h0 : f0.type = ts) (h1 : f1.type = ts) (h2 : f2.type = ti)
    (hi : P.underlying ti = some (.int .i64)) (hst : P.underlying ts = some .string) (hv : Value.okWide P w r base t v) (h : DataW.Trod enc P w 0 (fun _ => true) held t v d p) :
    ∃ (x : Im), v = itemV x ∧ x.key.size ≤ maxLen ∧ x.val.size ≤ maxLen := by
  obtain ⟨c0, c1, c2, y0, y1, y2, m, rfl, _, _, hy0, hy1, hy2⟩ := Go.Joins.open_agg3 hs hone hC hv h
  rw [h0] at hy0
  rw [h1] at hy1
  rw [h2] at hy2
  obtain ⟨s, e0, _, ws⟩ := DataW.trod_string hst hy0
  obtain ⟨u, e1, _, wu⟩ := DataW.trod_string hst hy1
  obtain ⟨a, e2, _, wa⟩ := DataW.trod_int hi hy2
  simp at e0 e1 e2
  subst e0 e1 e2
  exact ⟨⟨s, u, a⟩, rfl, ws, wu⟩
end
end Go.Proofs.YtldkhhipfoeckaaGreat
