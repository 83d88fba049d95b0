/-
  Arguments that are metas, opened. No condition of its own.
-/
import Derived.Test.YtkenhcgdnbgnpaaRowPage
import Derived.Test.YtkenhcgdnbgnpaaMetaLay
namespace Go.Proofs.Ytkenhcgdnbgnpaa
open Go Go.RowKit Go.WideShapes Go.ChangeShapes Go.Joins Go.Deep
section
variable {H : Type} {enc : TypeId × Value → H} {P : Program} {w : World} {base : Nat} {held : Bool} {r : Reach}
theorem open_meta {t ti : TypeId} {f0 f1 f2 f3 : Field} {v : Value} {d : DataW H} {p : List MemPlace} (hs : P.underlying t = some (.struct #[f0, f1, f2, f3])) (hone : oneCellFields P #[f0, f1, f2, f3] = true) (hC : P.cellsOf t = 4) (h0 : f0.type = ti) (h1 : f1.type = ti) (h2 : f2.type = ti) (h3 : f3.type = ti)
    (hi : P.underlying ti = some (.int .i64)) (hv : Value.okWide P w r base t v) (h : DataW.Trod enc P w 0 (fun _ => true) held t v d p) :
    ∃ (x y z u : Int), v = m4 x y z u ∧ (-9223372036854775808 ≤ x ∧ x ≤ 9223372036854775807) ∧ (-9223372036854775808 ≤ y ∧ y ≤ 9223372036854775807) ∧ (-9223372036854775808 ≤ z ∧ z ≤ 9223372036854775807) ∧ (-9223372036854775808 ≤ u ∧ u ≤ 9223372036854775807) := by
  obtain ⟨c0, c1, c2, c3, y0, y1, y2, y3, m, rfl, _, _, hy0, hy1, hy2, hy3⟩ := Go.Joins.open_agg4 hs hone hC hv h
  rw [h0] at hy0
  rw [h1] at hy1
  rw [h2] at hy2
  rw [h3] at hy3
  obtain ⟨a, e0, _, wa⟩ := DataW.trod_int hi hy0
  obtain ⟨b, e1, _, wb⟩ := DataW.trod_int hi hy1
  obtain ⟨c, e2, _, wc⟩ := DataW.trod_int hi hy2
  obtain ⟨u, e3, _, wu⟩ := DataW.trod_int hi hy3
  simp at e0 e1 e2 e3
  subst e0 e1 e2 e3
  exact ⟨a, b, c, u, rfl, wf_i64 wa, wf_i64 wb, wf_i64 wc, wf_i64 wu⟩
end
end Go.Proofs.Ytkenhcgdnbgnpaa
