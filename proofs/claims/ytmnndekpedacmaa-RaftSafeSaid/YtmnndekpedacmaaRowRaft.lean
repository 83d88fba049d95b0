/-
  Arguments that are slices of slices of ints, and structs of two ints, opened. No condition of its own.
-/
import Derived.Test.YtmnndekpedacmaaRow
import Derived.Test.YtmnndekpedacmaaRaftAlive
import Derived.Deep.Matrix
import Derived.Lib.SmallJoins
namespace Go.Proofs.Ytmnndekpedacmaa
open Go Go.RowKit Go.WideShapes Go.ChangeShapes Go.Joins Go.Deep
section
variable {H : Type} {enc : TypeId × Value → H} {P : Program} {w : World} {base : Nat} {held : Bool} {r : Reach}
theorem open_rows {t e q : TypeId} {v : Value} {d : DataW H} {p : List MemPlace} (ht : P.underlying t = some (.slice e)) (he : P.underlying e = some (.slice q)) (hq : P.underlying q = some (.int .i64)) (ce : P.cellsOf e = 1) (cq : P.cellsOf q = 1)
    (hv : Value.okWide P w r base t v) (h : DataW.Trod enc P w 0 (fun _ => true) held t v d p) :
    ∃ (Av : Option Addr) (n c : Nat) (A : Nat → Option Addr) (L C : Nat → Nat) (Z : Nat → List Int), v = .slice Av n c ∧ RowsAt w Av n A L C Z ∧ n ≤ c ∧ c ≤ maxLen := by
  obtain ⟨a0, len, cap, rfl⟩ := okWide_slice ht hv
  obtain ⟨fuel, hf⟩ := h
  rcases Go.Deep.open_int_rows ht he hq ce cq hf with ⟨hcs, _⟩ | ⟨a, len', cap', A, L, C, Z, hcs, _, hl, hm, _, hrow⟩
  · simp [Value.cells] at hcs
    obtain ⟨rfl, rfl, rfl⟩ := hcs
    exact ⟨none, 0, 0, fun _ => none, fun _ => 0, fun _ => 0, fun _ => [], rfl, ⟨fun i hi => by omega, fun i hi => by omega, fun i hi => by omega, fun i hi => by omega⟩, Nat.le_refl _, by unfold maxLen; omega⟩
  · simp [Value.cells] at hcs
    obtain ⟨rfl, rfl, rfl⟩ := hcs
    refine ⟨some a, len, cap, A, L, C, fun i => (Z i).take (L i), rfl, ⟨fun i hi => ⟨a, rfl, (hrow i (by omega)).1⟩, fun i hi => ?_, fun i hi => ?_, fun i hi => ?_⟩, hl, hm⟩
    · obtain ⟨_, hLC, _, hZC, _, hnone, hcell⟩ := hrow i (by omega)
      intro j x hx
      rw [List.getElem?_map, Option.map_eq_some_iff] at hx
      obtain ⟨z, hz, rfl⟩ := hx
      rw [List.getElem?_take] at hz
      split at hz
      · rename_i hj
        cases hA : A i with
        | none => have := hnone hA; omega
        | some a' =>
          obtain ⟨_, hc⟩ := hcell a' hA
          refine ⟨a', rfl, ?_⟩
          rw [hc j (by omega), List.getD_eq_getElem?_getD, hz]; rfl
      · cases hz
    · obtain ⟨_, hLC, _, hZC, _⟩ := hrow i (by omega)
      rw [List.length_take]; omega
    · obtain ⟨_, hLC, hCm, hZC, hwf, _⟩ := hrow i (by omega)
      exact ⟨hLC, hCm, fun z hz => wf_i64 (hwf z (List.mem_of_mem_take hz))⟩
/-- A struct of two ints. -/
theorem open_two {t ti : TypeId} {f0 f1 : Field} {v : Value} {d : DataW H} {p : List MemPlace} (hs : P.underlying t = some (.struct #[f0, f1])) (hone : oneCellFields P #[f0, f1] = true) (hC : P.cellsOf t = 2) (h0 : f0.type = ti) (h1 : f1.type = ti)
    (hi : P.underlying ti = some (.int .i64)) (hv : Value.okWide P w r base t v) (h : DataW.Trod enc P w 0 (fun _ => true) held t v d p) :
    ∃ x y : Int, v = .agg #[.int .i64 x, .int .i64 y] ∧ (-9223372036854775808 ≤ x ∧ x ≤ 9223372036854775807) ∧ (-9223372036854775808 ≤ y ∧ y ≤ 9223372036854775807) := by
  obtain ⟨c0, c1, y0, y1, m, rfl, _, _, hy0, hy1⟩ := Go.Joins.open_agg2 hs hone hC hv h
  rw [h0] at hy0
  rw [h1] at hy1
  obtain ⟨a, e0, _, wa⟩ := DataW.trod_int hi hy0
  obtain ⟨b, e1, _, wb⟩ := DataW.trod_int hi hy1
  simp at e0 e1
  subst e0 e1
  exact ⟨a, b, rfl, wf_i64 wa, wf_i64 wb⟩
end
end Go.Proofs.Ytmnndekpedacmaa
