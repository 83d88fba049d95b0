/-
  The law FreePlays holds as it is stated. Its conditions: none.
-/
import Derived.Test.YtdpgeoiehbijlaaGreatRows
import Derived.Test.YtdpgeoiehbijlaaGreatOne
import Derived.Test.YtdpgeoiehbijlaaGreatFreePlaysW
namespace Go.Proofs.YtdpgeoiehbijlaaGreat.freePlays
open Go Go.ChangeShapes Go.WideShapes Go.ChangeAt Go.RowKit
set_option linter.unusedVariables false

set_option maxRecDepth 100000 in
theorem lifted (os : Os) (started : os.Started) (H : Type) (enc : TypeId × Value → H) :
    ReturnsInHanded {} Tryz.checked os 3 .any (Rows.freePlaysSpec.pre6 enc Tryz.prog Tryz.f3 Rows.freePlaysRow.domain false) (Rows.freePlaysSpec.post enc Tryz.prog Tryz.f3 false true false false) := by
  refine returnsInHanded_of_change (C := Tryz.checked) Tryz.ownKnob0 started (by kernel_rfl) Tryz.func3
    (ChangeSpec.witness6 (enc := enc) (C := Tryz.checked) false ⟨#[], #[.int .i64 0, .slice none 0 0, .slice none 0 0, .int .i64 0], []⟩ 8 (by kernel_rfl) (by kernel_rfl) (by kernel_rfl) (by kernel_rfl)) ?_
  intro W base args ds gs before hval0 hW hcnd _
  have hval : ∀ (j : Nat) t v, Tryz.f3.params[j]? = some t → args[j]? = some v → Value.okWide Tryz.prog W .any base t v := hval0
  have hW' := hW
  obtain ⟨p, q, hA0, hV, rfl, hfz, hnd⟩ := hW
  have hA : DataW.TrodAll enc Tryz.prog W 0 (fun _ => true) true Tryz.f3.params.toList args.toList ds p := hA0
  rw [Tryz.params3] at hA hval
  obtain ⟨v0, vs0, d0, ds0, p0, q0, hargs, rfl, rfl, h0, r_0⟩ := trodAll_cons hA
  obtain ⟨v1, vs1, d1, ds1, p1, q1, rfl, rfl, rfl, h1, r_1⟩ := trodAll_cons r_0
  obtain ⟨v2, vs2, d2, ds2, p2, q2, rfl, rfl, rfl, h2, r_2⟩ := trodAll_cons r_1
  obtain ⟨v3, vs3, d3, ds3, p3, q3, rfl, rfl, rfl, h3, r_3⟩ := trodAll_cons r_2
  obtain ⟨rfl, rfl, rfl⟩ := trodAll_nil r_3
  obtain rfl : args = #[v0, v1, v2, v3] := by cases args; simp_all
  obtain ⟨rfl, rfl⟩ := trodVars_none hV
  obtain ⟨a0, hv0, _, _, a0w⟩ := open_int Tryz.underlying3 (hval 0 3 v0 rfl rfl) h0
  subst hv0
  have a0b := wf_i64 a0w
  obtain ⟨A1, n1, c1, l1, hv1, r1, e1, m1, x1, y1⟩ := open_nums Tryz.underlying22 Tryz.underlying3 (by kernel_rfl) (hval 1 22 v1 rfl rfl) h1
  subst hv1
  obtain ⟨A2, n2, c2, os2, hv2, r2, e2, m2, x2, y2⟩ := open_opfs (ti := 3) (tl := 22) Tryz.underlying23 Tryz.underlying51 (by kernel_rfl) (by kernel_rfl) rfl rfl rfl Tryz.underlying3 Tryz.underlying22 (by kernel_rfl) (hval 2 23 v2 rfl rfl) h2
  subst hv2
  obtain ⟨a3, hv3, _, _, a3w⟩ := open_int Tryz.underlying3 (hval 3 3 v3 rfl rfl) h3
  subst hv3
  have a3b := wf_i64 a3w
  clear hA0 hval0
  refine (freeplays_walk A1 A2 n1 c1 n2 c2 a0 a3 l1 os2 W (by rw [flatZ_map]; exact r1) e1 r2 e2 (by have := Nat.le_trans m2 x2; unfold maxLen at this; omega) y2).mono fun e W' ⟨he, hg⟩ => ?_
  subst he
  exact ⟨_, rfl, law_post Tryz.laid0 (by kernel_rfl) rfl Tryz.underlying4 rfl rfl hW' hg⟩

/-- The statement. -/
theorem proved : Rows.FreePlaysSaid :=
  OpenClaim.holds_of_wide 3 Tryz.f3 rfl rfl rfl rfl rfl rfl rfl ⟨rfl, rfl, rfl, rfl, rfl⟩ rfl rfl rfl rfl rfl (by kernel_rfl) Tryz.func3 (by kernel_rfl)
    (of_decide_eq_true (by kernel_rfl)) (by unfold Func.isWrapper; first | (rw [if_pos (by decide +kernel)]; kernel_rfl) | (rw [if_neg (by decide +kernel)]; exact ⟨rfl, rfl⟩))
    (fun os started H enc _ => lifted os started H enc)
#print axioms proved
end Go.Proofs.YtdpgeoiehbijlaaGreat.freePlays
