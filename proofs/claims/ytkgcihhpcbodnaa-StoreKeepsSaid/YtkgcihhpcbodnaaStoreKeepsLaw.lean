/-
  The law StoreKeeps holds as it is stated. Its conditions: none.
-/
import Derived.Test.YtkgcihhpcbodnaaRows
import Derived.Test.YtkgcihhpcbodnaaRowPgs
import Derived.Test.YtkgcihhpcbodnaaStoreKW
namespace Go.Proofs.Ytkgcihhpcbodnaa.storeKeeps
open Go Go.ChangeShapes Go.WideShapes Go.ChangeAt Go.RowKit
set_option linter.unusedVariables false

set_option maxRecDepth 100000 in
theorem lifted (os : Os) (started : os.Started) (H : Type) (enc : TypeId × Value → H) :
    ReturnsInHanded {} Try.checked os 4 .any (Rows.storeKeepsSpec.pre6 enc Try.prog Try.f4 Rows.storeKeepsRow.domain false) (Rows.storeKeepsSpec.post enc Try.prog Try.f4 false true false false) := by
  refine returnsInHanded_of_change (C := Try.checked) Try.ownKnob0 started (by kernel_rfl) Try.func4
    (ChangeSpec.witness6 (enc := enc) (C := Try.checked) false ⟨#[], #[.slice none 0 0, .slice none 0 0, .slice none 0 0, .int .i64 0], []⟩ 8 (by kernel_rfl) (by kernel_rfl) (by kernel_rfl) (by kernel_rfl)) ?_
  intro W base args ds gs before hval0 hW hcnd _
  have hval : ∀ (j : Nat) t v, Try.f4.params[j]? = some t → args[j]? = some v → Value.okWide Try.prog W .any base t v := hval0
  have hW' := hW
  obtain ⟨p, q, hA0, hV, rfl, hfz, hnd⟩ := hW
  have hA : DataW.TrodAll enc Try.prog W 0 (fun _ => true) true Try.f4.params.toList args.toList ds p := hA0
  rw [Try.params4] at hA hval
  obtain ⟨v0, vs0, d0, ds0, p0, q0, hargs, rfl, rfl, h0, r_0⟩ := trodAll_cons hA
  obtain ⟨v1, vs1, d1, ds1, p1, q1, rfl, rfl, rfl, h1, r_1⟩ := trodAll_cons r_0
  obtain ⟨v2, vs2, d2, ds2, p2, q2, rfl, rfl, rfl, h2, r_2⟩ := trodAll_cons r_1
  obtain ⟨v3, vs3, d3, ds3, p3, q3, rfl, rfl, rfl, h3, r_3⟩ := trodAll_cons r_2
  obtain ⟨rfl, rfl, rfl⟩ := trodAll_nil r_3
  obtain rfl : args = #[v0, v1, v2, v3] := by cases args; simp_all
  obtain ⟨rfl, rfl⟩ := trodVars_none hV
  obtain ⟨A0, n0, c0, ks0, hv0, r0, e0, m0, x0, y0⟩ := open_pgs (ti := 3) (ts := 9) Try.underlying45 Try.underlying23 (by kernel_rfl) (by kernel_rfl) rfl rfl rfl rfl Try.underlying3 Try.underlying9 (hval 0 45 v0 rfl rfl) h0
  subst hv0
  obtain ⟨A1, n1, c1, ks1, hv1, r1, e1, m1, x1, y1⟩ := open_pgs (ti := 3) (ts := 9) Try.underlying45 Try.underlying23 (by kernel_rfl) (by kernel_rfl) rfl rfl rfl rfl Try.underlying3 Try.underlying9 (hval 1 45 v1 rfl rfl) h1
  subst hv1
  obtain ⟨A2, n2, c2, l2, hv2, r2, e2, m2, x2, y2⟩ := open_nums Try.underlying46 Try.underlying3 (by kernel_rfl) (hval 2 46 v2 rfl rfl) h2
  subst hv2
  obtain ⟨a3, hv3, _, _, a3w⟩ := open_int Try.underlying3 (hval 3 3 v3 rfl rfl) h3
  subst hv3
  have a3b := wf_i64 a3w
  clear hA0 hval0
  refine (storekeeps_walk A0 A1 A2 n0 c0 n1 c1 n2 c2 ks0 ks1 l2 a3 W r0 e0 r1 e1 (by rw [flatZ_map]; exact r2) e2 y0 y1).mono fun e W' ⟨he, hg⟩ => ?_
  subst he
  exact ⟨_, rfl, law_post Try.laid0 (by kernel_rfl) rfl Try.underlying4 rfl rfl hW' hg⟩

/-- The statement. -/
theorem proved : Rows.StoreKeepsSaid :=
  OpenClaim.holds_of_wide 4 Try.f4 rfl rfl rfl rfl rfl rfl rfl ⟨rfl, rfl, rfl, rfl, rfl⟩ rfl rfl rfl rfl rfl (by kernel_rfl) Try.func4 (by kernel_rfl)
    (of_decide_eq_true (by kernel_rfl)) (by unfold Func.isWrapper; first | (rw [if_pos (by decide +kernel)]; kernel_rfl) | (rw [if_neg (by decide +kernel)]; exact ⟨rfl, rfl⟩))
    (fun os started H enc _ => lifted os started H enc)
#print axioms proved
end Go.Proofs.Ytkgcihhpcbodnaa.storeKeeps
