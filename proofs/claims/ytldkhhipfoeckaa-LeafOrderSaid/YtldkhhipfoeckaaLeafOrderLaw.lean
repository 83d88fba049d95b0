/-
  The law LeafOrder holds as it is stated. Its conditions: none.
-/
import Derived.Test.YtldkhhipfoeckaaRows
import Derived.Test.YtldkhhipfoeckaaRowItems
import Derived.Test.YtldkhhipfoeckaaLeafOrderW
namespace Go.Proofs.Ytldkhhipfoeckaa.leafOrder
open Go Go.ChangeShapes Go.WideShapes Go.ChangeAt Go.RowKit
set_option linter.unusedVariables false

set_option maxRecDepth 100000 in
theorem lifted (os : Os) (started : os.Started) (H : Type) (enc : TypeId × Value → H) :
    ReturnsInHanded {} Try.checked os 8 .any (Rows.leafOrderSpec.pre6 enc Try.prog Try.f8 Rows.leafOrderRow.domain false) (Rows.leafOrderSpec.post enc Try.prog Try.f8 false true false false) := by
  refine returnsInHanded_of_change (C := Try.checked) Try.ownKnob0 started (by kernel_rfl) Try.func8
    (ChangeSpec.witness6 (enc := enc) (C := Try.checked) false ⟨#[], #[.slice none 0 0, .slice none 0 0], []⟩ 8 (by kernel_rfl) (by kernel_rfl) (by kernel_rfl) (by kernel_rfl)) ?_
  intro W base args ds gs before hval0 hW hcnd _
  have hval : ∀ (j : Nat) t v, Try.f8.params[j]? = some t → args[j]? = some v → Value.okWide Try.prog W .any base t v := hval0
  have hW' := hW
  obtain ⟨p, q, hA0, hV, rfl, hfz, hnd⟩ := hW
  have hA : DataW.TrodAll enc Try.prog W 0 (fun _ => true) true Try.f8.params.toList args.toList ds p := hA0
  rw [Try.params8] at hA hval
  obtain ⟨v0, vs0, d0, ds0, p0, q0, hargs, rfl, rfl, h0, r_0⟩ := trodAll_cons hA
  obtain ⟨v1, vs1, d1, ds1, p1, q1, rfl, rfl, rfl, h1, r_1⟩ := trodAll_cons r_0
  obtain ⟨rfl, rfl, rfl⟩ := trodAll_nil r_1
  obtain rfl : args = #[v0, v1] := by cases args; simp_all
  obtain ⟨rfl, rfl⟩ := trodVars_none hV
  obtain ⟨A0, n0, c0, ks0, hv0, r0, e0, m0, x0, y0⟩ := open_items (ti := 3) (ts := 9) Try.underlying96 Try.underlying108 (by kernel_rfl) (by kernel_rfl) rfl rfl rfl Try.underlying3 Try.underlying9 (hval 0 96 v0 rfl rfl) h0
  subst hv0
  obtain ⟨A1, n1, c1, l1, hv1, r1, e1, m1, x1, y1⟩ := open_strs Try.underlying109 Try.underlying9 (by kernel_rfl) (hval 1 109 v1 rfl rfl) h1
  subst hv1
  clear hA0 hval0
  refine (order_any A0 n0 c0 ks0 A1 n1 c1 l1 W r0 e0 r1 e1 y1).mono fun e W' ⟨he, hg⟩ => ?_
  subst he
  exact ⟨_, rfl, law_post Try.laid0 (by kernel_rfl) rfl Try.underlying4 rfl rfl hW' hg⟩

/-- The statement. -/
theorem proved : Rows.LeafOrderSaid :=
  OpenClaim.holds_of_wide 8 Try.f8 rfl rfl rfl rfl rfl rfl rfl ⟨rfl, rfl, rfl, rfl, rfl⟩ rfl rfl rfl rfl rfl (by kernel_rfl) Try.func8 (by kernel_rfl)
    (of_decide_eq_true (by kernel_rfl)) (by unfold Func.isWrapper; first | (rw [if_pos (by decide +kernel)]; kernel_rfl) | (rw [if_neg (by decide +kernel)]; exact ⟨rfl, rfl⟩))
    (fun os started H enc _ => lifted os started H enc)
#print axioms proved
end Go.Proofs.Ytldkhhipfoeckaa.leafOrder
