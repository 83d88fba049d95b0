/-
  The law NetPlays holds as it is stated. Its conditions: none.
-/
import Derived.Test.YtpkbfdgfdgkbkaaRows
import Derived.Test.YtpkbfdgfdgkbkaaRowNet
import Derived.Test.YtpkbfdgfdgkbkaaNetPlaysW
namespace Go.Proofs.Ytpkbfdgfdgkbkaa.netPlays
open Go Go.ChangeShapes Go.WideShapes Go.ChangeAt Go.RowKit
set_option linter.unusedVariables false

set_option maxRecDepth 100000 in
theorem lifted (os : Os) (started : os.Started) (H : Type) (enc : TypeId × Value → H) :
    ReturnsInHanded {} Try.checked os 4 .any (Rows.netPlaysSpec.pre6 enc Try.prog Try.f4 Rows.netPlaysRow.domain false) (Rows.netPlaysSpec.post enc Try.prog Try.f4 false true false false) := by
  refine returnsInHanded_of_change (C := Try.checked) Try.ownKnob0 started (by kernel_rfl) Try.func4
    (ChangeSpec.witness6 (enc := enc) (C := Try.checked) false ⟨#[], #[.slice none 0 0], []⟩ 8 (by kernel_rfl) (by kernel_rfl) (by kernel_rfl) (by kernel_rfl)) ?_
  intro W base args ds gs before hval0 hW hcnd _
  have hval : ∀ (j : Nat) t v, Try.f4.params[j]? = some t → args[j]? = some v → Value.okWide Try.prog W .any base t v := hval0
  have hW' := hW
  obtain ⟨p, q, hA0, hV, rfl, hfz, hnd⟩ := hW
  have hA : DataW.TrodAll enc Try.prog W 0 (fun _ => true) true Try.f4.params.toList args.toList ds p := hA0
  rw [Try.params4] at hA hval
  obtain ⟨v0, vs0, d0, ds0, p0, q0, hargs, rfl, rfl, h0, r_0⟩ := trodAll_cons hA
  obtain ⟨rfl, rfl, rfl⟩ := trodAll_nil r_0
  obtain rfl : args = #[v0] := by cases args; simp_all
  obtain ⟨rfl, rfl⟩ := trodVars_none hV
  obtain ⟨A0, n0, c0, os0, hv0, r0, e0, m0, x0, y0⟩ := open_opns (ti := 3) (tp := 35) (tk := 29) (ts := 9) (tb := 4) Try.underlying34 Try.underlying38 (by kernel_rfl) (by kernel_rfl) rfl rfl rfl rfl rfl Try.underlying3 Try.underlying35 Try.underlying29 (by kernel_rfl) (by kernel_rfl) rfl rfl rfl Try.underlying9 Try.underlying4 (hval 0 34 v0 rfl rfl) h0
  subst hv0
  clear hA0 hval0
  refine ((Classical.byCases (fun h : n0 ≤ 80 => netplays_yes A0 n0 c0 os0 W r0 e0 h y0) (fun h => netplays_no A0 n0 c0 W (by have := Nat.le_trans m0 x0; unfold maxLen at this; omega) (Nat.lt_of_not_le h)))).mono fun e W' ⟨he, hg⟩ => ?_
  subst he
  exact ⟨_, rfl, law_post Try.laid0 (by kernel_rfl) rfl Try.underlying4 rfl rfl hW' hg⟩

/-- The statement. -/
theorem proved : Rows.NetPlaysSaid :=
  OpenClaim.holds_of_wide 4 Try.f4 rfl rfl rfl rfl rfl rfl rfl ⟨rfl, rfl, rfl, rfl, rfl⟩ rfl rfl rfl rfl rfl (by kernel_rfl) Try.func4 (by kernel_rfl)
    (of_decide_eq_true (by kernel_rfl)) (by unfold Func.isWrapper; first | (rw [if_pos (by decide +kernel)]; kernel_rfl) | (rw [if_neg (by decide +kernel)]; exact ⟨rfl, rfl⟩))
    (fun os started H enc _ => lifted os started H enc)
#print axioms proved
end Go.Proofs.Ytpkbfdgfdgkbkaa.netPlays
