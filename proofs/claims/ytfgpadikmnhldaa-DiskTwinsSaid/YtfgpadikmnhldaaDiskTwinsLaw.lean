/-
  The law DiskTwins holds as it is stated. Its conditions: none.
-/
import Derived.Test.YtfgpadikmnhldaaRows
import Derived.Test.YtfgpadikmnhldaaRowDisk
import Derived.Test.YtfgpadikmnhldaaTwinsW
namespace Go.Proofs.Ytfgpadikmnhldaa.diskTwins
open Go Go.ChangeShapes Go.WideShapes Go.ChangeAt Go.RowKit
set_option linter.unusedVariables false

set_option maxRecDepth 100000 in
theorem lifted (os : Os) (started : os.Started) (H : Type) (enc : TypeId × Value → H) :
    ReturnsInHanded {} Try.checked os 3 .any (Rows.diskTwinsSpec.pre6 enc Try.prog Try.f3 Rows.diskTwinsRow.domain false) (Rows.diskTwinsSpec.post enc Try.prog Try.f3 false true false false) := by
  refine returnsInHanded_of_change (C := Try.checked) Try.ownKnob0 started (by kernel_rfl) Try.func3
    (ChangeSpec.witness6 (enc := enc) (C := Try.checked) false ⟨#[], #[.int .i64 0, .slice none 0 0, .agg #[.int .i64 0, .string ByteArray.empty, .string ByteArray.empty, .int .i64 0, .int .i64 0, .bool false, .slice none 0 0]], []⟩ 8 (by kernel_rfl) (by kernel_rfl) (by kernel_rfl) (by kernel_rfl)) ?_
  intro W base args ds gs before hval0 hW hcnd _
  have hval : ∀ (j : Nat) t v, Try.f3.params[j]? = some t → args[j]? = some v → Value.okWide Try.prog W .any base t v := hval0
  have hW' := hW
  obtain ⟨p, q, hA0, hV, rfl, hfz, hnd⟩ := hW
  have hA : DataW.TrodAll enc Try.prog W 0 (fun _ => true) true Try.f3.params.toList args.toList ds p := hA0
  rw [Try.params3] at hA hval
  obtain ⟨v0, vs0, d0, ds0, p0, q0, hargs, rfl, rfl, h0, r_0⟩ := trodAll_cons hA
  obtain ⟨v1, vs1, d1, ds1, p1, q1, rfl, rfl, rfl, h1, r_1⟩ := trodAll_cons r_0
  obtain ⟨v2, vs2, d2, ds2, p2, q2, rfl, rfl, rfl, h2, r_2⟩ := trodAll_cons r_1
  obtain ⟨rfl, rfl, rfl⟩ := trodAll_nil r_2
  obtain rfl : args = #[v0, v1, v2] := by cases args; simp_all
  obtain ⟨rfl, rfl⟩ := trodVars_none hV
  obtain ⟨a0, hv0, _, _, a0w⟩ := open_int Try.underlying3 (hval 0 3 v0 rfl rfl) h0
  subst hv0
  have a0b := wf_i64 a0w
  obtain ⟨A1, n1, c1, os1, hv1, r1, e1, m1, x1, y1⟩ := open_opds (ti := 3) (ts := 9) (tb := 4) (tl := 23) Try.underlying22 Try.underlying25 (by kernel_rfl) (by kernel_rfl) rfl rfl rfl rfl rfl rfl rfl Try.underlying3 Try.underlying9 Try.underlying4 Try.underlying23 (by kernel_rfl) (hval 1 22 v1 rfl rfl) h1
  subst hv1
  obtain ⟨o2, hv2, y2⟩ := open_opd (ti := 3) (ts := 9) (tb := 4) (tl := 23) Try.underlying25 (by kernel_rfl) (by kernel_rfl) rfl rfl rfl rfl rfl rfl rfl Try.underlying3 Try.underlying9 Try.underlying4 Try.underlying23 (by kernel_rfl) (hval 2 25 v2 rfl rfl) h2
  subst hv2
  clear hA0 hval0
  refine (disktwins_walk a0 A1 n1 c1 os1 o2 W r1 e1 y1 y2).mono fun e W' ⟨he, hg⟩ => ?_
  subst he
  exact ⟨_, rfl, law_post Try.laid0 (by kernel_rfl) rfl Try.underlying4 rfl rfl hW' hg⟩

/-- The statement. -/
theorem proved : Rows.DiskTwinsSaid :=
  OpenClaim.holds_of_wide 3 Try.f3 rfl rfl rfl rfl rfl rfl rfl ⟨rfl, rfl, rfl, rfl, rfl⟩ rfl rfl rfl rfl rfl (by kernel_rfl) Try.func3 (by kernel_rfl)
    (of_decide_eq_true (by kernel_rfl)) (by unfold Func.isWrapper; first | (rw [if_pos (by decide +kernel)]; kernel_rfl) | (rw [if_neg (by decide +kernel)]; exact ⟨rfl, rfl⟩))
    (fun os started H enc _ => lifted os started H enc)
#print axioms proved
end Go.Proofs.Ytfgpadikmnhldaa.diskTwins
