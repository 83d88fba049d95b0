/-
  The law BigTells holds as it is stated. Its conditions: none.
-/
import Derived.Test.YtejmpfmkaiaklaaRows
import Derived.Test.YtejmpfmkaiaklaaRow
import Derived.Test.YtejmpfmkaiaklaaBigTellsW
namespace Go.Proofs.Ytejmpfmkaiaklaa.bigTells
open Go Go.ChangeShapes Go.WideShapes Go.ChangeAt Go.RowKit
set_option linter.unusedVariables false

set_option maxRecDepth 100000 in
theorem lifted (os : Os) (started : os.Started) (H : Type) (enc : TypeId × Value → H) :
    ReturnsInHanded {} Try.checked os 4 .any (Rows.bigTellsSpec.pre6 enc Try.prog Try.f4 Rows.bigTellsRow.domain false) (Rows.bigTellsSpec.post enc Try.prog Try.f4 false true false false) := by
  refine returnsInHanded_of_change (C := Try.checked) Try.ownKnob0 started (by kernel_rfl) Try.func4
    (ChangeSpec.witness6 (enc := enc) (C := Try.checked) false ⟨#[], #[.string ByteArray.empty, .int .i64 0, .int .i64 0, .int .i64 0, .int .i64 0, .string ByteArray.empty], []⟩ 8 (by kernel_rfl) (by kernel_rfl) (by kernel_rfl) (by kernel_rfl)) ?_
  intro W base args ds gs before hval0 hW hcnd _
  have hval : ∀ (j : Nat) t v, Try.f4.params[j]? = some t → args[j]? = some v → Value.okWide Try.prog W .any base t v := hval0
  have hW' := hW
  obtain ⟨p, q, hA0, hV, rfl, hfz, hnd⟩ := hW
  have hA : DataW.TrodAll enc Try.prog W 0 (fun _ => true) true Try.f4.params.toList args.toList ds p := hA0
  rw [Try.params4] at hA hval
  obtain ⟨v0, vs0, d0, ds0, p0, q0, hargs, rfl, rfl, h0, r_0⟩ := trodAll_cons hA
  obtain ⟨v1, vs1, d1, ds1, p1, q1, rfl, rfl, rfl, h1, r_1⟩ := trodAll_cons r_0
  obtain ⟨v2, vs2, d2, ds2, p2, q2, rfl, rfl, rfl, h2, r_2⟩ := trodAll_cons r_1
  obtain ⟨v3, vs3, d3, ds3, p3, q3, rfl, rfl, rfl, h3, r_3⟩ := trodAll_cons r_2
  obtain ⟨v4, vs4, d4, ds4, p4, q4, rfl, rfl, rfl, h4, r_4⟩ := trodAll_cons r_3
  obtain ⟨v5, vs5, d5, ds5, p5, q5, rfl, rfl, rfl, h5, r_5⟩ := trodAll_cons r_4
  obtain ⟨rfl, rfl, rfl⟩ := trodAll_nil r_5
  obtain rfl : args = #[v0, v1, v2, v3, v4, v5] := by cases args; simp_all
  obtain ⟨rfl, rfl⟩ := trodVars_none hV
  obtain ⟨a0, hv0, _, _, a0w⟩ := Go.ChangeMaps.open_string Try.underlying9 (hval 0 9 v0 rfl rfl) h0
  subst hv0
  obtain ⟨a1, hv1, _, _, a1w⟩ := open_int Try.underlying3 (hval 1 3 v1 rfl rfl) h1
  subst hv1
  have a1b := wf_i64 a1w
  obtain ⟨a2, hv2, _, _, a2w⟩ := open_int Try.underlying3 (hval 2 3 v2 rfl rfl) h2
  subst hv2
  have a2b := wf_i64 a2w
  obtain ⟨a3, hv3, _, _, a3w⟩ := open_int Try.underlying3 (hval 3 3 v3 rfl rfl) h3
  subst hv3
  have a3b := wf_i64 a3w
  obtain ⟨a4, hv4, _, _, a4w⟩ := open_int Try.underlying3 (hval 4 3 v4 rfl rfl) h4
  subst hv4
  have a4b := wf_i64 a4w
  obtain ⟨a5, hv5, _, _, a5w⟩ := Go.ChangeMaps.open_string Try.underlying9 (hval 5 9 v5 rfl rfl) h5
  subst hv5
  clear hA0 hval0
  refine (bigtells_walk a0 a5 a1 a2 a3 a4 W a0w a5w a3b.1 a3b.2).mono fun e W' ⟨he, hg⟩ => ?_
  subst he
  exact ⟨_, rfl, law_post Try.laid0 (by kernel_rfl) rfl Try.underlying4 rfl rfl hW' hg⟩

/-- The statement. -/
theorem proved : Rows.BigTellsSaid :=
  OpenClaim.holds_of_wide 4 Try.f4 rfl rfl rfl rfl rfl rfl rfl ⟨rfl, rfl, rfl, rfl, rfl⟩ rfl rfl rfl rfl rfl (by kernel_rfl) Try.func4 (by kernel_rfl)
    (of_decide_eq_true (by kernel_rfl)) (by unfold Func.isWrapper; first | (rw [if_pos (by decide +kernel)]; kernel_rfl) | (rw [if_neg (by decide +kernel)]; exact ⟨rfl, rfl⟩))
    (fun os started H enc _ => lifted os started H enc)
#print axioms proved
end Go.Proofs.Ytejmpfmkaiaklaa.bigTells
