/-
  The law MsgSpoilt holds as it is stated. Its conditions: none.
-/
import Derived.Test.YtgigkekajdgngaaRows
import Derived.Test.YtgigkekajdgngaaRowMsg
import Derived.Test.YtgigkekajdgngaaSpoiltW
namespace Go.Proofs.Ytgigkekajdgngaa.msgSpoilt
open Go Go.ChangeShapes Go.WideShapes Go.ChangeAt Go.RowKit
set_option linter.unusedVariables false

set_option maxRecDepth 100000 in
theorem lifted (os : Os) (started : os.Started) (H : Type) (enc : TypeId × Value → H) :
    ReturnsInHanded {} Try.checked os 3 .any (Rows.msgSpoiltSpec.pre6 enc Try.prog Try.f3 Rows.msgSpoiltRow.domain false) (Rows.msgSpoiltSpec.post enc Try.prog Try.f3 false true false false) := by
  refine returnsInHanded_of_change (C := Try.checked) Try.ownKnob0 started (by kernel_rfl) Try.func3
    (ChangeSpec.witness6 (enc := enc) (C := Try.checked) false ⟨#[], #[.agg #[.int .i64 0, .int .i64 0, .int .i64 0, .int .i64 0, .int .i64 0, .int .i64 0, .bool false, .string ByteArray.empty, .slice none 0 0], .int .i64 0, .int .i64 0], []⟩ 8 (by kernel_rfl) (by kernel_rfl) (by kernel_rfl) (by kernel_rfl)) ?_
  intro W base args ds gs before hval0 hW hcnd _
  have hval : ∀ (j : Nat) t v, Try.f3.params[j]? = some t → args[j]? = some v → Value.okWide Try.prog W .any base t v := hval0
  have hW' := hW
  obtain ⟨p, q, hA0, hV, rfl, hfz, hnd⟩ := hW
  have hA : DataW.TrodAll enc Try.prog W 0 (fun _ => true) true Try.f3.params.toList args.toList ds p := hA0
  rw [Try.params3] at hA hval
  obtain ⟨v0, vs0, d0, ds0, p0, q0, hargs, rfl, rfl, h0, r_0⟩ := trodAll_cons hA
  obtain ⟨v1, vs1, d1, ds1, p1, q1, rfl, rfl, rfl, h1, r_1⟩ := trodAll_cons r_0
  obtain ⟨v2, vs2, d2, ds2, p2, q2, rfl, rfl, rfl, h2, r_2⟩ := trodAll_cons r_1
  obtain ⟨rfl, rfl, rfl⟩ := trodAll_nil r_2
  obtain rfl : args = #[v0, v1, v2] := by cases args; simp_all
  obtain ⟨rfl, rfl⟩ := trodVars_none hV
  obtain ⟨m0, A0, n0, c0, hv0, r0, e0, x0, t0, y0⟩ := open_msg (ti := 3) (tb := 4) (ts := 9) (te := 22) (t := 40) (tq := 38) (tl := 36) (tc := 66) Try.underlying24 (by kernel_rfl) (by kernel_rfl) rfl rfl rfl rfl rfl rfl rfl rfl rfl Try.underlying3 Try.underlying9 Try.underlying4 Try.underlying22 Try.underlying40 rfl rfl rfl rfl rfl rfl (by kernel_rfl) (by kernel_rfl) (by kernel_rfl) Try.underlying38 (by kernel_rfl) rfl rfl rfl Try.underlying36 Try.underlying66 (by kernel_rfl) (by kernel_rfl) rfl rfl rfl rfl rfl (hval 0 24 v0 rfl rfl) h0
  subst hv0
  obtain ⟨a1, hv1, _, _, a1w⟩ := open_int Try.underlying3 (hval 1 3 v1 rfl rfl) h1
  subst hv1
  have a1b := wf_i64 a1w
  obtain ⟨a2, hv2, _, _, a2w⟩ := open_int Try.underlying3 (hval 2 3 v2 rfl rfl) h2
  subst hv2
  have a2b := wf_i64 a2w
  clear hA0 hval0
  refine (spoilt_walk m0 A0 n0 c0 a1 a2 W r0 e0 x0 t0 (fun x hx => (y0 x hx).lies) a2b a1b.2).mono fun e W' ⟨he, hg⟩ => ?_
  subst he
  exact ⟨_, rfl, law_post Try.laid0 (by kernel_rfl) rfl Try.underlying4 rfl rfl hW' hg⟩

/-- The statement. -/
theorem proved : Rows.MsgSpoiltSaid :=
  OpenClaim.holds_of_wide 3 Try.f3 rfl rfl rfl rfl rfl rfl rfl ⟨rfl, rfl, rfl, rfl, rfl⟩ rfl rfl rfl rfl rfl (by kernel_rfl) Try.func3 (by kernel_rfl)
    (of_decide_eq_true (by kernel_rfl)) (by unfold Func.isWrapper; first | (rw [if_pos (by decide +kernel)]; kernel_rfl) | (rw [if_neg (by decide +kernel)]; exact ⟨rfl, rfl⟩))
    (fun os started H enc _ => lifted os started H enc)
#print axioms proved
end Go.Proofs.Ytgigkekajdgngaa.msgSpoilt
