/-
  The law MsgTells holds as it is stated. Its conditions: none.
-/
import Derived.Test.YtgigkekajdgngaaGreatRows
import Derived.Test.YtgigkekajdgngaaGreatRowMsg
import Derived.Test.YtgigkekajdgngaaGreatMsgTellsW
namespace Go.Proofs.YtgigkekajdgngaaGreat.msgTells
open Go Go.ChangeShapes Go.WideShapes Go.ChangeAt Go.RowKit
set_option linter.unusedVariables false

set_option maxRecDepth 100000 in
theorem lifted (os : Os) (started : os.Started) (H : Type) (enc : TypeId × Value → H) :
    ReturnsInHanded {} Tryz.checked os 3 .any (Rows.msgTellsSpec.pre6 enc Tryz.prog Tryz.f3 Rows.msgTellsRow.domain false) (Rows.msgTellsSpec.post enc Tryz.prog Tryz.f3 false true false false) := by
  refine returnsInHanded_of_change (C := Tryz.checked) Tryz.ownKnob0 started (by kernel_rfl) Tryz.func3
    (ChangeSpec.witness6 (enc := enc) (C := Tryz.checked) false ⟨#[], #[.agg #[.int .i64 0, .int .i64 0, .int .i64 0, .int .i64 0, .int .i64 0, .int .i64 0, .bool false, .string ByteArray.empty, .slice none 0 0], .string ByteArray.empty, .bool false], []⟩ 8 (by kernel_rfl) (by kernel_rfl) (by kernel_rfl) (by kernel_rfl)) ?_
  intro W base args ds gs before hval0 hW hcnd _
  have hval : ∀ (j : Nat) t v, Tryz.f3.params[j]? = some t → args[j]? = some v → Value.okWide Tryz.prog W .any base t v := hval0
  have hW' := hW
  obtain ⟨p, q, hA0, hV, rfl, hfz, hnd⟩ := hW
  have hA : DataW.TrodAll enc Tryz.prog W 0 (fun _ => true) true Tryz.f3.params.toList args.toList ds p := hA0
  rw [Tryz.params3] at hA hval
  obtain ⟨v0, vs0, d0, ds0, p0, q0, hargs, rfl, rfl, h0, r_0⟩ := trodAll_cons hA
  obtain ⟨v1, vs1, d1, ds1, p1, q1, rfl, rfl, rfl, h1, r_1⟩ := trodAll_cons r_0
  obtain ⟨v2, vs2, d2, ds2, p2, q2, rfl, rfl, rfl, h2, r_2⟩ := trodAll_cons r_1
  obtain ⟨rfl, rfl, rfl⟩ := trodAll_nil r_2
  obtain rfl : args = #[v0, v1, v2] := by cases args; simp_all
  obtain ⟨rfl, rfl⟩ := trodVars_none hV
  obtain ⟨m0, A0, n0, c0, hv0, r0, e0, x0, t0, y0⟩ := open_msg (ti := 3) (tb := 4) (ts := 9) (te := 22) (t := 61) (tq := 59) (tl := 57) (tc := 117) Tryz.underlying24 (by kernel_rfl) (by kernel_rfl) rfl rfl rfl rfl rfl rfl rfl rfl rfl Tryz.underlying3 Tryz.underlying9 Tryz.underlying4 Tryz.underlying22 Tryz.underlying61 rfl rfl rfl rfl rfl rfl (by kernel_rfl) (by kernel_rfl) (by kernel_rfl) Tryz.underlying59 (by kernel_rfl) rfl rfl rfl Tryz.underlying57 Tryz.underlying117 (by kernel_rfl) (by kernel_rfl) rfl rfl rfl rfl rfl (hval 0 24 v0 rfl rfl) h0
  subst hv0
  obtain ⟨a1, hv1, _, _, a1w⟩ := Go.ChangeMaps.open_string Tryz.underlying9 (hval 1 9 v1 rfl rfl) h1
  subst hv1
  obtain ⟨a2, hv2, _, _⟩ := open_bool Tryz.underlying4 (hval 2 4 v2 rfl rfl) h2
  subst hv2
  clear hA0 hval0
  refine (msgtells_walk m0 A0 n0 c0 a1 a2 W r0 e0 x0 t0 (fun x hx => (y0 x hx).lies) a1w).mono fun e W' ⟨he, hg⟩ => ?_
  subst he
  exact ⟨_, rfl, law_post Tryz.laid0 (by kernel_rfl) rfl Tryz.underlying4 rfl rfl hW' hg⟩

/-- The statement. -/
theorem proved : Rows.MsgTellsSaid :=
  OpenClaim.holds_of_wide 3 Tryz.f3 rfl rfl rfl rfl rfl rfl rfl ⟨rfl, rfl, rfl, rfl, rfl⟩ rfl rfl rfl rfl rfl (by kernel_rfl) Tryz.func3 (by kernel_rfl)
    (of_decide_eq_true (by kernel_rfl)) (by unfold Func.isWrapper; first | (rw [if_pos (by decide +kernel)]; kernel_rfl) | (rw [if_neg (by decide +kernel)]; exact ⟨rfl, rfl⟩))
    (fun os started H enc _ => lifted os started H enc)
#print axioms proved
end Go.Proofs.YtgigkekajdgngaaGreat.msgTells
