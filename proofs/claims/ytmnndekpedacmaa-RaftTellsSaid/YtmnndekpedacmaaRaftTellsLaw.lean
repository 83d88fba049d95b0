/-
  The law RaftTells holds as it is stated. Its conditions: none.
-/
import Derived.Test.YtmnndekpedacmaaRows
import Derived.Test.YtmnndekpedacmaaRowRaft
import Derived.Test.YtmnndekpedacmaaRaftTellsL
namespace Go.Proofs.Ytmnndekpedacmaa.raftTells
open Go Go.ChangeShapes Go.WideShapes Go.ChangeAt Go.RowKit
set_option linter.unusedVariables false

set_option maxRecDepth 100000 in
theorem lifted (os : Os) (started : os.Started) (H : Type) (enc : TypeId × Value → H) :
    ReturnsInHanded {} Try.checked os 4 .any (Rows.raftTellsSpec.pre6 enc Try.prog Try.f4 Rows.raftTellsRow.domain false) (Rows.raftTellsSpec.post enc Try.prog Try.f4 false true false false) := by
  refine returnsInHanded_of_change (C := Try.checked) Try.ownKnob0 started (by kernel_rfl) Try.func4
    (ChangeSpec.witness6 (enc := enc) (C := Try.checked) false ⟨#[], #[.agg #[.int .i64 0, .int .i64 0], .int .i64 0, .int .i64 0, .slice none 0 0, .slice none 0 0, .slice none 0 0, .slice none 0 0, .bool false], []⟩ 8 (by kernel_rfl) (by kernel_rfl) (by kernel_rfl) (by kernel_rfl)) ?_
  intro W base args ds gs before hval0 hW hcnd _
  have hval : ∀ (j : Nat) t v, Try.f4.params[j]? = some t → args[j]? = some v → Value.okWide Try.prog W .any base t v := hval0
  have hW' := hW
  obtain ⟨p, q, hA0, hV, rfl, hfz, hnd⟩ := hW
  have hA : DataW.TrodAll enc Try.prog W 0 (fun _ => true) true Try.f4.params.toList args.toList ds p := hA0
  rw [Try.params4] at hA hval
  obtain ⟨v0, vs0, d0, ds0, p0, q0, hargs, rfl, rfl, h0, r_0⟩ := trodAll_cons hA
  obtain ⟨v1, vs1, d1, ds1, p1, q1, rfl, rfl, rfl, h1, r_1⟩ := trodAll_cons r_0
  obtain ⟨v2, vs2, d2, ds2, p2, q2, rfl, rfl, rfl, h2, r_2⟩ := trodAll_cons r_1
  obtain ⟨v3, vs3, d3, ds3, p3, q3, rfl, rfl, rfl, h3, r_3⟩ := trodAll_cons r_2
  obtain ⟨v4, vs4, d4, ds4, p4, q4, rfl, rfl, rfl, h4, r_4⟩ := trodAll_cons r_3
  obtain ⟨v5, vs5, d5, ds5, p5, q5, rfl, rfl, rfl, h5, r_5⟩ := trodAll_cons r_4
  obtain ⟨v6, vs6, d6, ds6, p6, q6, rfl, rfl, rfl, h6, r_6⟩ := trodAll_cons r_5
  obtain ⟨v7, vs7, d7, ds7, p7, q7, rfl, rfl, rfl, h7, r_7⟩ := trodAll_cons r_6
  obtain ⟨rfl, rfl, rfl⟩ := trodAll_nil r_7
  obtain rfl : args = #[v0, v1, v2, v3, v4, v5, v6, v7] := by cases args; simp_all
  obtain ⟨rfl, rfl⟩ := trodVars_none hV
  obtain ⟨a0, b0, hv0, u0, w0⟩ := open_two (ti := 3) Try.underlying38 (by kernel_rfl) (by kernel_rfl) rfl rfl Try.underlying3 (hval 0 38 v0 rfl rfl) h0
  subst hv0
  obtain ⟨a1, hv1, _, _, a1w⟩ := open_int Try.underlying3 (hval 1 3 v1 rfl rfl) h1
  subst hv1
  have a1b := wf_i64 a1w
  obtain ⟨a2, hv2, _, _, a2w⟩ := open_int Try.underlying3 (hval 2 3 v2 rfl rfl) h2
  subst hv2
  have a2b := wf_i64 a2w
  obtain ⟨A3, n3, c3, l3, hv3, r3, e3, m3, x3, y3⟩ := open_nums Try.underlying23 Try.underlying3 (by kernel_rfl) (hval 3 23 v3 rfl rfl) h3
  subst hv3
  obtain ⟨A4, n4, c4, l4, hv4, r4, e4, m4, x4, y4⟩ := open_nums Try.underlying23 Try.underlying3 (by kernel_rfl) (hval 4 23 v4 rfl rfl) h4
  subst hv4
  obtain ⟨A5, n5, c5, l5, hv5, r5, e5, m5, x5, y5⟩ := open_nums Try.underlying23 Try.underlying3 (by kernel_rfl) (hval 5 23 v5 rfl rfl) h5
  subst hv5
  obtain ⟨A6, n6, c6, l6, hv6, r6, e6, m6, x6, y6⟩ := open_nums Try.underlying23 Try.underlying3 (by kernel_rfl) (hval 6 23 v6 rfl rfl) h6
  subst hv6
  obtain ⟨a7, hv7, _, _⟩ := open_bool Try.underlying4 (hval 7 4 v7 rfl rfl) h7
  subst hv7
  clear hA0 hval0
  refine (rafttells_walk a0 b0 a1 a2 A3 A4 A5 A6 n3 c3 n4 c4 n5 c5 n6 c6 a7 l3 l4 l5 l6 W r3 e3 r4 e4 r5 e5 r6 e6 u0.1 (fun z hz => (wf_i64 (y6 z hz)).2)).mono fun e W' ⟨he, hg⟩ => ?_
  subst he
  exact ⟨_, rfl, law_post Try.laid0 (by kernel_rfl) rfl Try.underlying4 rfl rfl hW' hg⟩

/-- The statement. -/
theorem proved : Rows.RaftTellsSaid :=
  OpenClaim.holds_of_wide 4 Try.f4 rfl rfl rfl rfl rfl rfl rfl ⟨rfl, rfl, rfl, rfl, rfl⟩ rfl rfl rfl rfl rfl (by kernel_rfl) Try.func4 (by kernel_rfl)
    (of_decide_eq_true (by kernel_rfl)) (by unfold Func.isWrapper; first | (rw [if_pos (by decide +kernel)]; kernel_rfl) | (rw [if_neg (by decide +kernel)]; exact ⟨rfl, rfl⟩))
    (fun os started H enc _ => lifted os started H enc)
#print axioms proved
end Go.Proofs.Ytmnndekpedacmaa.raftTells
