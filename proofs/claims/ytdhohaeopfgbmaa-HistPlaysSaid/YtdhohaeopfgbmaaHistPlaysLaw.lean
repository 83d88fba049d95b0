/-
  The law HistPlays holds as it is stated. Its conditions: none.
-/
import Derived.Test.YtdhohaeopfgbmaaRows
import Derived.Test.YtdhohaeopfgbmaaOne
import Derived.Test.YtdhohaeopfgbmaaHistPlaysW
namespace Go.Proofs.Ytdhohaeopfgbmaa.histPlays
open Go Go.ChangeShapes Go.WideShapes Go.ChangeAt Go.RowKit
set_option linter.unusedVariables false

set_option maxRecDepth 100000 in
theorem lifted (os : Os) (started : os.Started) (H : Type) (enc : TypeId × Value → H) :
    ReturnsInHanded {} Try.checked os 3 .any (Rows.histPlaysSpec.pre6 enc Try.prog Try.f3 Rows.histPlaysRow.domain false) (Rows.histPlaysSpec.post enc Try.prog Try.f3 false true false false) := by
  refine returnsInHanded_of_change (C := Try.checked) Try.ownKnob0 started (by kernel_rfl) Try.func3
    (ChangeSpec.witness6 (enc := enc) (C := Try.checked) false ⟨#[], #[.int .i64 0, .int .i64 0, .slice none 0 0, .int .i64 0, .int .i64 0, .int .i64 0], []⟩ 8 (by kernel_rfl) (by kernel_rfl) (by kernel_rfl) (by kernel_rfl)) ?_
  intro W base args ds gs before hval0 hW hcnd _
  have hval : ∀ (j : Nat) t v, Try.f3.params[j]? = some t → args[j]? = some v → Value.okWide Try.prog W .any base t v := hval0
  have hW' := hW
  obtain ⟨p, q, hA0, hV, rfl, hfz, hnd⟩ := hW
  have hA : DataW.TrodAll enc Try.prog W 0 (fun _ => true) true Try.f3.params.toList args.toList ds p := hA0
  rw [Try.params3] at hA hval
  obtain ⟨v0, vs0, d0, ds0, p0, q0, hargs, rfl, rfl, h0, r_0⟩ := trodAll_cons hA
  obtain ⟨v1, vs1, d1, ds1, p1, q1, rfl, rfl, rfl, h1, r_1⟩ := trodAll_cons r_0
  obtain ⟨v2, vs2, d2, ds2, p2, q2, rfl, rfl, rfl, h2, r_2⟩ := trodAll_cons r_1
  obtain ⟨v3, vs3, d3, ds3, p3, q3, rfl, rfl, rfl, h3, r_3⟩ := trodAll_cons r_2
  obtain ⟨v4, vs4, d4, ds4, p4, q4, rfl, rfl, rfl, h4, r_4⟩ := trodAll_cons r_3
  obtain ⟨v5, vs5, d5, ds5, p5, q5, rfl, rfl, rfl, h5, r_5⟩ := trodAll_cons r_4
  obtain ⟨rfl, rfl, rfl⟩ := trodAll_nil r_5
  obtain rfl : args = #[v0, v1, v2, v3, v4, v5] := by cases args; simp_all
  obtain ⟨rfl, rfl⟩ := trodVars_none hV
  obtain ⟨a0, hv0, _, _, a0w⟩ := open_int Try.underlying3 (hval 0 3 v0 rfl rfl) h0
  subst hv0
  have a0b := wf_i64 a0w
  obtain ⟨a1, hv1, _, _, a1w⟩ := open_int Try.underlying3 (hval 1 3 v1 rfl rfl) h1
  subst hv1
  have a1b := wf_i64 a1w
  obtain ⟨A2, n2, c2, os2, hv2, r2, e2, m2, x2, y2⟩ := open_ophs (ti := 3) (tb := 4) (ts := 9) (te := 41) (t := 53) (tq := 51) (tl := 49) (tc := 96) Try.underlying22 Try.underlying43 (by kernel_rfl) (by kernel_rfl) rfl rfl rfl rfl rfl Try.underlying3 Try.underlying9 Try.underlying4 Try.underlying41 Try.underlying53 rfl rfl rfl rfl rfl rfl (by kernel_rfl) (by kernel_rfl) (by kernel_rfl) Try.underlying51 (by kernel_rfl) rfl rfl rfl Try.underlying49 Try.underlying96 (by kernel_rfl) (by kernel_rfl) rfl rfl rfl rfl rfl (hval 2 22 v2 rfl rfl) h2
  subst hv2
  obtain ⟨a3, hv3, _, _, a3w⟩ := open_int Try.underlying3 (hval 3 3 v3 rfl rfl) h3
  subst hv3
  have a3b := wf_i64 a3w
  obtain ⟨a4, hv4, _, _, a4w⟩ := open_int Try.underlying3 (hval 4 3 v4 rfl rfl) h4
  subst hv4
  have a4b := wf_i64 a4w
  obtain ⟨a5, hv5, _, _, a5w⟩ := open_int Try.underlying3 (hval 5 3 v5 rfl rfl) h5
  subst hv5
  have a5b := wf_i64 a5w
  clear hA0 hval0
  refine (histplays_walk a0 a1 A2 n2 c2 os2 a3 a4 a5 W r2 e2 (Nat.le_trans m2 x2) y2).mono fun e W' ⟨he, hg⟩ => ?_
  subst he
  exact ⟨_, rfl, law_post Try.laid0 (by kernel_rfl) rfl Try.underlying4 rfl rfl hW' hg⟩

/-- The statement. -/
theorem proved : Rows.HistPlaysSaid :=
  OpenClaim.holds_of_wide 3 Try.f3 rfl rfl rfl rfl rfl rfl rfl ⟨rfl, rfl, rfl, rfl, rfl⟩ rfl rfl rfl rfl rfl (by kernel_rfl) Try.func3 (by kernel_rfl)
    (of_decide_eq_true (by kernel_rfl)) (by unfold Func.isWrapper; first | (rw [if_pos (by decide +kernel)]; kernel_rfl) | (rw [if_neg (by decide +kernel)]; exact ⟨rfl, rfl⟩))
    (fun os started H enc _ => lifted os started H enc)
#print axioms proved
end Go.Proofs.Ytdhohaeopfgbmaa.histPlays
