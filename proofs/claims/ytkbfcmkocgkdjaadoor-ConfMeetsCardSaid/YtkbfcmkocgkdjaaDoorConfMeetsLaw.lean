/-
  The law ConfMeets holds as it is stated. Its conditions: none.
-/
import Derived.Test.YtkbfcmkocgkdjaaDoorRows
import Derived.Test.YtkbfcmkocgkdjaaDoorCards
import Derived.Test.YtkbfcmkocgkdjaaDoorTie
import Derived.Test.YtkbfcmkocgkdjaaDoorTiedConf
import Derived.Test.YtkbfcmkocgkdjaaDoorLaySplit
import Derived.Test.YtkbfcmkocgkdjaaDoorRow
import Derived.Test.YtkbfcmkocgkdjaaDoorConfMeetsW
namespace Go.Proofs.YtkbfcmkocgkdjaaDoor.confMeets
open Go Go.ChangeShapes Go.WideShapes Go.ChangeAt Go.RowKit
set_option linter.unusedVariables false

set_option maxRecDepth 100000 in
theorem lifted (os : Os) (started : os.Started) (H : Type) (enc : TypeId × Value → H) :
    ReturnsInHanded {} Tryd.checked os 3 .any (fun w args => (Rows.confMeetsSpec.pre enc Tryd.prog Tryd.f3 [] false w args ∧ laidMetH Tryd.prog Rows.confMeetsRow.laid w) ∧ sizedMet enc Tryd.prog Tryd.f3 (OpenSpec.ofChange Rows.confMeetsSpec) false w args)
      (Rows.confMeetsSpec.post enc Tryd.prog Tryd.f3 false true false false) := by
  refine handed_shaped (C := Tryd.checked) (X := fun w _ => laidMetH Tryd.prog Rows.confMeetsRow.laid w) (fun _ _ _ hh h => h.of_heap hh) Tryd.ownKnob0 started (by kernel_rfl) Tryd.func3
    (ChangeSpec.witness_shaped (enc := enc) (C := Tryd.checked) (os := os) (X := fun w _ => laidMetH Tryd.prog Rows.confMeetsRow.laid w) false (World.laidAll Tryd.prog os Rows.confMeetsRow.laid) #[.slice none 0 0, .slice none 0 0, .slice none 0 0, .slice none 0 0, .slice none 0 0] 8 (World.laidAll_os _ _ _) (World.shaped_of_ZipB (by kernel_rfl) (by kernel_rfl)) (by kernel_rfl) (by kernel_rfl) (by kernel_rfl)
      (by rw [MakeChecks.laidMetH_plain _ _ _ (by kernel_rfl)]; exact laidMet_laidAll _ (by kernel_rfl) (by kernel_rfl))) ?_
  intro W base args ds gs before hval0 hW hL hsh
  have hT := pow_of hL
  have hM := maxIs_open hsh
  have hval : ∀ (j : Nat) t v, Tryd.f3.params[j]? = some t → args[j]? = some v → Value.okWide Tryd.prog W .any base t v := hval0
  have hW' := hW
  obtain ⟨p, q, hA0, hV, rfl, hfz, hnd⟩ := hW
  have hA : DataW.TrodAll enc Tryd.prog W 0 (fun _ => true) true Tryd.f3.params.toList args.toList ds p := hA0
  rw [Tryd.params3] at hA hval
  obtain ⟨v0, vs0, d0, ds0, p0, q0, hargs, rfl, rfl, h0, r_0⟩ := trodAll_cons hA
  obtain ⟨v1, vs1, d1, ds1, p1, q1, rfl, rfl, rfl, h1, r_1⟩ := trodAll_cons r_0
  obtain ⟨v2, vs2, d2, ds2, p2, q2, rfl, rfl, rfl, h2, r_2⟩ := trodAll_cons r_1
  obtain ⟨v3, vs3, d3, ds3, p3, q3, rfl, rfl, rfl, h3, r_3⟩ := trodAll_cons r_2
  obtain ⟨v4, vs4, d4, ds4, p4, q4, rfl, rfl, rfl, h4, r_4⟩ := trodAll_cons r_3
  obtain ⟨rfl, rfl, rfl⟩ := trodAll_nil r_4
  obtain rfl : args = #[v0, v1, v2, v3, v4] := by cases args; simp_all
  obtain ⟨rfl, rfl⟩ := trodVars_none hV
  obtain ⟨A0, n0, c0, l0, hv0, r0, e0, m0, x0, y0⟩ := open_nums Tryd.underlying22 Tryd.underlying3 (by kernel_rfl) (hval 0 22 v0 rfl rfl) h0
  subst hv0
  obtain ⟨A1, n1, c1, l1, hv1, r1, e1, m1, x1, y1⟩ := open_nums Tryd.underlying22 Tryd.underlying3 (by kernel_rfl) (hval 1 22 v1 rfl rfl) h1
  subst hv1
  obtain ⟨A2, n2, c2, l2, hv2, r2, e2, m2, x2, y2⟩ := open_nums Tryd.underlying22 Tryd.underlying3 (by kernel_rfl) (hval 2 22 v2 rfl rfl) h2
  subst hv2
  obtain ⟨A3, n3, c3, l3, hv3, r3, e3, m3, x3, y3⟩ := open_nums Tryd.underlying22 Tryd.underlying3 (by kernel_rfl) (hval 3 22 v3 rfl rfl) h3
  subst hv3
  obtain ⟨A4, n4, c4, l4, hv4, r4, e4, m4, x4, y4⟩ := open_nums Tryd.underlying22 Tryd.underlying3 (by kernel_rfl) (hval 4 22 v4 rfl rfl) h4
  subst hv4
  clear hA0 hval0
  refine (confmeets_walk A0 A1 A2 A3 A4 n0 c0 n1 c1 n2 c2 n3 c3 n4 c4 l0 l1 l2 l3 l4 W hT hM (by rw [flatZ_map]; exact r0) e0 (by rw [flatZ_map]; exact r1) e1 (by rw [flatZ_map]; exact r2) e2 (by rw [flatZ_map]; exact r3) e3 (by rw [flatZ_map]; exact r4) e4).mono fun e W' ⟨he, hg⟩ => ?_
  subst he
  exact ⟨_, rfl, law_post Tryd.laid0 (by kernel_rfl) rfl Tryd.underlying4 rfl rfl hW' hg⟩

/-- The row's statement. -/
theorem said : Rows.ConfMeetsSaid :=
  OpenClaim.holds_of_wide 3 Tryd.f3 rfl rfl rfl rfl rfl rfl rfl ⟨rfl, rfl, rfl, rfl, rfl⟩ rfl rfl rfl rfl rfl (by kernel_rfl) Tryd.func3 (by kernel_rfl)
    (of_decide_eq_true (by kernel_rfl)) (by unfold Func.isWrapper; first | (rw [if_pos (by decide +kernel)]; kernel_rfl) | (rw [if_neg (by decide +kernel)]; exact ⟨rfl, rfl⟩))
    (fun os started H enc _ => lifted os started H enc)
/-- The statement: the row's card, its variables tied to the program's text. -/
theorem proved : Rows.ConfMeetsCardSaid :=
  Claim7.holds_tied_plain_at .later [] Rows.confMeetsCard.laidKinds true Rows.confMeetsCard.stood.harness false
    said (fun _ h => by cases h) (by kernel_rfl) (fun _ h => by cases h) confMeets_row_tie rfl ⟨rfl, rfl⟩ (by kernel_rfl) rfl
    (fun f fn hf hfn => by
      obtain rfl : f = 3 := Option.some.inj ((show Tryd.prog.funcNamed Rows.confMeetsRow.func = some 3 by kernel_rfl).symm.trans hf) |>.symm
      obtain rfl : fn = Tryd.f3 := (Option.some.inj (Tryd.func3.symm.trans hfn)).symm
      exact ⟨by kernel_rfl, fun j t ht => by
        rw [Tryd.params3] at ht
        have hm : t ∈ [22, 22, 22, 22, 22] := by simpa using Array.mem_of_getElem? ht
        have hall : ([22, 22, 22, 22, 22].all fun u => !Tryd.prog.wantsStandIn u) = true := by kernel_rfl
        exact (show Tryd.prog.wantsStandIn t = false by simpa using List.all_eq_true.1 hall t hm)⟩)
    (by kernel_rfl)
#print axioms proved
end Go.Proofs.YtkbfcmkocgkdjaaDoor.confMeets
