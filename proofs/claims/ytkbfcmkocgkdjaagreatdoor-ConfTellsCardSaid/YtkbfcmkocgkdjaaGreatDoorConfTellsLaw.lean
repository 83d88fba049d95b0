/-
  The law ConfTells holds as it is stated. Its conditions: none.
-/
import Derived.Test.YtkbfcmkocgkdjaaGreatDoorRows
import Derived.Test.YtkbfcmkocgkdjaaGreatDoorCards
import Derived.Test.YtkbfcmkocgkdjaaGreatDoorTie
import Derived.Test.YtkbfcmkocgkdjaaGreatDoorTiedConf
import Derived.Test.YtkbfcmkocgkdjaaGreatDoorLaySplit
import Derived.Test.YtkbfcmkocgkdjaaGreatDoorRow
import Derived.Test.YtkbfcmkocgkdjaaGreatDoorConfTellsL
namespace Go.Proofs.YtkbfcmkocgkdjaaGreatDoor.confTells
open Go Go.ChangeShapes Go.WideShapes Go.ChangeAt Go.RowKit
set_option linter.unusedVariables false

set_option maxRecDepth 100000 in
theorem lifted (os : Os) (started : os.Started) (H : Type) (enc : TypeId × Value → H) :
    ReturnsInHanded {} Tryz.checked os 3 .any (fun w args => (Rows.confTellsSpec.pre enc Tryz.prog Tryz.f3 [] false w args ∧ laidMetH Tryz.prog Rows.confTellsRow.laid w) ∧ sizedMet enc Tryz.prog Tryz.f3 (OpenSpec.ofChange Rows.confTellsSpec) false w args)
      (Rows.confTellsSpec.post enc Tryz.prog Tryz.f3 false true false false) := by
  refine handed_shaped (C := Tryz.checked) (X := fun w _ => laidMetH Tryz.prog Rows.confTellsRow.laid w) (fun _ _ _ hh h => h.of_heap hh) Tryz.ownKnob0 started (by kernel_rfl) Tryz.func3
    (ChangeSpec.witness_shaped (enc := enc) (C := Tryz.checked) (os := os) (X := fun w _ => laidMetH Tryz.prog Rows.confTellsRow.laid w) false (World.laidAll Tryz.prog os Rows.confTellsRow.laid) #[.slice none 0 0, .slice none 0 0, .slice none 0 0, .string ByteArray.empty, .int .i64 0] 8 (World.laidAll_os _ _ _) (World.shaped_of_ZipB (by kernel_rfl) (by kernel_rfl)) (by kernel_rfl) (by kernel_rfl) (by kernel_rfl)
      (by rw [MakeChecks.laidMetH_plain _ _ _ (by kernel_rfl)]; exact laidMet_laidAll _ (by kernel_rfl) (by kernel_rfl))) ?_
  intro W base args ds gs before hval0 hW hL hsh
  have hT := pow_of hL
  have hM := maxIs_open hsh
  have hval : ∀ (j : Nat) t v, Tryz.f3.params[j]? = some t → args[j]? = some v → Value.okWide Tryz.prog W .any base t v := hval0
  have hW' := hW
  obtain ⟨p, q, hA0, hV, rfl, hfz, hnd⟩ := hW
  have hA : DataW.TrodAll enc Tryz.prog W 0 (fun _ => true) true Tryz.f3.params.toList args.toList ds p := hA0
  rw [Tryz.params3] at hA hval
  obtain ⟨v0, vs0, d0, ds0, p0, q0, hargs, rfl, rfl, h0, r_0⟩ := trodAll_cons hA
  obtain ⟨v1, vs1, d1, ds1, p1, q1, rfl, rfl, rfl, h1, r_1⟩ := trodAll_cons r_0
  obtain ⟨v2, vs2, d2, ds2, p2, q2, rfl, rfl, rfl, h2, r_2⟩ := trodAll_cons r_1
  obtain ⟨v3, vs3, d3, ds3, p3, q3, rfl, rfl, rfl, h3, r_3⟩ := trodAll_cons r_2
  obtain ⟨v4, vs4, d4, ds4, p4, q4, rfl, rfl, rfl, h4, r_4⟩ := trodAll_cons r_3
  obtain ⟨rfl, rfl, rfl⟩ := trodAll_nil r_4
  obtain rfl : args = #[v0, v1, v2, v3, v4] := by cases args; simp_all
  obtain ⟨rfl, rfl⟩ := trodVars_none hV
  obtain ⟨A0, n0, c0, l0, hv0, r0, e0, m0, x0, y0⟩ := open_nums Tryz.underlying22 Tryz.underlying3 (by kernel_rfl) (hval 0 22 v0 rfl rfl) h0
  subst hv0
  obtain ⟨A1, n1, c1, l1, hv1, r1, e1, m1, x1, y1⟩ := open_nums Tryz.underlying22 Tryz.underlying3 (by kernel_rfl) (hval 1 22 v1 rfl rfl) h1
  subst hv1
  obtain ⟨A2, n2, c2, l2, hv2, r2, e2, m2, x2, y2⟩ := open_nums Tryz.underlying22 Tryz.underlying3 (by kernel_rfl) (hval 2 22 v2 rfl rfl) h2
  subst hv2
  obtain ⟨a3, hv3, _, _, a3w⟩ := Go.ChangeMaps.open_string Tryz.underlying9 (hval 3 9 v3 rfl rfl) h3
  subst hv3
  obtain ⟨a4, hv4, _, _, a4w⟩ := open_int Tryz.underlying3 (hval 4 3 v4 rfl rfl) h4
  subst hv4
  have a4b := wf_i64 a4w
  clear hA0 hval0
  refine (conftells_any A0 A1 A2 n0 c0 n1 c1 n2 c2 l0 l1 l2 a3 a4 W hT hM r0 e0 m0 r1 e1 r2 e2).mono fun e W' ⟨he, hg⟩ => ?_
  subst he
  exact ⟨_, rfl, law_post Tryz.laid0 (by kernel_rfl) rfl Tryz.underlying4 rfl rfl hW' hg⟩

/-- The row's statement. -/
theorem said : Rows.ConfTellsSaid :=
  OpenClaim.holds_of_wide 3 Tryz.f3 rfl rfl rfl rfl rfl rfl rfl ⟨rfl, rfl, rfl, rfl, rfl⟩ rfl rfl rfl rfl rfl (by kernel_rfl) Tryz.func3 (by kernel_rfl)
    (of_decide_eq_true (by kernel_rfl)) (by unfold Func.isWrapper; first | (rw [if_pos (by decide +kernel)]; kernel_rfl) | (rw [if_neg (by decide +kernel)]; exact ⟨rfl, rfl⟩))
    (fun os started H enc _ => lifted os started H enc)
/-- The statement: the row's card, its variables tied to the program's text. -/
theorem proved : Rows.ConfTellsCardSaid :=
  Claim7.holds_tied_plain_at .later [] Rows.confTellsCard.laidKinds true Rows.confTellsCard.stood.harness false
    said (fun _ h => by cases h) (by kernel_rfl) (fun _ h => by cases h) confTells_row_tie rfl ⟨rfl, rfl⟩ (by kernel_rfl) rfl
    (fun f fn hf hfn => by
      obtain rfl : f = 3 := Option.some.inj ((show Tryz.prog.funcNamed Rows.confTellsRow.func = some 3 by kernel_rfl).symm.trans hf) |>.symm
      obtain rfl : fn = Tryz.f3 := (Option.some.inj (Tryz.func3.symm.trans hfn)).symm
      exact ⟨by kernel_rfl, fun j t ht => by
        rw [Tryz.params3] at ht
        have hm : t ∈ [22, 22, 22, 9, 3] := by simpa using Array.mem_of_getElem? ht
        have hall : ([22, 22, 22, 9, 3].all fun u => !Tryz.prog.wantsStandIn u) = true := by kernel_rfl
        exact (show Tryz.prog.wantsStandIn t = false by simpa using List.all_eq_true.1 hall t hm)⟩)
    (by kernel_rfl)
#print axioms proved
end Go.Proofs.YtkbfcmkocgkdjaaGreatDoor.confTells
