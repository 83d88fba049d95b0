/-
  The law PackPuts holds as it is stated. Its conditions: none.
-/
import Derived.Test.YtobflgpaijdcaaaDoorRows
import Derived.Test.YtobflgpaijdcaaaDoorCards
import Derived.Test.YtobflgpaijdcaaaDoorTie
import Derived.Test.YtobflgpaijdcaaaDoorTied
import Derived.Test.YtobflgpaijdcaaaDoorRowOps
import Derived.Test.YtobflgpaijdcaaaDoorPackPutsW
namespace Go.Proofs.YtobflgpaijdcaaaDoor.packPuts
open Go Go.ChangeShapes Go.WideShapes Go.ChangeAt Go.RowKit
set_option linter.unusedVariables false

set_option maxRecDepth 100000 in
theorem lifted (os : Os) (started : os.Started) (H : Type) (enc : TypeId × Value → H) :
    ReturnsInHanded {} Tryd.checked os 6 .any (fun w args => (Rows.packPutsSpec.pre enc Tryd.prog Tryd.f6 [] false w args ∧ laidMetH Tryd.prog Rows.packPutsRow.laid w) ∧ sizedMet enc Tryd.prog Tryd.f6 (OpenSpec.ofChange Rows.packPutsSpec) false w args)
      (Rows.packPutsSpec.post enc Tryd.prog Tryd.f6 false true false false) := by
  refine returnsInHanded_of_change_and (C := Tryd.checked) (X := fun w _ => laidMetH Tryd.prog Rows.packPutsRow.laid w) (fun _ _ _ hh h => h.of_heap hh) Tryd.ownKnob0 started (by kernel_rfl) Tryd.func6
    (ChangeSpec.witness_shaped (enc := enc) (C := Tryd.checked) (os := os) (X := fun w _ => laidMetH Tryd.prog Rows.packPutsRow.laid w) false (World.doorLaid Tryd.prog 34 os) #[.slice none 0 0] 8 rfl (World.shaped_of_RefB (by kernel_rfl) (by kernel_rfl)) (by kernel_rfl) (by kernel_rfl) (by kernel_rfl) (door_met os _)) ?_
  intro W base args ds gs before hval0 hW _ _ hL _
  have hT := pow_of hL
  have hval : ∀ (j : Nat) t v, Tryd.f6.params[j]? = some t → args[j]? = some v → Value.okWide Tryd.prog W .any base t v := hval0
  have hW' := hW
  obtain ⟨p, q, hA0, hV, rfl, hfz, hnd⟩ := hW
  have hA : DataW.TrodAll enc Tryd.prog W 0 (fun _ => true) true Tryd.f6.params.toList args.toList ds p := hA0
  rw [Tryd.params6] at hA hval
  obtain ⟨v0, vs0, d0, ds0, p0, q0, hargs, rfl, rfl, h0, r_0⟩ := trodAll_cons hA
  obtain ⟨rfl, rfl, rfl⟩ := trodAll_nil r_0
  obtain rfl : args = #[v0] := by cases args; simp_all
  obtain ⟨rfl, rfl⟩ := trodVars_none hV
  obtain ⟨A0, n0, c0, os0, hv0, r0, e0, m0, x0, y0⟩ := open_ops (ti := 3) (ts := 9) Tryd.underlying22 Tryd.underlying32 (by kernel_rfl) (by kernel_rfl) rfl rfl rfl Tryd.underlying3 Tryd.underlying9 (hval 0 22 v0 rfl rfl) h0
  subst hv0
  clear hA0 hval0
  refine (packputs_walk A0 n0 c0 os0 W hT r0 e0 (Nat.le_trans m0 x0) (fun o ho => ⟨(y0 o ho).1, (y0 o ho).2.2⟩)).mono fun e W' ⟨he, hg⟩ => ?_
  subst he
  exact ⟨_, rfl, law_post Tryd.laid0 (by kernel_rfl) rfl Tryd.underlying4 rfl rfl hW' hg⟩

/-- The row's statement. -/
theorem said : Rows.PackPutsSaid :=
  OpenClaim.holds_of_wide 6 Tryd.f6 rfl rfl rfl rfl rfl rfl rfl ⟨rfl, rfl, rfl, rfl, rfl⟩ rfl rfl rfl rfl rfl (by kernel_rfl) Tryd.func6 (by kernel_rfl)
    (of_decide_eq_true (by kernel_rfl)) (by unfold Func.isWrapper; first | (rw [if_pos (by decide +kernel)]; kernel_rfl) | (rw [if_neg (by decide +kernel)]; exact ⟨rfl, rfl⟩))
    (fun os started H enc _ => lifted os started H enc)
/-- The statement: the row's card, its variables tied to the program's text. -/
theorem proved : Rows.PackPutsCardSaid :=
  Claim7.holds_tied_plain_at .later [] Rows.packPutsCard.laidKinds true Rows.packPutsCard.stood.harness false
    said (fun _ h => by cases h) (by kernel_rfl) (fun _ h => by cases h) packPuts_row_tie rfl ⟨rfl, rfl⟩ (by kernel_rfl) rfl
    (fun f fn hf hfn => by
      obtain rfl : f = 6 := Option.some.inj ((show Tryd.prog.funcNamed Rows.packPutsRow.func = some 6 by kernel_rfl).symm.trans hf) |>.symm
      obtain rfl : fn = Tryd.f6 := (Option.some.inj (Tryd.func6.symm.trans hfn)).symm
      exact ⟨by kernel_rfl, fun j t ht => by
        rw [Tryd.params6] at ht
        have hm : t ∈ [22] := by simpa using Array.mem_of_getElem? ht
        have hall : ([22].all fun u => !Tryd.prog.wantsStandIn u) = true := by kernel_rfl
        exact (show Tryd.prog.wantsStandIn t = false by simpa using List.all_eq_true.1 hall t hm)⟩)
    (by kernel_rfl)
#print axioms proved
end Go.Proofs.YtobflgpaijdcaaaDoor.packPuts
