/-
  free.List's Take: what it gives. Conditions: the list is in order.
-/
import Derived.Test.YtdpgeoiehbijlaaGreatFreeR
namespace Go.Proofs.YtdpgeoiehbijlaaGreat
open Go Go.RowKit
attribute [local go_sem] cell_set_if

theorem takeS_bad {s : Fs} {n : Int} (h : n < 1 ∨ 20 < n) : takeS s n = ((0, 1), s) := by unfold takeS; rw [if_pos h]
theorem takeS_run {s : Fs} {n : Nat} {i : Nat} (h1 : 1 ≤ n) (h2 : n ≤ 20) (h : runI s.fr n = (i : Int)) : ∃ a, s.fr[i]? = some a ∧ i + n ≤ s.fr.length ∧ takeS s (n : Int) = ((a, 0), { s with fr := s.fr.take i ++ s.fr.drop (i + n) }) := by
  unfold runI at h
  split at h
  · omega
  · rename_i j hj
    obtain rfl : j = i := by omega
    obtain ⟨hil, hr, _⟩ := runV_some hj
    obtain ⟨a, b, ha, hb, _⟩ := runAt_iff.1 hr
    have := (List.getElem?_eq_some_iff.1 hb).1
    refine ⟨a, ha, by omega, ?_⟩
    unfold takeS
    rw [if_neg (by omega)]
    simp only [Int.toNat_natCast, hj]
    rw [List.getD_eq_getElem?_getD, ha]; rfl
theorem takeS_new {s : Fs} {n : Nat} (h1 : 1 ≤ n) (h2 : n ≤ 20) (h : runI s.fr n = -1) : takeS s (n : Int) = if 4000 < s.pages + (n : Int) then ((0, 20), s) else ((s.pages, 0), { s with pages := s.pages + n }) := by
  unfold runI at h
  split at h
  · rename_i hj
    unfold takeS
    rw [if_neg (by omega)]
    simp only [Int.toNat_natCast, hj]
  · omega
theorem runI_cases (l : List Int) (n : Nat) : runI l n = -1 ∨ ∃ i : Nat, runI l n = (i : Int) := by
  unfold runI
  split
  · exact .inl rfl
  · exact .inr ⟨_, rfl⟩
/-- What Take leaves. -/
def TookF (w : World) (base g : Nat) (s : Fs) (n : Int) (v1 v2 : Value) (e : Ending) (w' : World) : Prop :=
  e = .returned (.tuple #[.int .i64 (takeS s n).1.1, .int .i64 (takeS s n).1.2]) ∧ ∃ v1' v2', FreeAt w' base g (takeS s n).2 v1' v2' ∧ TurnF g v1 v2 w v1' v2' w'

set_option maxRecDepth 100000 in
set_option maxHeartbeats 4000000 in
theorem ftake_any (base g : Nat) (s : Fs) (n : Int) (v1 v2 : Value) (w : World) (h : FreeAt w base g s v1 v2) (hok : s.ok) :
    Calls Tryz.prog 11 #[.pointer (some ⟨g, 0, none⟩), .int .i64 n] w fun e w' => TookF w base g s n v1 v2 e w' := by
  have H := Lib.hid h
  by_cases hbad : n < 1 ∨ 20 < n
  · have HF := Lib.hid (takeS_bad (s := s) hbad)
    have hc : n < 1 ∨ (1 ≤ n ∧ 20 < n) := by omega
    clear h hbad hok
    rcases hc with h1 | ⟨h1, h2⟩
    all_goals
      go_enter Tryz.func11, Tryz.ntmps11
      go_wp2
      go_ret2
      exact ⟨by (rw [HF.out]) <;> rfl, v1, v2, by rw [HF.out]; exact H.out, TurnF.refl _ _ _ _⟩
  obtain ⟨m, rfl⟩ : ∃ m : Nat, n = (m : Int) := ⟨n.toNat, by omega⟩
  have hm1 : 1 ≤ m := by omega
  have hm2 : m ≤ 20 := by omega
  have hmi1 : (1 : Int) ≤ (m : Int) := by omega
  have hmi2 : (m : Int) ≤ 20 := by omega
  have dd1 : decide ((m : Int) < 1) = false := decide_eq_false (by omega)
  have dd2 : decide ((20 : Int) < (m : Int)) = false := decide_eq_false (by omega)
  have hlen := hok.len.1
  have hp0 := hok.p0
  have hp1 := hok.p1
  have hrg : ∀ x ∈ s.fr, 2 ≤ x ∧ x < 4000 := (fun x hx => ⟨(hok.rg x hx).1, by have := (hok.rg x hx).2; have := hok.p1; omega⟩)
  have hrun := fun w h => frun_any base g m s v1 v2 w h hm1 hm2 hlen hrg
  obtain ⟨A1, c1, hv1, hc1⟩ := h.form.1
  have k0 := h.blk.cell 0
  have k1 := h.blk.cell 1
  have f1 := h.blk.free 1
  have f0 := h.blk.free 0
  simp only [List.getElem?_toArray, List.getElem?_cons_zero, List.getElem?_cons_succ] at k0 k1
  clear hbad
  rcases runI_cases s.fr m with hr | ⟨i, hr⟩
  · have HN := Lib.hid (takeS_new hm1 hm2 hr)
    simp only [hr] at hrun
    have HRun := Lib.hid hrun
    obtain ⟨p, hp⟩ : ∃ p, p = s.pages := ⟨_, rfl⟩
    rw [← hp] at k0 hp0 hp1
    have HP := Lib.hid hp
    clear hr hrun h hv1 hc1 hp
    by_cases hful : 4000 < p + (m : Int)
    · have HF : Hid (takeS s (m : Int) = ((0, 20), s)) := by unfold Hid; rw [HN.out, if_pos (by rw [← HP.out]; exact hful)]
      go_enter Tryz.func11, Tryz.ntmps11
      go_wp2_with (go_at_call 30; refine (HRun.out _ H.out).mono ?_; rintro e w1 ⟨rfl, q1⟩; have H1 := H.out.below (q1.below _); have g0 := cell_b (q1.below _) k0; have Q1 := q1.below w.heap.size)
      go_ret2
      exact ⟨by (rw [HF.out]) <;> rfl, v1, v2, by rw [HF.out]; exact H1, (TurnF.refl g v1 v2 w).step Q1⟩
    · have hful' : p + (m : Int) ≤ 4000 := by omega
      have HF : Hid (takeS s (m : Int) = ((s.pages, 0), { s with pages := s.pages + m })) := by unfold Hid; rw [HN.out, if_neg (by rw [← HP.out]; omega)]
      have hsub : p + (m : Int) - (m : Int) = p := by omega
      clear hful
      go_enter Tryz.func11, Tryz.ntmps11
      go_wp2_with (go_at_call 30; refine (HRun.out _ H.out).mono ?_; rintro e w1 ⟨rfl, q1⟩; have H1 := H.out.below (q1.below _); have g0 := cell_b (q1.below _) k0; have Q1 := q1.below w.heap.size; have z0 := H1.blk.free 0)
      go_ret2
      refine ⟨by (rw [HF.out, ← HP.out]) <;> rfl, v1, v2, ?_, ?_⟩
      · rw [HF.out]
        refine ⟨?_, H1.low, ?_, ?_⟩
        · have := H1.blk.set_ 0 (.int .i64 (p + (m : Int)))
          rw [HP.out] at this ⊢
          simpa using this
        · exact own_frm H1.o1 ((Frm.refl (at1 g) _).setCell (p := ⟨g, 0, none⟩) (fun _ => rfl) _) (fun q hq e => H1.blk.own_ne H1.o1 (by decide) (e ▸ hq))
        · exact own_frm H1.o2 ((Frm.refl (at1 g) _).setCell (p := ⟨g, 0, none⟩) (fun _ => rfl) _) (fun q hq e => H1.blk.own_ne H1.o2 (by decide) (e ▸ hq))
      · exact ⟨(((TurnF.refl g v1 v2 w).step Q1).frm).setCell (p := ⟨g, 0, none⟩) (fun _ => .inl rfl) _, fun k hk => .inl hk⟩
  · obtain ⟨a, ha, hil, htk⟩ := takeS_run hm1 hm2 hr
    simp only [hr] at hrun
    have HRun := Lib.hid hrun
    obtain ⟨L, hL⟩ : ∃ L, L = s.fr.length := ⟨_, rfl⟩
    have o1 := h.o1
    rw [hv1, ← hL] at o1
    obtain ⟨q1g, cc, e1, hbq, hlq⟩ := o1.form (by omega)
    obtain rfl : A1 = some ⟨q1g, 0, none⟩ := by injection e1
    obtain rfl : c1 = cc := by injection e1
    clear e1
    rw [hv1, ← hL] at k1
    have ca : w.cell? ⟨q1g, i, none⟩ = some (.int .i64 a) := by
      have := o1.cells (g := q1g) rfl i _ (flatZ_at s.fr i a ha)
      rwa [add_flat, Nat.zero_add] at this
    have hii : (i : Int) < (L : Int) := by omega
    have hi0 : (0 : Int) ≤ (i : Int) := by omega
    have hLi : (L : Int) ≤ 4000 := by omega
    obtain ⟨j, hj⟩ : ∃ j, j = i + m := ⟨_, rfl⟩
    obtain ⟨M, hM⟩ : ∃ M, M = i + (L - j) := ⟨_, rfl⟩
    have him : (i : Int) + (m : Int) = (j : Int) := by omega
    have hji : (j : Int) ≤ (L : Int) := by omega
    have hj0 : (0 : Int) ≤ (j : Int) := by omega
    have HDel := Lib.hid fun w o => zdelete_any base q1g L c1 i j M s.fr w o hL.symm (by omega) (by omega) (by omega) hM
    have HF : Hid (takeS s (m : Int) = ((a, 0), { s with fr := s.fr.take i ++ s.fr.drop j })) := by unfold Hid; rw [htk, hj]
    have HJ := Lib.hid hj
    have HMM := Lib.hid hM
    have HO := Lib.hid o1
    have HV := Lib.hid hv1
    have HLL := Lib.hid hL
    clear hr hrun h hv1 hc1 htk ha hil hL o1 hlen hlq hj hM
    go_enter Tryz.func11, Tryz.ntmps11
    go_wp2_with (first
      | (go_at_call 30; refine (HRun.out _ H.out).mono ?_; rintro e w1 ⟨rfl, q1⟩; have H1 := H.out.below (q1.below _); have g1 := cell_b (q1.below _) k1; have ga := cell_b (q1.below _) ca; have Q1 := q1.below w.heap.size; have O1 := own_frm HO.out (Frm.of_below (S := no) Q1) (fun _ _ => id))
      | (go_at_call 31; refine (HDel.out _ O1).mono ?_; rintro e w2 ⟨rfl, o2, F2⟩; have T1 : TyS w1 (at1 q1g) [3] := (fun q _ e => ⟨_, by simp, (show q = q1g from e) ▸ own_ty O1 rfl⟩); have B2 := H1.blk.frm_ty F2 T1 (by decide); have z1 := B2.free 1; have y1 : w2.cell? ⟨g, 1, none⟩ = some (.slice (some ⟨q1g, 0, none⟩) L c1) := (B2.cell 1).trans (by rw [HV.out, ← HLL.out]; rfl); have P2 := own_frm_ty H1.o2 F2 T1 (by decide)))
    go_ret2
    have hln : (s.fr.take i ++ s.fr.drop j).length = M := by
      have := HLL.out
      have := HMM.out
      simp
      omega
    refine ⟨by (rw [HF.out]) <;> rfl, .slice (some ⟨q1g, 0, none⟩) M c1, v2, ?_, ?_⟩
    · rw [HF.out]
      refine ⟨?_, H1.low, ?_, ?_⟩
      · have := B2.set_ 1 (.slice (some ⟨q1g, 0, none⟩) M c1)
        simpa using this
      · have := own_frm o2 ((Frm.refl (at1 g) _).setCell (p := ⟨g, 1, none⟩) (fun _ => rfl) (.slice (some ⟨q1g, 0, none⟩) M c1)) (fun q hq e => B2.own_ne o2 (by decide) (e ▸ hq))
        rw [← hln] at this
        rw [← hln]
        exact this
      · exact own_frm P2 ((Frm.refl (at1 g) _).setCell (p := ⟨g, 1, none⟩) (fun _ => rfl) _) (fun q hq e => B2.own_ne P2 (by decide) (e ▸ hq))
    · refine ⟨((((TurnF.refl g v1 v2 w).step Q1).frm).trans F2 (fun k _ e => .inr (.inl ?_))).setCell (p := ⟨g, 1, none⟩) (fun _ => .inl rfl) _, fun k hk => ?_⟩
      · rw [HV.out]; exact congrArg some (show k = q1g from e).symm
      · rcases hk with hk | hk | hk
        · exact .inl (.inl hk)
        · exact .inl (.inr (.inl (by rw [HV.out]; exact hk)))
        · exact .inl (.inr (.inr hk))
end Go.Proofs.YtdpgeoiehbijlaaGreat
