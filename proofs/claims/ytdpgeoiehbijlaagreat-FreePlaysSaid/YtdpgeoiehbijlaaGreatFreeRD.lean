/-
  The document's Free: Take: what it does. Condition: the list is in order.
-/
import Derived.Test.YtdpgeoiehbijlaaGreatFreeRA
import Derived.Test.YtdpgeoiehbijlaaGreatFreeL
import Derived.Test.YtdpgeoiehbijlaaGreatFreeB
namespace Go.Proofs.YtdpgeoiehbijlaaGreat
open Go Go.RowKit
attribute [local go_sem] cell_set_if

/-- Without the first j of a run. -/
def cutS (l : List Int) (a : Int) (j : Nat) : List Int := l.filter fun x => !(decide (a ≤ x) && decide (x < a + (j : Int)))
theorem cutS_zero (l : List Int) (a : Int) : cutS l a 0 = l := by
  unfold cutS; rw [List.filter_eq_self]
  intro x _
  simp; omega
theorem cutS_succ (l : List Int) (a : Int) (j : Nat) : ((cutS l a j).filter fun x => !(x == a + (j : Int))) = cutS l a (j + 1) := by
  unfold cutS; rw [List.filter_filter]
  refine List.filter_congr fun x _ => ?_
  rw [Bool.eq_iff_iff]
  simp
  omega
theorem cutS_len (l : List Int) (a : Int) (j : Nat) : (cutS l a j).length ≤ l.length := List.length_filter_le _ _
theorem takeS_at {s : Fs} {m i : Nat} {a : Int} (hok : s.ok) (h1 : 1 ≤ m) (h2 : m ≤ 20) (ha : s.fr[i]? = some a) (hr : runAt s.fr m i = true) (hno : ∀ j, j < i → runAt s.fr m j = false) : takeS s (m : Int) = ((a, 0), { s with fr := cutS s.fr a m }) := by
  have hv := runV_of hr hno
  unfold takeS
  rw [if_neg (by omega)]
  simp only [Int.toNat_natCast, hv]
  unfold cutS
  rw [run_cut hok.up (by omega) ha hr, List.getD_eq_getElem?_getD, ha]
  rfl
theorem takeS_none {s : Fs} {m : Nat} (h1 : 1 ≤ m) (h2 : m ≤ 20) (hno : ∀ j, j < s.fr.length → runAt s.fr m j = false) : takeS s (m : Int) = if 4000 < s.pages + (m : Int) then ((0, 20), s) else ((s.pages, 0), { s with pages := s.pages + m }) := by
  have hv := runV_not hno
  unfold takeS
  rw [if_neg (by omega)]
  simp only [Int.toNat_natCast, hv]
set_option maxRecDepth 100000 in
set_option maxHeartbeats 4000000 in
theorem rtake_any (base g : Nat) (s : Fs) (nn : Int) (v1 v2 : Value) (w : World) (h : FreeDoc w base g s v1 v2) (hok : s.ok) :
    Calls Tryz.prog 12 #[.pointer (some ⟨g, 0, none⟩), .int .i64 nn] w fun e w' => e = .returned (.tuple #[.int .i64 (takeS s nn).1.1, .int .i64 (takeS s nn).1.2]) ∧ ∃ v1' v2', FreeDoc w' base g (takeS s nn).2 v1' v2' ∧ TurnF g v1 v2 w v1' v2' w' := by
  have H := Lib.hid h
  by_cases hbad : nn < 1 ∨ 20 < nn
  · have HF := Lib.hid (takeS_bad (s := s) hbad)
    have hc : nn < 1 ∨ (1 ≤ nn ∧ 20 < nn) := by omega
    clear h hbad hok
    rcases hc with h1 | ⟨h1, h2⟩
    all_goals
      go_enter Tryz.func12, Tryz.ntmps12
      go_wp2
      go_ret2
      exact ⟨by (rw [HF.out]) <;> rfl, v1, v2, by rw [HF.out]; exact H.out, TurnF.refl _ _ _ _⟩
  obtain ⟨m, rfl⟩ : ∃ m : Nat, nn = (m : Int) := ⟨nn.toNat, by omega⟩
  have hm1 : 1 ≤ m := by omega
  have hm2 : m ≤ 20 := by omega
  have hmi1 : (1 : Int) ≤ (m : Int) := by omega
  have hmi2 : (m : Int) ≤ 20 := by omega
  obtain ⟨A1, c1, A2, c2, hv1, hv2, r1, _, _, _⟩ := h.reads
  obtain ⟨f, hf⟩ : ∃ f, f = s.fr.length := ⟨_, rfl⟩
  have hf4 : f ≤ 4000 := by have := hok.len; omega
  rw [← hf] at hv1
  obtain ⟨p, hp⟩ : ∃ p, p = s.pages := ⟨_, rfl⟩
  have hp0 : 2 ≤ p := by rw [hp]; exact hok.p0
  have hp1 : p ≤ 4000 := by rw [hp]; exact hok.p1
  have HV1 := Lib.hid hv1
  have HR := Lib.hid r1
  have HFF := Lib.hid hf
  have HP := Lib.hid hp
  have HOK := Lib.hid hok
  have hlo := Lib.hid (Nat.lt_of_le_of_lt h.low h.blk.lt)
  clear hbad h hok hv1 hv2 r1 hf hp
  go_enter Tryz.func12, Tryz.ntmps12
  go_wp2
  go_loopw [6] (fun u6 wr => ∃ i : Nat, i ≤ f ∧ u6 = .int .i64 i ∧ Hid (∀ j, j < i → runAt s.fr m j = false) ∧ Qt w wr) (fun u6 _ => f - (intOf u6).toNat)
  case atStart => exact ⟨0, by omega, rfl, fun j hj => by omega, Qt.refl _⟩
  case round =>
    obtain ⟨i, hi, rfl, HNO, hQ⟩ := hrel
    have F1 := H.out.below (hQ.below _)
    have k1 : wr.cell? ⟨g, 1, none⟩ = some (.slice A1 f c1) := by rw [← HV1.out]; exact F1.blk.cell 1
    by_cases hlt : i < f
    · obtain ⟨b1, o1, a, rfl, _, ha, d0⟩ := (HR.out.below (hQ.below _)).num (k := i) (by have := HFF.out; omega)
      have hii : (i : Int) < (f : Int) := by omega
      have hrg := HOK.out.rg a (List.mem_of_getElem? ha)
      have ha0 : 2 ≤ a := hrg.1
      have ha1 : a < 4000 := by have := hrg.2; have := HP.out; omega
      have HAI := Lib.hid ha
      have HQ0 := Lib.hid hQ
      clear hrg ha F1 hQ
      go_wp2
      go_loopw [7] (fun u7 wx => ∃ k : Nat, k ≤ m ∧ u7 = .int .i64 k ∧ Hid (∀ j : Nat, j < k → a + (j : Int) ∈ s.fr) ∧ Qt w wx) (fun u7 _ => m - (intOf u7).toNat)
      case atStart => exact ⟨0, by omega, rfl, fun j hj => by omega, HQ0.out⟩
      case round =>
        obtain ⟨k, hkm, rfl, HK, hQ⟩ := hrel
        clear k1 d0
        have F1 := H.out.below (hQ.below _)
        have k1 : wr.cell? ⟨g, 1, none⟩ = some (.slice (some ⟨b1, o1, none⟩) f c1) := by rw [← HV1.out]; exact F1.blk.cell 1
        obtain ⟨b2, o2, a', hA', _, ha', d0⟩ := (HR.out.below (hQ.below _)).num (k := i) (by have := HFF.out; omega)
        obtain rfl : a' = a := Option.some.inj (ha'.symm.trans HAI.out)
        injection hA' with hA'
        injection hA' with hA1 hA2
        subst hA1 hA2
        have HQ := Lib.hid hQ
        have HF1 := Lib.hid F1
        by_cases hkn : k < m
        · have hki : (k : Int) < (m : Int) := by omega
          obtain ⟨bq, hbq⟩ : ∃ bq, bq = decide (a' + (k : Int) ∈ s.fr) := ⟨_, rfl⟩
          have HS : Hid (∀ q, Calls Tryz.prog 32 #[.slice (some ⟨b1, o1, none⟩) f c1, .int .i64 (a' + (k : Int))] (wr.drewN q) fun e w' => e = .returned (.bool bq) ∧ ∃ n, w' = (wr.drewN q).drewN n) := fun q => by
            have := in_ints (some ⟨b1, o1, none⟩) f c1 s.fr (a' + (k : Int)) (wr.drewN q) ((HR.out.below (hQ.below _)).drewN q) HFF.out.symm (by omega)
            rw [← hbq] at this
            exact this.mono fun e w' ⟨h1, h2⟩ => ⟨h1, 0, h2⟩
          have HB := Lib.hid hbq
          clear hbq ha' F1 hQ
          cases bq
          · have HNX : Hid (∀ j, j < i + 1 → runAt s.fr m j = false) := fun j hj => by
              by_cases e : j = i
              · subst e
                cases hra : runAt s.fr m j with
                | false => rfl
                | true =>
                  have h1 := run_mem HOK.out.up (by omega) HAI.out hra (j := k) hkn
                  have h2 := of_decide_eq_false HB.out.symm
                  exact absurd (List.mem_of_getElem? h1) h2
              · exact HNO.out j (by omega)
            have hne : ((k : Int) == (m : Int)) = false := by simp; omega
            go_wp2
            go_quiet ((go_at_call 32; exact Calls.quiet_of (HS.out _)))
            go_wp2
            go_roundw
            case rel => exact ⟨i + 1, by omega, by go_num, HNX, HQ.out.trans (Qt.drewN _ _)⟩
            case measure => simp [intOf]; omega
          · have HKX : Hid (∀ j : Nat, j < k + 1 → a' + (j : Int) ∈ s.fr) := fun j hj => by
              by_cases e : j = k
              · subst e; exact of_decide_eq_true HB.out.symm
              · exact HK.out j (by omega)
            go_wp2
            go_quiet ((go_at_call 32; exact Calls.quiet_of (HS.out _)))
            go_wp2
            go_roundw
            case rel => exact ⟨k + 1, by omega, by go_num, HKX, HQ.out.trans (Qt.drewN _ _)⟩
            case measure => simp [intOf]; omega
        · obtain rfl : k = m := by omega
          have hra := run_of_mem HOK.out.up (by omega) HAI.out HK.out
          have HT := Lib.hid (takeS_at HOK.out hm1 hm2 HAI.out hra HNO.out)
          have hkk : decide ((k : Int) < (k : Int)) = false := by simp
          clear hra ha' F1 hQ
          go_wp2
          go_quiet (fail)
          go_wp2
          go_loopw [9] (fun u9 wx => ∃ (j : Nat) (v1' : Value), j ≤ k ∧ u9 = .int .i64 j ∧ Hid (FreeDoc wx base g { s with fr := cutS s.fr a' j } v1' v2) ∧ Hid (TurnF g v1 v2 w v1' v2 wx)) (fun u9 _ => k - (intOf u9).toNat)
          case atStart =>
            refine ⟨0, v1, by omega, rfl, ?_, ?_⟩
            · unfold Hid; rw [cutS_zero]; exact HF1.out.below (by first | exact (Below.refl _ _).drew | exact (Qt.drewN _ _).below _ | exact Below.refl _ _)
            · exact ((TurnF.refl _ _ _ _).step (HQ.out.below _)).step (by first | exact (Below.refl _ _).drew | exact (Qt.drewN _ _).below _ | exact Below.refl _ _)
          case round =>
            clear k1 d0 HNO HK HQ HF1 HAI
            obtain ⟨j, v1', hj, rfl, HF2, HT2⟩ := hrel
            by_cases hjk : j < k
            · have hji : (j : Int) < (k : Int) := by omega
              obtain ⟨B, d, _, _, hw1, _, r1', _, hd, _⟩ := HF2.out.reads
              obtain ⟨l, hl⟩ : ∃ l, l = cutS s.fr a' j := ⟨_, rfl⟩
              obtain ⟨q, hq⟩ : ∃ q, q = l.length := ⟨_, rfl⟩
              have hq4 : q ≤ 4000 := by rw [hq, hl]; have := cutS_len s.fr a' j; have := HFF.out; omega
              simp only [← hl] at hw1 r1' hd
              rw [← hq] at hw1 hd
              have k1 : wr.cell? ⟨g, 1, none⟩ = some (.slice B q d) := by rw [← hw1]; exact HF2.out.blk.cell 1
              have hdr := rdropZ_any B q d l (a' + (j : Int)) wr r1' hq.symm (by omega)
              have hnx : (l.filter fun x => !(x == a' + (j : Int))) = cutS s.fr a' (j + 1) := by rw [hl]; exact cutS_succ _ _ _
              rw [hnx] at hdr
              have HD := Lib.hid hdr
              clear hdr hnx hl hq hw1 r1'
              go_wp2_with (go_at_call 33; refine HD.out.mono ?_; rintro e w5 ⟨⟨B5, m5, d5, rfl, hm5, o5⟩, b5⟩
                           have K5 := HF2.out.blk.below b5
                           have z5 := K5.free 1
                           have y5 : w5.cell? ⟨g, 1, none⟩ = some v1' := K5.cell 1)
              go_roundw
              case rel =>
                refine ⟨j + 1, .slice B5 m5 d5, by omega, by go_num, ?_, ?_⟩
                · refine ⟨?_, HF2.out.low, ?_, ?_⟩
                  · have := K5.set_ 1 (.slice B5 m5 d5)
                    show Blk _ g _ #[.int .i64 s.pages, _, v2]
                    simpa using this
                  · show World.ownsRow _ _ _ _ _ (cutS s.fr a' (j + 1)).length _
                    rw [hm5]
                    refine own_frm (own_base o5 (by have := HF2.out.low; have := HF2.out.blk.lt; omega)) ((Frm.refl (at1 g) _).setCell (p := ⟨g, 1, none⟩) (fun _ => rfl) _) (fun q hq e => ?_)
                    have h1 := (o5.lt q hq).1
                    have h2 := HF2.out.blk.lt
                    have h3 : q = g := e
                    omega
                  · exact own_frm HF2.out.o2 (show Frm (at1 g) wr (w5.setCell ⟨g, 1, none⟩ (.slice B5 m5 d5)) from (Frm.of_below (S := at1 g) b5).setCell (p := ⟨g, 1, none⟩) (fun _ => rfl) _) (fun q hq e => HF2.out.blk.own_ne HF2.out.o2 (by decide) (e ▸ hq))
                · refine HT2.out.trans ⟨(Frm.of_below b5).setCell (p := ⟨g, 1, none⟩) (fun _ => .inl rfl) _, fun i hi => ?_⟩
                  rcases hi with hi | hi | hi
                  · exact .inl (.inl hi)
                  · exact .inr (o5.lt i hi).1
                  · exact .inl (.inr (.inr hi))
              case measure => simp [intOf]; omega
            · obtain rfl : j = k := by omega
              go_wp2
              go_ret2
              exact ⟨by (rw [HT.out]) <;> rfl, v1', v2, by rw [HT.out]; exact HF2.out, HT2.out⟩
    · obtain rfl : f = i := by omega
      have hno : ∀ j, j < s.fr.length → runAt s.fr m j = false := fun j hj => HNO.out j (by have := HFF.out; omega)
      have ht := takeS_none hm1 hm2 hno
      have k0 : wr.cell? ⟨g, 0, none⟩ = some (.int .i64 p) := by rw [HP.out]; exact F1.blk.cell 0
      have z0 := F1.blk.free 0
      have HF1 := Lib.hid F1
      have HQ := Lib.hid hQ
      rw [← HP.out] at ht
      by_cases hfull : 4000 < p + (m : Int)
      · rw [if_pos hfull] at ht
        have HT := Lib.hid ht
        clear ht hno F1 hQ
        go_wp2
        go_ret2
        exact ⟨by (rw [HT.out]) <;> rfl, v1, v2, by rw [HT.out]; exact HF1.out, (TurnF.refl _ _ _ _).step (HQ.out.below _)⟩
      · rw [if_neg hfull] at ht
        have HT := Lib.hid ht
        have hfi : p + (m : Int) ≤ 4000 := by omega
        have hpm : p + (m : Int) - (m : Int) = p := by omega
        have FS : Frm (at1 g) wr (wr.setCell ⟨g, 0, none⟩ (.int .i64 (p + (m : Int)))) := (Frm.refl (at1 g) _).setCell (p := ⟨g, 0, none⟩) (fun _ => rfl) _
        have HF6 : Hid (FreeDoc (wr.setCell ⟨g, 0, none⟩ (.int .i64 (p + (m : Int)))) base g { s with pages := p + (m : Int) } v1 v2) := by
          refine ⟨?_, HF1.out.low, ?_, ?_⟩
          · have := HF1.out.blk.set_ 0 (.int .i64 (p + (m : Int)))
            simpa using this
          · exact own_frm HF1.out.o1 FS (fun q hq e => HF1.out.blk.own_ne HF1.out.o1 (by decide) (e ▸ hq))
          · exact own_frm HF1.out.o2 FS (fun q hq e => HF1.out.blk.own_ne HF1.out.o2 (by decide) (e ▸ hq))
        have HT6 : Hid (TurnF g v1 v2 w v1 v2 (wr.setCell ⟨g, 0, none⟩ (.int .i64 (p + (m : Int))))) := ((TurnF.refl g v1 v2 w).step (HQ.out.below _)).trans ⟨FS.mono fun i _ hi => .inl hi, fun j hj => .inl hj⟩
        clear ht hno F1 hQ FS
        go_wp2
        go_ret2
        exact ⟨by (rw [HT.out]) <;> rfl, v1, v2, by rw [HT.out]; exact HF6.out, HT6.out⟩
end Go.Proofs.YtdpgeoiehbijlaaGreat
