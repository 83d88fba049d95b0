/-
  What the document's Index gives: the greatest number that more than half have, by counting. Condition: no more than a thousand members.
-/
import Derived.Test.YtkbfcmkocgkdjaaGreatDoorConfQ
namespace Go.Proofs.YtkbfcmkocgkdjaaGreatDoor
open Go Go.RowKit
attribute [local go_sem] cell_set_if

theorem cntGe_map (l at_ : List Int) (v : Int) : cntGe (l.map (numAt at_)) v = l.countP fun x => decide (v ≤ numAt at_ x) := by
  unfold cntGe; rw [List.countP_map]; rfl
theorem bestK_no (H : List Int) (k : Nat) (h : ¬ (most H (H.getD k 0) ∧ ((bestK H k).2 = false ∨ (bestK H k).1 < H.getD k 0))) : bestK H (k + 1) = bestK H k := by
  simp only [bestK]; rw [if_neg h]
theorem bestK_yes (H : List Int) (k : Nat) (h : most H (H.getD k 0) ∧ ((bestK H k).2 = false ∨ (bestK H k).1 < H.getD k 0)) : bestK H (k + 1) = (H.getD k 0, true) := by
  simp only [bestK]; rw [if_pos h]
set_option maxRecDepth 100000 in
set_option maxHeartbeats 4000000 in
theorem rindex_any (A B : Option Addr) (n c m d : Nat) (l at_ : List Int) (w : World) (hr : Rd w A (flatZ l)) (hn : l.length = n) (hb : Rd w B (flatZ at_)) (hm : at_.length = m) (h1 : n ≤ 1000) (h2 : m ≤ 1000) :
    Calls Tryz.prog 22 #[.slice A n c, .slice B m d] w fun e w' => e = .returned (.int .i64 (idxV l at_)) ∧ Qt w w' := by
  have HR := Lib.hid hr
  have HB := Lib.hid hb
  have HN := Lib.hid hn
  have HM := Lib.hid hm
  have hni : (n : Int) ≤ 1000 := by omega
  have hc := rright_any A n c l w hr hn (by omega)
  obtain ⟨ok, hok⟩ : ∃ ok, ok = rightV l := ⟨_, rfl⟩
  rw [← hok] at hc
  have HC := Lib.hid hc
  have HOK := Lib.hid hok
  clear hr hb hn hm hc hok
  cases ok
  · have HF : Hid (idxV l at_ = 0) := by unfold Hid idxV; rw [← HOK.out]; rfl
    go_enter Tryz.func22, Tryz.ntmps22
    go_wp2_with (go_at_call 29; refine HC.out.mono ?_; rintro e w1 ⟨rfl, q1⟩)
    go_ret
    exact ⟨by (rw [HF.out]) <;> rfl, q1⟩
  obtain ⟨H, hH⟩ : ∃ H, H = l.map (numAt at_) := ⟨_, rfl⟩
  have HL : Hid (H.length = n) := by unfold Hid; rw [hH, List.length_map, HN.out]
  have HHH := Lib.hid hH
  have hpos : 0 < n := by have := rightV_pos HOK.out.symm; have := HN.out; omega
  have HF : Hid (idxV l at_ = (bestK H n).1) := by
    have h := best_mid (H := H) (by rw [HL.out]; exact hpos)
    rw [HL.out] at h
    unfold Hid idxV; rw [← HOK.out, if_pos rfl, h, hH]
  clear hH
  go_enter Tryz.func22, Tryz.ntmps22
  go_wp2_with (go_at_call 29; refine HC.out.mono ?_; rintro e w1 ⟨rfl, q1⟩)
  go_loopw [5, 6, 7, 8, 9, 10] (fun u5 u6 u7 u8 u9 u10 wr => ∃ (k : Nat) (bv : Int) (bh : Bool), k ≤ n ∧ u7 = .int .i64 k ∧ u5 = .int .i64 bv ∧ u6 = .bool bh ∧ Hid (bestK H k = (bv, bh)) ∧ Qt w wr) (fun _ _ u7 _ _ _ _ => n - (intOf u7).toNat)
  case atStart => exact ⟨0, 0, false, by omega, rfl, rfl, rfl, rfl, q1⟩
  case round =>
    obtain ⟨k, bv, bh, hk, rfl, rfl, rfl, HBK, hQ⟩ := hrel
    have RR : Rd wr A (flatZ l) := by obtain ⟨m, rfl⟩ := hQ; exact HR.out.drewN m
    have RB : Rd wr B (flatZ at_) := by obtain ⟨m, rfl⟩ := hQ; exact HB.out.drewN m
    by_cases hlt : k < n
    · obtain ⟨b1, o1, x, rfl, _, hx, d0⟩ := RR.num (k := k) (by have := HN.out; omega)
      have hki : (k : Int) < (n : Int) := by omega
      obtain ⟨v, hv⟩ : ∃ v, v = numAt at_ x := ⟨_, rfl⟩
      have hct := number_any B m d at_ x wr RB HM.out (by omega)
      rw [← hv] at hct
      have HCT := Lib.hid hct
      have HGD : Hid (H.getD k 0 = v) := by
        unfold Hid
        rw [HHH.out, List.getD_eq_getElem?_getD, List.getElem?_map, hx, hv]; rfl
      clear hct hx hv
      go_wp2_with (go_at_call 41; refine HCT.out.mono ?_; rintro e w2 ⟨rfl, hw2⟩; subst hw2)
      clear HCT
      go_loopw [9, 10] (fun u9 u10 wx => ∃ j z : Nat, j ≤ n ∧ u10 = .int .i64 j ∧ u9 = .int .i64 z ∧ z ≤ j ∧ Hid ((l.take j).countP (fun x => decide (v ≤ numAt at_ x)) = z) ∧ Qt w wx) (fun _ u10 _ => n - (intOf u10).toNat)
      case atStart => exact ⟨0, 0, by omega, rfl, rfl, Nat.le_refl _, rfl, hQ⟩
      case round =>
        clear hQ RR RB d0
        obtain ⟨j, z, hj, rfl, rfl, hzj, HZ, hQ2⟩ := hrel
        have RR2 : Rd wr (some ⟨b1, o1, none⟩) (flatZ l) := by obtain ⟨m, rfl⟩ := hQ2; exact HR.out.drewN m
        have RB2 : Rd wr B (flatZ at_) := by obtain ⟨m, rfl⟩ := hQ2; exact HB.out.drewN m
        by_cases hlt2 : j < n
        · obtain ⟨b2, o2, y, e2, _, hy, d1⟩ := RR2.num (k := j) (by have := HN.out; omega)
          injection e2 with e2
          injection e2 with e21 e22
          subst e21 e22
          have hji : (j : Int) < (n : Int) := by omega
          have hct := number_any B m d at_ y wr RB2 HM.out (by omega)
          have hst := cntP_take (fun x => decide (v ≤ numAt at_ x)) l j y hy
          rw [HZ.out] at hst
          obtain ⟨t, ht⟩ : ∃ t, t = numAt at_ y := ⟨_, rfl⟩
          simp only [← ht] at hst
          rw [← ht] at hct
          have HCT := Lib.hid hct
          have HST := Lib.hid hst
          clear hct hst ht hy RR2 RB2
          by_cases hvt : v ≤ t
          · have HS2 : Hid ((l.take (j + 1)).countP (fun x => decide (v ≤ numAt at_ x)) = z + 1) := by unfold Hid; rw [HST.out, decide_eq_true hvt]; rfl
            clear HST
            go_wp2_with (go_at_call 41; refine HCT.out.mono ?_; rintro e w2 ⟨rfl, hw2⟩; subst hw2)
            go_roundw
            case rel => exact ⟨j + 1, z + 1, by omega, by go_num, by go_num, by omega, HS2.out, hQ2⟩
            case measure => simp [intOf]; omega
          · have HS2 : Hid ((l.take (j + 1)).countP (fun x => decide (v ≤ numAt at_ x)) = z) := by unfold Hid; rw [HST.out, decide_eq_false hvt]; rfl
            have hvt' : t < v := by omega
            clear HST hvt
            go_wp2_with (go_at_call 41; refine HCT.out.mono ?_; rintro e w2 ⟨rfl, hw2⟩; subst hw2)
            go_roundw
            case rel => exact ⟨j + 1, z, by omega, by go_num, rfl, by omega, HS2.out, hQ2⟩
            case measure => simp [intOf]; omega
        · obtain rfl : n = j := by omega
          have HMO : Hid (most H v ↔ n < 2 * z) := by
            unfold Hid most
            have hz := HZ.out
            rw [List.take_of_length_le (by have := HN.out; omega)] at hz
            rw [HL.out, HHH.out, cntGe_map, hz]
          clear RR2 RB2 hlt2
          by_cases hmo : n < 2 * z
          · have hmi : (n : Int) < 2 * (z : Int) := by omega
            cases bh
            · have HNX : Hid (bestK H (k + 1) = (v, true)) := by unfold Hid; rw [bestK_yes H k ⟨by rw [HGD.out]; exact HMO.out.2 hmo, .inl (by rw [HBK.out])⟩, HGD.out]
              go_wp2
              go_roundw
              case rel => exact ⟨k + 1, v, true, by omega, by go_num, rfl, rfl, HNX.out, hQ2⟩
              case measure => simp [intOf]; omega
            · by_cases hbv : bv < v
              · have HNX : Hid (bestK H (k + 1) = (v, true)) := by unfold Hid; rw [bestK_yes H k ⟨by rw [HGD.out]; exact HMO.out.2 hmo, .inr (by rw [HBK.out, HGD.out]; exact hbv)⟩, HGD.out]
                go_wp2
                go_roundw
                case rel => exact ⟨k + 1, v, true, by omega, by go_num, rfl, rfl, HNX.out, hQ2⟩
                case measure => simp [intOf]; omega
              · have HNX : Hid (bestK H (k + 1) = (bv, true)) := by
                  unfold Hid
                  rw [bestK_no H k (by
                    rintro ⟨_, h⟩
                    rw [HBK.out, HGD.out] at h
                    rcases h with h | h
                    · cases h
                    · exact hbv h), HBK.out]
                have hbv' : v ≤ bv := by omega
                clear hbv
                go_wp2
                go_roundw
                case rel => exact ⟨k + 1, bv, true, by omega, by go_num, rfl, rfl, HNX.out, hQ2⟩
                case measure => simp [intOf]; omega
          · have hmi : 2 * (z : Int) ≤ (n : Int) := by omega
            have HNX : Hid (bestK H (k + 1) = (bv, bh)) := by
              unfold Hid
              rw [bestK_no H k (fun h => hmo (HMO.out.1 (by rw [← HGD.out]; exact h.1))), HBK.out]
            go_wp2
            go_roundw
            case rel => exact ⟨k + 1, bv, bh, by omega, by go_num, rfl, rfl, HNX.out, hQ2⟩
            case measure => simp [intOf]; omega
    · obtain rfl : n = k := by omega
      have HR2 : Hid (idxV l at_ = bv) := by unfold Hid; rw [HF.out, HBK.out]
      go_wp2
      go_ret
      exact ⟨by (rw [HR2.out]) <;> rfl, hQ⟩
end Go.Proofs.YtkbfcmkocgkdjaaGreatDoor
