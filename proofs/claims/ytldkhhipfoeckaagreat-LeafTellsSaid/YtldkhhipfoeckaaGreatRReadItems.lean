/-
  What the document's ReadItems gives: the same as the program's own. Condition: no more than a million bytes.
-/
import Derived.Test.YtldkhhipfoeckaaGreatRefItems
namespace Go.Proofs.YtldkhhipfoeckaaGreat
open Go Go.RowKit
attribute [local go_sem] cell_set_if

theorem new_refS (b : ByteArray) (w : World) : RefS (w.alloc (.cells #[.string b, .int .i64 0] 92)) w.heap.size (bts b, 0) := by
  have := Blk.new w 92 #[.string b, .int .i64 0]
  unfold RefS
  rw [show str (bts b) = .string b from by rw [show str (bts b) = .string (bs (bts b)) from rfl, bs_bts]]
  exact this
set_option maxRecDepth 100000 in
set_option maxHeartbeats 2000000 in
theorem rreadI_any (b : ByteArray) (w : World) (hb : b.size ≤ 1000000) :
    Calls Tryz.prog 12 #[.string b] w fun e w' => ReadI w.heap.size e w' (readS b) ∧ Below w.heap.size w w' := by
  obtain ⟨i0, hi0, hz0, hz1, hz2⟩ := info_parts iteminfo
  obtain ⟨m, hm, hme⟩ := getNum_small 1 (bts b, 0) (by omega)
  have hm' : (m : Int) < 256 := by omega
  have hBy : ∀ g w, RefS w g (bts b, 0) → Calls Tryz.prog 51 #[ptr g, .int .i64 1] w fun e w' => e = .returned (.int .i64 m) ∧ RefS w' g (getNum 1 (bts b, 0)).2 ∧ Frm (at1 g) w w' := fun g w h => by
    have := rnum_s g 1 (bts b, 0) w h (by omega)
    rwa [hme] at this
  have hRR : readS b = if itemsE b ≠ 0 then ([], itemsE b) else if layS (itemsOf b) = (b, 0) then (itemsOf b, 0) else ([], 6) := rfl
  have hkE : itemsE b = (endG (getIs (getNum 1 (bts b, 0)).2 m).2).2 := by unfold itemsE; rw [hme]; rfl
  have hkO : itemsOf b = (getIs (getNum 1 (bts b, 0)).2 m).1 := by unfold itemsOf; rw [hme]; rfl
  have G0 := new_refS b w
  generalize (getNum 1 (bts b, 0)).2 = s1 at *
  generalize itemsE b = E at *
  generalize itemsOf b = ks at *
  generalize readS b = rr at *
  have HRR := Lib.hid hRR
  have HkE := Lib.hid hkE
  have HkO := Lib.hid hkO
  have HBy := Lib.hid hBy
  have B0 : Below w.heap.size w (w.alloc (.cells #[.string b, .int .i64 0] 92)) := (Below.refl _ _).alloc (Nat.le_refl _) _
  clear hRR hkE hkO hBy hme
  go_enter Tryz.func12, Tryz.ntmps12
  go_wp2_with (go_at_call 51; refine (HBy.out _ _ G0).mono ?_; rintro e w2 ⟨rfl, G2, f2⟩; have B2 := below_frm B0 f2 (Nat.le_refl _) (fun i hi => by unfold at1 at hi; omega))
  go_loopw [6, 7] (fun u6 u7 wr => ∃ k : Nat, k ≤ m ∧ u7 = .int .i64 k ∧ wr.ownsRow w.heap.size 50 3 u6 k (flatI (getIs s1 k).1) ∧ RefS wr w.heap.size (getIs s1 k).2 ∧ Below w.heap.size w wr) (fun _ u7 _ => m - (intOf u7).toNat)
  case atStart => exact ⟨0, by omega, rfl, World.ownsRow_nil _ _ _ _, G2, B2⟩
  case round =>
    obtain ⟨k, hk, rfl, hO, hG, hB⟩ := hrel
    have c1 := hG.cell1
    by_cases hgo : k < m ∧ (getIs s1 k).2.2 = 0
    · obtain ⟨hlt, herr⟩ := hgo
      rw [herr] at c1
      have hst : getIs s1 (k + 1) = ((getIs s1 k).1 ++ [(getI (getIs s1 k).2).1], (getI (getIs s1 k).2).2) := rfl
      have hkl := getIs_len s1 k
      generalize getIs s1 k = r0 at hst hkl hO hG
      obtain ⟨xs, s⟩ := r0
      simp only at hst hkl hO hG
      have hHf : ∀ w g, RefS w g s → Calls Tryz.prog 51 #[ptr g, .int .i64 1] w fun e w' => e = .returned (.int .i64 (getNum 1 s).1) ∧ RefS w' g (getNum 1 s).2 ∧ Frm (at1 g) w w' := fun w g h => rnum_s g 1 s w h (by omega)
      have hTx : ∀ w g, RefS w g (getNum 1 s).2 → Calls Tryz.prog 52 #[ptr g] w fun e w' => e = .returned (.string (bs (getText (getNum 1 s).2).1)) ∧ RefS w' g (getText (getNum 1 s).2).2 ∧ Frm (at1 g) w w' := fun w g h => rtext_s g _ w h
      have hTv : ∀ w g, RefS w g (getText (getNum 1 s).2).2 → Calls Tryz.prog 52 #[ptr g] w fun e w' => e = .returned (.string (bs (getText (getText (getNum 1 s).2).2).1)) ∧ RefS w' g (getText (getText (getNum 1 s).2).2).2 ∧ Frm (at1 g) w w' := fun w g h => rtext_s g _ w h
      unfold getI at hst
      generalize bs (getText (getText (getNum 1 s).2).2).1 = T2 at hst hTv
      generalize (getText (getText (getNum 1 s).2).2).2 = s4 at hst hTv
      generalize bs (getText (getNum 1 s).2).1 = T at hst hTx
      generalize (getText (getNum 1 s).2).2 = s3 at hst hTx hTv
      generalize (getNum 1 s).2 = s2 at hst hTx hHf
      generalize (getNum 1 s).1 = p at hst hHf
      have hfl : flatI (xs ++ [⟨T, T2, p⟩]) = flatI xs ++ [.string T, .string T2, .int .i64 p] := by unfold flatI; rw [flat_snoc]; rfl
      have HTv := Lib.hid hTv
      clear hTv
      have HST := Lib.hid hst
      have HFL := Lib.hid hfl
      have HHf := Lib.hid hHf
      have HTx := Lib.hid hTx
      have hki : (k : Int) < (m : Int) := by omega
      clear hst hHf hTx hfl
      go_wp2_with (first
        | (go_at_call 51; refine (HHf.out _ _ hG).mono ?_; rintro e w3 ⟨rfl, G3, f3⟩
           have O3 := own_frm hO f3 (fun g hg h => by unfold at1 at h; subst h; exact Blk.own_ne hG hO (by decide) hg)
           have B3 := below_frm hB f3 (Nat.le_refl _) (fun i hi => by unfold at1 at hi; omega)
           have G4 : RefS (w3.alloc (.cells #[.string ⟨#[]⟩, .string ⟨#[]⟩, .int .i64 p] 50)) w.heap.size s2 := G3.below ((Below.refl _ _).alloc (Nat.le_refl _) _)
           have K4 := Blk.new w3 50 #[.string ⟨#[]⟩, .string ⟨#[]⟩, .int .i64 p]
           have O4 := O3.alloc (.cells #[.string ⟨#[]⟩, .string ⟨#[]⟩, .int .i64 p] 50)
           have B4 := B3.alloc B3.size (.cells #[.string ⟨#[]⟩, .string ⟨#[]⟩, .int .i64 p] 50)
           have hne := Blk.ne_ G4 K4 (by decide)
           have hlo3 := B3.size)
        | (go_at_call 52; refine (HTv.out _ _ G6).mono ?_; rintro e w7 ⟨rfl, G7, f7⟩
           have K7 := K6.frm f7 (fun h => by unfold at1 at h; exact hne h.symm)
           have O7 := own_frm O6 f7 (fun g hg h => by unfold at1 at h; subst h; exact Blk.own_ne G6 O6 (by decide) hg)
           have B7 := below_frm B6 f7 (Nat.le_refl _) (fun i hi => by unfold at1 at hi; omega)
           have K8 := K7.set_ 1 (.string T2)
           have O8 := own_frm O7 ((Frm.refl (at1 w3.heap.size) w7).setCell (p := ⟨w3.heap.size, 1, none⟩) (fun _ => rfl) (.string T2)) (fun g hg h => by unfold at1 at h; have := (O3.lt g hg).2; omega)
           have G8 : RefS (w7.setCell ⟨w3.heap.size, 1, none⟩ (.string T2)) w.heap.size s4 := Blk.far G7 hne _
           have B8 := B7.setCell (p := ⟨w3.heap.size, 1, none⟩) hlo3 (.string T2)
           have k70 := K7.cell 0
           have k71 := K7.cell 1
           have k72 := K7.cell 2
           have f71 := K7.free 1
           have k80 := K8.cell 0
           have k81 := K8.cell 1
           have k82 := K8.cell 2)
        | (go_at_call 52; refine (HTx.out _ _ G4).mono ?_; rintro e w5 ⟨rfl, G5, f5⟩
           have K5 := K4.frm f5 (fun h => by unfold at1 at h; exact hne h.symm)
           have O5 := own_frm O4 f5 (fun g hg h => by unfold at1 at h; subst h; exact Blk.own_ne G4 O4 (by decide) hg)
           have B5 := below_frm B4 f5 (Nat.le_refl _) (fun i hi => by unfold at1 at hi; omega)
           have K6 := K5.set_ 0 (.string T)
           have O6 := own_frm O5 ((Frm.refl (at1 w3.heap.size) w5).setCell (p := ⟨w3.heap.size, 0, none⟩) (fun _ => rfl) (.string T)) (fun g hg h => by unfold at1 at h; have := (O3.lt g hg).2; omega)
           have G6 : RefS (w5.setCell ⟨w3.heap.size, 0, none⟩ (.string T)) w.heap.size s3 := Blk.far G5 hne _
           have B6 := B5.setCell (p := ⟨w3.heap.size, 0, none⟩) hlo3 (.string T)
           have k50 := K5.cell 0
           have k51 := K5.cell 1
           have k52 := K5.cell 2
           have f50 := K5.free 0)
        | (at_builtin
           refine wpList_app rfl (.tmp 38) (.tmp 40) 22 rfl w.heap.size 50 i0 _ 3 40 Tryz.underlying22 hi0 hz0 hz1 hz2 rfl (by omega) u6 k _ rfl (O8.alloc _) _ 1 1 [.string T, .string T2, .int .i64 p] rfl (by simpa using Rd.new (w7.setCell ⟨w3.heap.size, 1, none⟩ (.string T2)) #[.string T, .string T2, .int .i64 p] 50) rfl (by simp [Value.oneCell']) (by unfold maxLen; omega) (by omega) (by have := B8.size; simp at this ⊢; omega) ?_
           intro v9 w9 hown9 hg9 hb9 hat9))
      go_roundw
      case rel =>
        refine ⟨k + 1, by omega, by go_num, ?_, ?_, (B8.alloc B8.size _).trans hb9⟩
        · rw [HST.out]; show w9.ownsRow _ _ _ _ _ (flatI (xs ++ [⟨T, T2, p⟩])); rw [HFL.out]; exact hown9
        · rw [HST.out]; exact Blk.grown (Blk.below G8 ((Below.refl _ _).alloc (Nat.le_refl _) _)) hg9 (Blk.own_ne G8 O8 (by decide))
      case measure => simp [intOf]; omega
    · have hE2 : (getIs s1 m).2 = (getIs s1 k).2 := by
        by_cases h : (getIs s1 k).2.2 = 0
        · have h2 : k = m := by
            rcases Nat.lt_or_ge k m with h3 | h3
            · exact absurd ⟨h3, h⟩ hgo
            · omega
          rw [h2]
        · exact getIs_err h hk
      have hE3 : E = (endG (getIs s1 k).2).2 := by rw [HkE.out, hE2]
      have hEnd : ∀ w g, RefS w g (getIs s1 k).2 → Calls Tryz.prog 53 #[ptr g] w fun e w' => e = .returned (.int .i64 E) ∧ RefS w' g (endG (getIs s1 k).2) ∧ Frm (at1 g) w w' := fun w g h => by
        rw [hE3]; exact rend_s g _ w h
      obtain ⟨A1, c1', rfl, hc1⟩ := own_form hO
      have HEnd := Lib.hid hEnd
      clear hEnd hE2
      by_cases hE : E = 0
      · subst hE
        have hx0 : (getIs s1 k).2.2 = 0 := endG_err _ hE3.symm
        obtain rfl : k = m := by
          rcases Nat.lt_or_ge k m with h3 | h3
          · exact absurd ⟨h3, hx0⟩ hgo
          · omega
        have hsum := getIs_sum s1 k
        have hkl := getIs_len s1 k
        rw [← HkO.out] at hO hsum hkl
        have hrr : rr = if layS ks = (b, 0) then (ks, 0) else ([], 6) := by rw [HRR.out]; simp
        have hLay := fun w h => rlayI_any A1 k c1' ks w h hkl (by omega) (by omega)
        generalize layS ks = l at hrr hLay
        obtain ⟨S, x⟩ := l
        simp only at hLay
        have HLay := Lib.hid hLay
        clear hLay hE3 hgo hx0
        by_cases hx : x = 0
        · subst hx
          by_cases hS : S = b
          · subst hS
            rw [if_pos rfl] at hrr
            have hq : (S.toList == S.toList) = true := by simp
            have HRr := Lib.hid hrr
            clear hrr
            go_wp2_with (first
              | (go_at_call 53; refine (HEnd.out _ _ hG).mono ?_; rintro e w3 ⟨rfl, G3, f3⟩
                 have O3 := own_frm hO f3 (fun g hg h => by unfold at1 at h; subst h; exact Blk.own_ne hG hO (by decide) hg)
                 have B3 := below_frm hB f3 (Nat.le_refl _) (fun i hi => by unfold at1 at hi; omega))
              | (go_at_call 10; refine (HLay.out _ (Rd.of_own O3)).mono ?_; rintro e w4 ⟨rfl, b4⟩
                 have O4 := own_frm O3 (Frm.of_below (S := no) b4) (fun _ _ h => h)
                 have B4 := below_of b4 B3 B3.size))
            go_ret2
            exact ⟨by rw [HRr.out]; exact ⟨A1, k, c1', hkl, rfl, O4⟩, B4⟩
          · rw [if_neg (fun h => hS (congrArg Prod.fst h))] at hrr
            have hq : (S.toList == b.toList) = false := by rw [str_beq]; simpa using fun h => hS (bts_inj h)
            have HRr := Lib.hid hrr
            clear hrr hS
            go_wp2_with (first
              | (go_at_call 53; refine (HEnd.out _ _ hG).mono ?_; rintro e w3 ⟨rfl, G3, f3⟩
                 have O3 := own_frm hO f3 (fun g hg h => by unfold at1 at h; subst h; exact Blk.own_ne hG hO (by decide) hg)
                 have B3 := below_frm hB f3 (Nat.le_refl _) (fun i hi => by unfold at1 at hi; omega))
              | (go_at_call 10; refine (HLay.out _ (Rd.of_own O3)).mono ?_; rintro e w4 ⟨rfl, b4⟩
                 have O4 := own_frm O3 (Frm.of_below (S := no) b4) (fun _ _ h => h)
                 have B4 := below_of b4 B3 B3.size))
            go_ret2
            exact ⟨by rw [HRr.out]; exact ⟨none, 0, 0, rfl, rfl, World.ownsRow_nil _ _ _ _⟩, B4⟩
        · rw [if_neg (fun h => hx (congrArg Prod.snd h))] at hrr
          have hq : (x != 0) = true := by simpa using hx
          have HRr := Lib.hid hrr
          clear hrr hx
          go_wp2_with (first
            | (go_at_call 53; refine (HEnd.out _ _ hG).mono ?_; rintro e w3 ⟨rfl, G3, f3⟩
               have O3 := own_frm hO f3 (fun g hg h => by unfold at1 at h; subst h; exact Blk.own_ne hG hO (by decide) hg)
               have B3 := below_frm hB f3 (Nat.le_refl _) (fun i hi => by unfold at1 at hi; omega))
            | (go_at_call 10; refine (HLay.out _ (Rd.of_own O3)).mono ?_; rintro e w4 ⟨rfl, b4⟩
               have O4 := own_frm O3 (Frm.of_below (S := no) b4) (fun _ _ h => h)
               have B4 := below_of b4 B3 B3.size))
          go_ret2
          exact ⟨by rw [HRr.out]; exact ⟨none, 0, 0, rfl, rfl, World.ownsRow_nil _ _ _ _⟩, B4⟩
      · have hrr : rr = ([], E) := by rw [HRR.out, if_pos hE]
        have hq : (E != 0) = true := by simpa using hE
        have HRr := Lib.hid hrr
        have HGO := Lib.hid hgo
        clear hrr hE hE3 hgo
        by_cases hlt : k < m
        · have hki : (k : Int) < (m : Int) := by omega
          have hne : ((getIs s1 k).2.2 == 0) = false := by
            have : ¬ (getIs s1 k).2.2 = 0 := fun h => HGO.out ⟨hlt, h⟩
            simpa using this
          generalize hsk : getIs s1 k = sk at *
          clear hsk
          go_wp2_with (first
            | (go_at_call 53; refine (HEnd.out _ _ hG).mono ?_; rintro e w3 ⟨rfl, G3, f3⟩
               have O3 := own_frm hO f3 (fun g hg h => by unfold at1 at h; subst h; exact Blk.own_ne hG hO (by decide) hg)
               have B3 := below_frm hB f3 (Nat.le_refl _) (fun i hi => by unfold at1 at hi; omega)))
          go_ret2
          exact ⟨by rw [HRr.out]; exact ⟨none, 0, 0, rfl, rfl, World.ownsRow_nil _ _ _ _⟩, B3⟩
        · have hki : (m : Int) ≤ (k : Int) := by omega
          go_wp2_with (first
            | (go_at_call 53; refine (HEnd.out _ _ hG).mono ?_; rintro e w3 ⟨rfl, G3, f3⟩
               have O3 := own_frm hO f3 (fun g hg h => by unfold at1 at h; subst h; exact Blk.own_ne hG hO (by decide) hg)
               have B3 := below_frm hB f3 (Nat.le_refl _) (fun i hi => by unfold at1 at hi; omega)))
          go_ret2
          exact ⟨by rw [HRr.out]; exact ⟨none, 0, 0, rfl, rfl, World.ownsRow_nil _ _ _ _⟩, B3⟩
end Go.Proofs.YtldkhhipfoeckaaGreat
