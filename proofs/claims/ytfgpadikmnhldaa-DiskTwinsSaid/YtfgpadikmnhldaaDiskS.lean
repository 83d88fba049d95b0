/-
  A disk's Cut. Conditions: it is a disk, each write's file is there; armed for a number; not too many writes.
-/
import Derived.Test.YtfgpadikmnhldaaDiskJ
namespace Go.Proofs.Ytfgpadikmnhldaa
open Go Go.RowKit
attribute [local go_sem] cell_set_if

set_option maxRecDepth 100000 in
set_option maxHeartbeats 4000000 in
theorem dcut_any {base : Nat} {d : Ds} {m : DM} (s : ByteArray) (n : Int) (w : World) (h : DiskAt w base d m) (hf : d.fine) :
    Calls Try.prog 22 #[.pointer (some ⟨m.g, 0, none⟩), .string s, .int .i64 n] w fun e w' => e = .returned (.int .i64 (cutD d s n).1) ∧ DidD w base d m (cutD d s n).2 w' := by
  have hfl := dfile_any s w h
  have H := Lib.hid h
  rcases file_cases d m s with ⟨e0, hne, hfd, hfv⟩ | ⟨f, hfi, hfd, hfv, hmay⟩
  · have HV : Hid (cutD d s n = (e0, d)) := by unfold Hid cutD; rw [hfd]
    rw [hfv] at hfl
    have HFL := Lib.hid hfl
    have hne' : (e0 != 0) = true := by simpa using hne
    clear hfl hfv hfd h
    go_enter Try.func22, Try.ntmps22
    go_wp2_with (go_at_call 38; refine HFL.out.mono ?_; rintro e w1 ⟨rfl, b1⟩)
    go_ret
    exact ⟨by (rw [HV.out]) <;> rfl, by rw [HV.out]; exact (DidD.refl H.out).step b1⟩
  · rw [hfv] at hfl
    have HFL := Lib.hid hfl
    have hmem := Ds.find_mem hfi
    have hF := h.fs _ hmem
    obtain ⟨A, c, hv, hc⟩ := own_form hF.ol
    obtain ⟨As, cs, hvs, hcs⟩ := own_form hF.os
    obtain ⟨L, hL⟩ : ∃ L, f.now.length = L := ⟨_, rfl⟩
    obtain ⟨Ls, hLs⟩ : ∃ Ls, f.safe.length = Ls := ⟨_, rfl⟩
    simp only at hv hc hvs hcs
    rw [hL] at hv hc
    rw [hLs] at hvs hcs
    have hL4 : L ≤ 4001 := by rw [← hL]; exact (h.ok.now _ hmem).1
    have hLs4 : Ls ≤ 4001 := by rw [← hLs]; exact (h.ok.safe _ hmem).1
    have k0 : w.cell? ⟨m.ρ f.id, 0, none⟩ = some (.slice A L c) := by rw [← hv]; exact hF.blk.cell 0
    have HL := Lib.hid hL
    have HLS := Lib.hid hLs
    have HVL := Lib.hid hv
    have HVS := Lib.hid hvs
    have hcd : cutD d s n = if n < 0 ∨ (f.now.length : Int) < n then (15, d) else if (goesD d).1 then fallD (goesD d).2 else (0, forgetD { (goesD d).2 with fs := updF (goesD d).2.fs f.id (shutF n.toNat) } f.id n) := by unfold cutD; rw [hfd]
    rw [hL] at hcd
    by_cases hlo : n < 0
    · rw [if_pos (.inl hlo)] at hcd
      have HV := Lib.hid hcd
      clear h hf hmem hF hv hvs hL hLs hfl hfv hfd hfi hmay hcd
      go_enter Try.func22, Try.ntmps22
      go_wp2_with (go_at_call 38; refine HFL.out.mono ?_; rintro e w1 ⟨rfl, b1⟩; have k1 := cell_b b1 k0)
      go_ret
      exact ⟨by (rw [HV.out]) <;> rfl, by rw [HV.out]; exact (DidD.refl H.out).step b1⟩
    · by_cases hhi : (L : Int) < n
      · rw [if_pos (.inr hhi)] at hcd
        have HV := Lib.hid hcd
        have hlo' : 0 ≤ n := by omega
        clear h hf hmem hF hv hvs hL hLs hfl hfv hfd hfi hmay hcd hlo
        go_enter Try.func22, Try.ntmps22
        go_wp2_with (go_at_call 38; refine HFL.out.mono ?_; rintro e w1 ⟨rfl, b1⟩; have k1 := cell_b b1 k0)
        go_ret
        exact ⟨by (rw [HV.out]) <;> rfl, by rw [HV.out]; exact (DidD.refl H.out).step b1⟩
      · rw [if_neg (by omega)] at hcd
        obtain ⟨j, rfl⟩ : ∃ j : Nat, n = j := ⟨n.toNat, by omega⟩
        rw [Int.toNat_natCast] at hcd
        have hjL : (j : Int) ≤ (L : Int) := by omega
        have hj0 : 0 ≤ (j : Int) := by omega
        have hlive1 := live_goes hf.live
        have HL1 := Lib.hid hlive1
        have HRD := Lib.hid hf.rd
        have hw1 : (goesD d).2.ws.length ≤ 1000000 := by rw [goes_ws]; have := hf.ws; omega
        have hk1 : (goesD d).2.keep.length ≤ 1000000 := by rw [goes_keep]; have := hf.keep; omega
        have HW1 := Lib.hid (And.intro hw1 hk1)
        have hgf : (goesD d).2.fs = d.fs := goes_fs d
        cases hgo : (goesD d).1
        · rw [hgo] at hcd
          simp only [Bool.false_eq_true, if_false] at hcd
          obtain ⟨d1, hd1⟩ : ∃ d1, d1 = (goesD d).2 := ⟨_, rfl⟩
          rw [← hd1] at hcd HL1 HW1 hgf
          have HV := Lib.hid hcd
          have HGO : Hid (∀ w, DiskAt w base d m → Calls Try.prog 34 #[.pointer (some ⟨m.g, 0, none⟩)] w fun e w' => e = .returned (.bool false) ∧ DiskAt w' base d1 m ∧ Turn (mineD d m) w (mineD d1 m) w') := fun w h => by
            have := dgoes_any w h HRD.out
            rw [hgo, ← hd1] at this; exact this
          have HM1 : Hid ((s, f) ∈ d1.fs) := by unfold Hid; rw [hgf]; exact hmem
          obtain ⟨k, hk⟩ : ∃ k, k = min j Ls := ⟨_, rfl⟩
          have hmin : min (j : Int) (Ls : Int) = (k : Int) := by omega
          have hk0 : 0 ≤ (k : Int) := by omega
          have hkL : (k : Int) ≤ (cs : Int) := by omega
          have hjc : (j : Int) ≤ (c : Int) := by omega
          have hjl : (f.now.take j).length = j := by rw [List.length_take, hL]; omega
          have hkl : (f.safe.take j).length = k := by rw [List.length_take, hLs]; exact hk.symm
          have htk : f.safe.take k = f.safe.take j := by rw [hk, ← hLs, List.take_eq_take_iff]; omega
          have HJK := Lib.hid (And.intro hjl hkl)
          have HTK := Lib.hid htk
          have HK4 : Hid (j ≤ 4001 ∧ k ≤ 4001) := ⟨by omega, by omega⟩
          have hfact : ∀ (w2 w5 w6 : World) (B5 B6 : Option Addr) (d5 d6 : Nat), DiskAt w2 base d1 m → Below w2.heap.size w2 w5 → w5.ownsRow w2.heap.size 9 1 (.slice B5 j d5) j (strs (f.now.take j)) → Below w5.heap.size w5 w6 → w6.ownsRow w5.heap.size 9 1 (.slice B6 k d6) k (strs (f.safe.take j)) →
              DiskAt ((w6.setCell ⟨m.ρ f.id, 0, none⟩ (.slice B5 j d5)).setCell ⟨m.ρ f.id, 1, none⟩ (.slice B6 k d6)) base { d1 with fs := updF d1.fs f.id (shutF j) } { m with R := setR m.R f.id (.slice B5 j d5) (.slice B6 k d6) } ∧
              Turn (mineD d1 m) w2 (mineD { d1 with fs := updF d1.fs f.id (shutF j) } { m with R := setR m.R f.id (.slice B5 j d5) (.slice B6 k d6) }) ((w6.setCell ⟨m.ρ f.id, 0, none⟩ (.slice B5 j d5)).setCell ⟨m.ρ f.id, 1, none⟩ (.slice B6 k d6)) := by
            intro w2 w5 w6 B5 B6 d5 d6 D2 b5 o5 b6 o6
            have F2 := D2.fs _ HM1.out
            have hlow := F2.lo
            have hblt := F2.blk.lt
            have s5 := b5.size
            simp only at hlow hblt
            have FY : Frm (at1 (m.ρ f.id)) w6 ((w6.setCell ⟨m.ρ f.id, 0, none⟩ (.slice B5 j d5)).setCell ⟨m.ρ f.id, 1, none⟩ (.slice B6 k d6)) := ((Frm.refl (at1 (m.ρ f.id)) _).setCell (p := ⟨m.ρ f.id, 0, none⟩) (fun _ => rfl) _).setCell (p := ⟨m.ρ f.id, 1, none⟩) (fun _ => rfl) _
            have FX : Frm (at1 (m.ρ f.id)) w2 ((w6.setCell ⟨m.ρ f.id, 0, none⟩ (.slice B5 j d5)).setCell ⟨m.ρ f.id, 1, none⟩ (.slice B6 k d6)) := ((Frm.of_below (S := at1 (m.ρ f.id)) b5).step b6).then_ FY
            have B7 := (((F2.blk.below b5).below b6).set_ 0 (.slice B5 j d5)).set_ 1 (.slice B6 k d6)
            have o5' := own_frm o5 (S := no) (Frm.of_below b6) (fun _ _ h => h)
            have hF6 : FileAt ((w6.setCell ⟨m.ρ f.id, 0, none⟩ (.slice B5 j d5)).setCell ⟨m.ρ f.id, 1, none⟩ (.slice B6 k d6)) base (m.ρ f.id) (shutF j f) (.slice B5 j d5) (.slice B6 k d6) := by
              refine ⟨by show Blk _ _ _ #[.slice B5 j d5, .slice B6 k d6, .bool f.known]; simpa using B7, F2.lo, ?_, ?_⟩
              · show World.ownsRow _ _ _ _ _ (f.now.take j).length (strs (f.now.take j))
                rw [HJK.out.1]
                refine own_frm (own_base o5' (by omega)) FY (fun q hq e => ?_)
                have h1 := (o5.lt q hq).1
                have h3 : q = m.ρ f.id := e
                omega
              · show World.ownsRow _ _ _ _ _ (f.safe.take j).length (strs (f.safe.take j))
                rw [HJK.out.2]
                refine own_frm (own_base o6 (by omega)) FY (fun q hq e => ?_)
                have h1 := (o6.lt q hq).1
                have h3 : q = m.ρ f.id := e
                omega
            have hok6 : ({ d1 with fs := updF d1.fs f.id (shutF j) } : Ds).ok := D2.ok.upd f.id (shutF j) (fun _ => rfl)
              (fun p hp _ => ⟨Nat.le_trans (by show (p.2.now.take j).length ≤ _; rw [List.length_take]; exact Nat.min_le_right _ _) (D2.ok.now p hp).1, fun s hs => (D2.ok.now p hp).2 s (List.mem_of_mem_take hs)⟩)
              (fun p hp _ => ⟨Nat.le_trans (by show (p.2.safe.take j).length ≤ _; rw [List.length_take]; exact Nat.min_le_right _ _) (D2.ok.safe p hp).1, fun s hs => (D2.ok.safe p hp).2 s (List.mem_of_mem_take hs)⟩)
            have ht := D2.turn HM1.out (shutF j) (fun _ => rfl) hok6 (FX.mono fun q _ hq => .inl hq) hF6 (fun q hq => .inr (o5.lt q hq).1) (fun q hq => .inr (by have := (o6.lt q hq).1; omega)) (fun q hq hq2 => by
              have h1 := (o5.lt q hq).2
              have h2 := (o6.lt q hq2).1
              omega)
            exact ⟨ht.1, ht.2.files rfl rfl rfl rfl⟩
          have HFA := Lib.hid hfact
          clear hfact hF hv hvs hL hLs h hf hmem hlive1 hw1 hk1 hgf hgo hd1 hfl hfv hfd hfi hmay hcd hk hjl hkl htk hlo hhi
          go_enter Try.func22, Try.ntmps22
          go_upto_region 8 with (first
            | (go_at_call 38; refine HFL.out.mono ?_; rintro e w1 ⟨rfl, b1⟩; have H1 := H.out.below b1; have k1 := cell_b b1 k0)
            | (go_at_call 34; refine (HGO.out _ H1).mono ?_; rintro e w2 ⟨rfl, D2, T2⟩))
          have HT2 := Lib.hid T2
          have HD2 := Lib.hid D2
          have DV := D2.below (Below.refl _ _).drew
          have TV := T2.step (Below.refl _ _).drew
          clear D2 T2
          have FV := DV.fs _ HM1.out
          have u0 : w2.cell? ⟨m.ρ f.id, 0, none⟩ = some (.slice A L c) := by rw [← HVL.out]; exact FV.blk.cell 0
          have u1 : w2.cell? ⟨m.ρ f.id, 1, none⟩ = some (.slice As Ls cs) := by rw [← HVS.out]; exact FV.blk.cell 1
          have v0 : w2.drew.cell? ⟨m.ρ f.id, 0, none⟩ = some (.slice A L c) := by rw [← HVL.out]; exact FV.blk.cell 0
          have v1 : w2.drew.cell? ⟨m.ρ f.id, 1, none⟩ = some (.slice As Ls cs) := by rw [← HVS.out]; exact FV.blk.cell 1
          have hr1 : Rd w2.drew A (strs (f.now.take j)) := by
            have := FV.ol; simp only at this; rw [HVL.out, HL.out] at this
            rw [← strs_take]; exact (Rd.of_own this).take j
          have hr2 : Rd w2.drew As (strs (f.safe.take j)) := by
            have := FV.os; simp only at this; rw [HVS.out, HLS.out] at this
            rw [← strs_take]; exact (Rd.of_own this).take j
          have HC1 := Lib.hid (cloneS_any w2.drew A j c (f.now.take j) hr1 HJK.out.1 (by have := HK4.out.1; omega))
          have HDV := Lib.hid DV
          have HTV := Lib.hid TV
          have HR2 := Lib.hid hr2
          have HBV := Lib.hid FV.blk
          clear hr1 hr2 DV TV FV
          go_region_law (first
            | ((try go_simp); go_at_call 26; with_reducible refine HC1.out.mono ?_; rintro e w5 ⟨⟨B5, d5, rfl, o5⟩, b5⟩
               have y0 : w5.cell? ⟨m.ρ f.id, 0, none⟩ = some (.slice A L c) := cell_b b5 v0
               have y1 : w5.cell? ⟨m.ρ f.id, 1, none⟩ = some (.slice As Ls cs) := cell_b b5 v1
               have HC2 := Lib.hid (cloneS_any w5 As k cs (f.safe.take j) (HR2.out.below b5) HJK.out.2 (by have := HK4.out.2; omega)))
            | ((try go_simp); go_at_call 26; with_reducible refine HC2.out.mono ?_; rintro e w6 ⟨⟨B6, d6, rfl, o6⟩, b6⟩
               have z0 := ((HBV.out.below b5).below b6).cell 0
               have z1 := ((HBV.out.below b5).below b6).cell 1
               have f0 := ((HBV.out.below b5).below b6).free 0
               have f1 := ((HBV.out.below b5).below b6).free 1))
          all_goals
            have HX5 := HFA.out w2.drew w5 w6 B5 B6 d5 d6 HDV.out b5 o5 b6 o6
            have HX := Lib.hid HX5
            clear HX5
            go_wp2_with (go_at_call 39; refine (dforget_any _ HX.out.1 (live_upd HL1.out f.id (shutF j) (fun _ => rfl)) (s := s) (f := shutF j f) (by have := updF_in (id := f.id) (g := shutF j) HM1.out; rwa [if_pos rfl] at this) HW1.out.1 j).mono ?_; rintro e w7 ⟨rfl, vw7, D7, T7⟩)
            go_ret
            exact ⟨by (rw [HV.out]) <;> rfl, by
              rw [HV.out]
              exact ⟨{ m with R := setR m.R f.id (.slice B5 j d5) (.slice B6 k d6), vw := vw7 }, rfl, D7, (((Turn.refl _ _).step b1).trans HTV.out).trans (HX.out.2.trans T7)⟩⟩
        · rw [hgo] at hcd
          simp only [if_true] at hcd
          have HV := Lib.hid hcd
          have HGO : Hid (∀ w, DiskAt w base d m → Calls Try.prog 34 #[.pointer (some ⟨m.g, 0, none⟩)] w fun e w' => e = .returned (.bool true) ∧ DiskAt w' base (goesD d).2 m ∧ Turn (mineD d m) w (mineD (goesD d).2 m) w') := fun w h => by
            have := dgoes_any w h HRD.out
            rw [hgo] at this; exact this
          clear h hf hmem hF hv hvs hL hLs hlive1 hw1 hk1 hgf hgo hfl hfv hfd hfi hmay hcd hlo hhi
          go_enter Try.func22, Try.ntmps22
          go_wp2_with (first
            | (go_at_call 38; refine HFL.out.mono ?_; rintro e w1 ⟨rfl, b1⟩; have H1 := H.out.below b1; have k1 := cell_b b1 k0)
            | (go_at_call 34; refine (HGO.out _ H1).mono ?_; rintro e w2 ⟨rfl, D2, T2⟩)
            | (go_at_call 36; refine (dfall_any _ D2 HL1.out HW1.out.1 HW1.out.2).mono ?_; rintro e w3 ⟨rfl, D3⟩))
          go_ret
          exact ⟨by (rw [HV.out]) <;> rfl, by rw [HV.out]; exact DidD.first b1 (DidD.trans rfl T2 D3)⟩
end Go.Proofs.Ytfgpadikmnhldaa
