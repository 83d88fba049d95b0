/-
  A disk's Rename, walked. Conditions: it is a disk, each write's file is there; armed for a number; not too many writes.
-/
import Derived.Test.YtfgpadikmnhldaaDiskK
namespace Go.Proofs.Ytfgpadikmnhldaa
open Go Go.RowKit
attribute [local go_sem] cell_set_if

theorem mayN_two {d : Ds} {a b : ByteArray} (h : mayN d [a, b] = 0) : d.off = false ∧ nameOk a = true ∧ nameOk b = true := by
  unfold mayN at h
  cases ho : d.off
  · rw [ho] at h
    simp only [Bool.false_eq_true, if_false] at h
    by_cases hn : ([a, b].all nameOk) = true
    · simpa using hn
    · rw [if_neg hn] at h; omega
  · rw [ho] at h; simp at h
theorem nameOk_size {s : ByteArray} (h : nameOk s = true) : 1 ≤ s.size ∧ s.size ≤ 40 := by
  unfold nameOk at h
  rw [Bool.and_eq_true, decide_eq_true_eq, decide_eq_true_eq] at h; exact h
theorem renameD_may {d : Ds} {a b : ByteArray} (h : mayN d [a, b] ≠ 0) : renameD d a b = (mayN d [a, b], d) := by
  unfold renameD mayN at *
  cases ho : d.off
  · rw [ho] at h
    simp only [Bool.false_eq_true, if_false] at h ⊢
    by_cases hn : ([a, b].all nameOk) = true
    · rw [if_pos hn] at h; exact absurd rfl h
    · rw [if_neg hn, if_pos (by
        simp only [List.all_cons, List.all_nil, Bool.and_true, Bool.and_eq_true, not_and] at hn
        by_cases ha : nameOk a = true
        · exact .inr (by simpa using hn ha)
        · exact .inl (by simpa using ha))]
  · rfl
theorem renameD_ok {d : Ds} {a b : ByteArray} (h : mayN d [a, b] = 0) : renameD d a b = match d.find a with
    | none => (8, d)
    | some f => if (goesD d).1 then fallD (goesD d).2 else if a = b then (0, (goesD d).2) else (0, renD (goesD d).2 f b) := by
  obtain ⟨h1, h2, h3⟩ := mayN_two h
  unfold renameD
  rw [h1, h2, h3, if_neg (by decide), if_neg (by decide)]
  have hfd : (goesD d).2.find b = d.find b := by unfold Ds.find; rw [goes_fs]
  cases d.find a with
  | none => rfl
  | some f =>
    simp only
    split
    · rfl
    · split
      · rfl
      · unfold renD; rw [hfd]; rfl
set_option maxRecDepth 100000 in
set_option maxHeartbeats 4000000 in
theorem drename_any {base : Nat} {d : Ds} {m : DM} (a b : ByteArray) (w : World) (h : DiskAt w base d m) (hf : d.fine) :
    Calls Try.prog 23 #[.pointer (some ⟨m.g, 0, none⟩), .string a, .string b] w fun e w' => e = .returned (.int .i64 (renameD d a b).1) ∧ DidD w base d m (renameD d a b).2 w' := by
  have ba : Below w.heap.size w (w.alloc (.cells #[.string a, .string b] 9)) := (Below.refl _ _).alloc (Nat.le_refl _) _
  have h1 := h.below ba
  have R1 : Rd (w.alloc (.cells #[.string a, .string b] 9)) (some ⟨w.heap.size, 0, none⟩) (strs [a, b]) := Rd.new w #[.string a, .string b] 9
  obtain ⟨e0, he⟩ : ∃ e0, mayN d [a, b] = e0 := ⟨_, rfl⟩
  have HMAY0 := dmay_any (some ⟨w.heap.size, 0, none⟩) 2 2 [a, b] _ h1 R1 rfl (by omega)
  rw [he] at HMAY0
  have HMAY := Lib.hid HMAY0
  have HB := Lib.hid ba
  have H1 := Lib.hid h1
  have HM1 := Lib.hid h1.map
  have c0 : (w.alloc (.cells #[.string a, .string b] 9)).cell? ⟨m.g, 0, none⟩ = some (.map (some m.bm)) := h1.blk.cell 0
  clear HMAY0 R1 h1
  by_cases hz : e0 = 0
  · subst hz
    have hr := renameD_ok he
    have hsa := nameOk_size (mayN_two he).2.1
    have hsb := nameOk_size (mayN_two he).2.2
    have hsa1 : a.size ≤ maxLen := by unfold maxLen; omega
    have hsb1 : b.size ≤ maxLen := by unfold maxLen; omega
    have HSA := Lib.hid hsa1
    have HSB := Lib.hid hsb1
    have HSB2 := Lib.hid hsb
    cases hfi : d.find a with
    | none =>
      rw [hfi] at hr
      have HV := Lib.hid hr
      have HNO := Lib.hid (Ds.not_names (m := m) hfi)
      clear h hf he hr hfi ba hsa hsb hsa1 hsb1
      go_enter Try.func23, Try.ntmps23
      go_wp2_with (first
        | (go_at_call 32; refine HMAY.out.mono ?_; rintro e w1 ⟨rfl, hw⟩; subst hw)
        | (at_lookup; refine wpList_look_no rfl _ _ rfl rfl rfl HM1.out HSA.out HNO.out ?_))
      go_ret
      exact ⟨by (rw [HV.out]) <;> rfl, by rw [HV.out]; exact ⟨m, rfl, H1.out, (Turn.refl _ _).step HB.out⟩⟩
    | some f =>
      rw [hfi] at hr
      simp only at hr
      have HYES := Lib.hid (Ds.mem_names (m := m) hfi)
      have hmem := Ds.find_mem hfi
      have hlive1 := live_goes hf.live
      have HL1 := Lib.hid hlive1
      have HRD := Lib.hid hf.rd
      have hw1 : (goesD d).2.ws.length ≤ 1000000 := by rw [goes_ws]; have := hf.ws; omega
      have hk1 : (goesD d).2.keep.length ≤ 1000000 := by rw [goes_keep]; have := hf.keep; omega
      have HW1 := Lib.hid (And.intro hw1 hk1)
      have hgf : (goesD d).2.fs = d.fs := goes_fs d
      cases hgo : (goesD d).1
      · rw [hgo] at hr
        simp only [Bool.false_eq_true, if_false] at hr
        obtain ⟨d1, hd1⟩ : ∃ d1, d1 = (goesD d).2 := ⟨_, rfl⟩
        rw [← hd1] at hr HL1 HW1 hgf
        have HGO : Hid (∀ w, DiskAt w base d m → Calls Try.prog 34 #[.pointer (some ⟨m.g, 0, none⟩)] w fun e w' => e = .returned (.bool false) ∧ DiskAt w' base d1 m ∧ Turn (mineD d m) w (mineD d1 m) w') := fun w h => by
          have := dgoes_any w h HRD.out
          rw [hgo, ← hd1] at this; exact this
        have HMM : Hid ((a, f) ∈ d1.fs) := by unfold Hid; rw [hgf]; exact hmem
        by_cases hab : a = b
        · rw [if_pos hab] at hr
          have hbeq : (a.toList == b.toList) = true := by rw [hab]; simp
          have HV := Lib.hid hr
          clear h hf he hr hfi ba hsa hsb hsa1 hsb1 hmem hlive1 hw1 hk1 hgf hgo hd1 hab
          go_enter Try.func23, Try.ntmps23
          go_wp2_with (first
            | (go_at_call 32; refine HMAY.out.mono ?_; rintro e w1 ⟨rfl, hw⟩; subst hw)
            | (at_lookup; refine wpList_look_yes rfl _ _ rfl rfl rfl HM1.out HSA.out HYES.out ?_)
            | (go_at_call 34; refine (HGO.out _ H1.out).mono ?_; rintro e w2 ⟨rfl, D2, T2⟩))
          go_ret
          exact ⟨by (rw [HV.out]) <;> rfl, by rw [HV.out]; exact ⟨m, rfl, D2, ((Turn.refl _ _).step HB.out).trans T2⟩⟩
        · rw [if_neg hab] at hr
          have hbeq : (a.toList == b.toList) = false := by rw [str_beq, decide_eq_false_iff_not]; exact fun h => hab (bts_inj h)
          have HAB := Lib.hid hab
          cases hfb : d1.find b with
          | none =>
            have hrn : renD d1 f b = { d1 with fs := nameF d1.fs f.id b } := by unfold renD; rw [hfb]
            rw [hrn] at hr
            have HNB := Lib.hid (Ds.not_names (m := m) hfb)
            have HNN := Lib.hid (Ds.find_none hfb)
            have HV := Lib.hid hr
            skip
            clear h hf he hr hfi ba hsa hsa1 hsb1 hmem hlive1 hw1 hk1 hgf hgo hd1 hab hfb 
            go_enter Try.func23, Try.ntmps23
            go_upto_region 15 with (first
              | (go_at_call 32; refine HMAY.out.mono ?_; rintro e w1 ⟨rfl, hw⟩; subst hw)
              | (at_lookup; refine wpList_look_yes rfl _ _ rfl rfl rfl HM1.out HSA.out HYES.out ?_)
              | (go_at_call 34; refine (HGO.out _ H1.out).mono ?_; rintro e w2 ⟨rfl, D2, T2⟩
                 have c2 : w2.cell? ⟨m.g, 0, none⟩ = some (.map (some m.bm)) := D2.blk.cell 0
                 have HM2 := Lib.hid D2.map)
              | (at_lookup; refine wpList_look_no rfl _ _ rfl rfl rfl HM2.out HSB.out HNB.out ?_)
              | (at_delete; refine wpList_del rfl _ _ rfl rfl rfl HM2.out HSA.out ?_; intro w8 D8 hm8 hg8
                 have F8 : Frm (fun q => q = m.bm) w2 w8 := (Frm.refl _ _).grown hg8 fun k hk _ => by injection hk with hk; exact hk.symm
                 have c8 : w8.drew.cell? ⟨m.g, 0, none⟩ = some (.map (some m.bm)) := by (have := (D2.blk.frm F8 (fun e => D2.map.ne_ty D2.blk.ty e)).cell 0); exact this
                 have bd8 : Below w8.heap.size w8 w8.drew := (Below.refl _ _).drew
                 have HM8 := Lib.hid (hm8.below bd8)
                 have HL8 : Hid (((namesD d1 m).filter fun p => !decide (p.1 = a)).length < 1000) := by
                   have : d1.fs.length ≤ 60 := D2.ok.few
                   have h1 := List.length_filter_le (fun p : ByteArray × Nat => !decide (p.1 = a)) (namesD d1 m)
                   have h2 : (namesD d1 m).length = d1.fs.length := by unfold namesD; rw [List.length_map]
                   unfold Hid; omega))
            have HCL := Lib.hid (sclone_any b w8.drew (by omega))
            go_region_law (first
              | ((try go_simp); go_at_call 35; with_reducible refine HCL.out.mono ?_; rintro e w9 ⟨rfl, b9⟩
                 have c9 : w9.cell? ⟨m.g, 0, none⟩ = some (.map (some m.bm)) := cell_b b9 c8
                 obtain ⟨w10, D10, hrun10, hm10, hg10⟩ := (HM8.out.below b9).store_run HSB.out HL8.out (m.ρ f.id)))
            all_goals
              have FX : Frm (fun q => q = m.bm) w2 w10 := ((F8.step bd8).step b9).then_ ((Frm.refl (fun q => q = m.bm) _).grown hg10 fun k hk _ => by injection hk with hk; exact hk.symm)
              have HX := D2.renamed (d1 := d1) (fun p hp => hp) D2.ok rfl rfl rfl rfl rfl rfl HMM.out HNN.out HSB2.out (by
                refine List.filter_eq_self.2 fun p hp => ?_
                obtain ⟨q, hq, rfl⟩ := List.mem_map.1 (List.mem_filter.1 hp).1
                simpa using HNN.out q hq) hm10 FX
              go_wp2
              go_ret
              exact ⟨by (rw [HV.out]) <;> rfl, by
                rw [HV.out]
                exact ⟨{ m with D := D10 }, rfl, HX.1, (((Turn.refl _ _).step HB.out).trans T2).trans HX.2⟩⟩
          | some o =>
            have hrn : renD d1 f b = { dropD d1 o with fs := nameF (dropD d1 o).fs f.id b } := by unfold renD; rw [hfb]
            rw [hrn] at hr
            have HYB := Lib.hid (Ds.mem_names (m := m) hfb)
            have hmb := Ds.find_mem hfb
            have HMB := Lib.hid hmb
            have HV := Lib.hid hr
            skip
            clear h hf he hr hfi ba hsa hsa1 hsb1 hmem hlive1 hw1 hk1 hgf hgo hd1 hab hfb hrn hmb
            go_enter Try.func23, Try.ntmps23
            go_upto_region 15 with (first
              | (go_at_call 32; refine HMAY.out.mono ?_; rintro e w1 ⟨rfl, hw⟩; subst hw)
              | (at_lookup; refine wpList_look_yes rfl _ _ rfl rfl rfl HM1.out HSA.out HYES.out ?_)
              | (go_at_call 34; refine (HGO.out _ H1.out).mono ?_; rintro e w2 ⟨rfl, D2, T2⟩
                 have c2 : w2.cell? ⟨m.g, 0, none⟩ = some (.map (some m.bm)) := D2.blk.cell 0
                 have HM2 := Lib.hid D2.map)
              | (at_lookup; refine wpList_look_yes rfl _ _ rfl rfl rfl HM2.out HSB.out HYB.out ?_)
              | (go_at_call 39; refine (dforget_any _ D2 HL1.out HMB.out HW1.out.1 0).mono ?_; rintro e w7 ⟨rfl, vw7, D7, T7⟩
                 have c7 : w7.cell? ⟨m.g, 0, none⟩ = some (.map (some m.bm)) := D7.blk.cell 0
                 have HM7 := Lib.hid D7.map)
              | (at_delete; refine wpList_del rfl _ _ rfl rfl rfl HM7.out HSA.out ?_; intro w8 D8 hm8 hg8
                 have F8 : Frm (fun q => q = m.bm) w7 w8 := (Frm.refl _ _).grown hg8 fun k hk _ => by injection hk with hk; exact hk.symm
                 have c8 : w8.drew.cell? ⟨m.g, 0, none⟩ = some (.map (some m.bm)) := by (have := (D7.blk.frm F8 (fun e => D7.map.ne_ty D7.blk.ty e)).cell 0); exact this
                 have bd8 : Below w8.heap.size w8 w8.drew := (Below.refl _ _).drew
                 have HM8 := Lib.hid (hm8.below bd8)
                 have HL8 : Hid (((namesD d1 m).filter fun p => !decide (p.1 = a)).length < 1000) := by
                   have : d1.fs.length ≤ 60 := D7.ok.few
                   have h1 := List.length_filter_le (fun p : ByteArray × Nat => !decide (p.1 = a)) (namesD d1 m)
                   have h2 : (namesD d1 m).length = d1.fs.length := by unfold namesD; rw [List.length_map]
                   unfold Hid; omega))
            have HCL := Lib.hid (sclone_any b w8.drew (by omega))
            go_region_law (first
              | ((try go_simp); go_at_call 35; with_reducible refine HCL.out.mono ?_; rintro e w9 ⟨rfl, b9⟩
                 have c9 : w9.cell? ⟨m.g, 0, none⟩ = some (.map (some m.bm)) := cell_b b9 c8
                 obtain ⟨w10, D10, hrun10, hm10, hg10⟩ := (HM8.out.below b9).store_run HSB.out HL8.out (m.ρ f.id)))
            all_goals
              have FX : Frm (fun q => q = m.bm) w7 w10 := ((F8.step bd8).step b9).then_ ((Frm.refl (fun q => q = m.bm) _).grown hg10 fun k hk _ => by injection hk with hk; exact hk.symm)
              have hid : f.id ≠ o.id := fun e => by
                have := nodup_get (g := fun p : ByteArray × Fl => p.2.id) D2.ok.ids HMM.out HMB.out e
                injection this with this _
                exact HAB.out this
              have hfl : (namesD d1 m).filter (fun p => !decide (p.1 = b)) = namesD (dropD d1 o) m := names_filter (fs := d1.fs) D2.ok.names D2.ok.ids HMB.out (fun p => m.ρ p.2.id)
              have HX := D7.renamed (d1 := dropD d1 o) (a := a) (b := b) (f := f) (fun p hp => (List.mem_filter.1 hp).1) (D2.ok.drop o) rfl rfl rfl rfl rfl rfl (List.mem_filter.2 ⟨HMM.out, by simpa using hid⟩) (fun p hp e => by
                have h1 := List.mem_filter.1 hp
                have h2 := nodup_get (g := fun p : ByteArray × Fl => p.1) D2.ok.names h1.1 HMB.out e
                rw [h2] at h1
                simp at h1) HSB2.out (by
                rw [filter_filter_comm]
                exact congrArg (fun l => List.filter (fun p : ByteArray × Nat => !decide (p.1 = a)) l) hfl) hm10 FX
              go_wp2
              go_ret
              exact ⟨by (rw [HV.out]) <;> rfl, by
                rw [HV.out]
                exact ⟨{ m with vw := vw7, D := D10 }, rfl, HX.1, (((Turn.refl _ _).step HB.out).trans T2).trans (T7.trans HX.2)⟩⟩
      · rw [hgo] at hr
        simp only [if_true] at hr
        have HV := Lib.hid hr
        have HGO : Hid (∀ w, DiskAt w base d m → Calls Try.prog 34 #[.pointer (some ⟨m.g, 0, none⟩)] w fun e w' => e = .returned (.bool true) ∧ DiskAt w' base (goesD d).2 m ∧ Turn (mineD d m) w (mineD (goesD d).2 m) w') := fun w h => by
          have := dgoes_any w h HRD.out
          rw [hgo] at this; exact this
        clear h hf he hr hfi ba hsa hsb hsa1 hsb1 hmem hlive1 hw1 hk1 hgf hgo
        go_enter Try.func23, Try.ntmps23
        go_wp2_with (first
          | (go_at_call 32; refine HMAY.out.mono ?_; rintro e w1 ⟨rfl, hw⟩; subst hw)
          | (at_lookup; refine wpList_look_yes rfl _ _ rfl rfl rfl HM1.out HSA.out HYES.out ?_)
          | (go_at_call 34; refine (HGO.out _ H1.out).mono ?_; rintro e w2 ⟨rfl, D2, T2⟩)
          | (go_at_call 36; refine (dfall_any _ D2 HL1.out HW1.out.1 HW1.out.2).mono ?_; rintro e w3 ⟨rfl, D3⟩))
        go_ret
        exact ⟨by (rw [HV.out]) <;> rfl, by rw [HV.out]; exact DidD.first HB.out (DidD.trans rfl T2 D3)⟩
  · have hr := renameD_may (d := d) (a := a) (b := b) (by rw [he]; exact hz)
    rw [he] at hr
    have HV := Lib.hid hr
    have hz' : (e0 != 0) = true := by simpa using hz
    clear h hf he hr ba
    go_enter Try.func23, Try.ntmps23
    go_wp2_with (go_at_call 32; refine HMAY.out.mono ?_; rintro e w1 ⟨rfl, hw⟩; subst hw)
    go_ret
    exact ⟨by (rw [HV.out]) <;> rfl, by rw [HV.out]; exact ⟨m, rfl, H1.out, (Turn.refl _ _).step HB.out⟩⟩
end Go.Proofs.Ytfgpadikmnhldaa
