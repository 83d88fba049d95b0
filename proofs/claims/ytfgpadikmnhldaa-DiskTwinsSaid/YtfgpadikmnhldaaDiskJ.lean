/-
  A disk's Remove. Conditions: it is a disk, each write's file is there; armed for a number; not too many writes.
-/
import Derived.Test.YtfgpadikmnhldaaDiskI
namespace Go.Proofs.Ytfgpadikmnhldaa
open Go Go.RowKit
attribute [local go_sem] cell_set_if

/-- A file's writes are forgotten, its name is deleted: it is gone. -/
theorem DiskAt.gone {w w' : World} {base : Nat} {d : Ds} {m : DM} {s : ByteArray} {f : Fl} {D' : DataW Unit} (h : DiskAt w base (forgetD d f.id 0) m) (hf : (s, f) ∈ d.fs) (hm : MapAt w' m.bm D' ((namesD (forgetD d f.id 0) m).filter fun p => !decide (p.1 = s))) (hg : w.grownBy w' (some m.bm)) :
    DiskAt w' base (dropD d f) { m with D := D' } ∧ Turn (mineD (forgetD d f.id 0) m) w (mineD (dropD d f) { m with D := D' }) w' := by
  have hn : (namesD (forgetD d f.id 0) m).filter (fun p => !decide (p.1 = s)) = namesD (dropD d f) m := names_filter (fs := d.fs) h.ok.names h.ok.ids hf (fun p => m.ρ p.2.id)
  rw [hn] at hm
  refine h.remap (d' := dropD d f) (fun p hp => ⟨p, (List.mem_filter.1 hp).1, rfl⟩) ?_ rfl rfl rfl rfl rfl rfl hm (List.Perm.refl _) ((Frm.refl _ _).grown hg fun k hk _ => by injection hk with hk; exact hk.symm)
  have hok : d.ok ∨ True := .inr trivial
  have hs : (d.fs.filter fun p => !decide (p.2.id = f.id)).Sublist d.fs := List.filter_sublist
  exact ⟨(hs.map _).nodup h.ok.names, (hs.map _).nodup h.ok.ids, Nat.le_trans hs.length_le h.ok.few, fun p hp => h.ok.short p (hs.subset hp), fun p hp => h.ok.now p (hs.subset hp), fun p hp => h.ok.safe p (hs.subset hp), h.ok.ws, fun p hp => h.ok.next p (hs.subset hp)⟩
set_option maxRecDepth 100000 in
set_option maxHeartbeats 2000000 in
theorem dremove_any {base : Nat} {d : Ds} {m : DM} (s : ByteArray) (w : World) (h : DiskAt w base d m) (hf : d.fine) :
    Calls Try.prog 24 #[.pointer (some ⟨m.g, 0, none⟩), .string s] w fun e w' => e = .returned (.int .i64 (removeD d s).1) ∧ DidD w base d m (removeD d s).2 w' := by
  have hfl := dfile_any s w h
  have H := Lib.hid h
  rcases file_cases d m s with ⟨e0, hne, hfd, hfv⟩ | ⟨f, hfi, hfd, hfv, hmay⟩
  · have HV : Hid (removeD d s = (e0, d)) := by unfold Hid removeD; rw [hfd]
    rw [hfv] at hfl
    have HFL := Lib.hid hfl
    have hne' : (e0 != 0) = true := by simpa using hne
    clear hfl hfv hfd h
    go_enter Try.func24, Try.ntmps24
    go_wp2_with (go_at_call 38; refine HFL.out.mono ?_; rintro e w1 ⟨rfl, b1⟩)
    go_ret
    exact ⟨by (rw [HV.out]) <;> rfl, by rw [HV.out]; exact (DidD.refl H.out).step b1⟩
  · rw [hfv] at hfl
    have HFL := Lib.hid hfl
    have hmem := Ds.find_mem hfi
    have HMEM := Lib.hid hmem
    have hlive1 := live_goes hf.live
    have HL1 := Lib.hid hlive1
    have HRD := Lib.hid hf.rd
    have hw1 : (goesD d).2.ws.length ≤ 1000000 := by rw [goes_ws]; have := hf.ws; omega
    have hk1 : (goesD d).2.keep.length ≤ 1000000 := by rw [goes_keep]; have := hf.keep; omega
    have HW1 := Lib.hid (And.intro hw1 hk1)
    have hgf : (goesD d).2.fs = d.fs := goes_fs d
    have hs40 := mayD_size hmay
    cases hgo : (goesD d).1
    · have HV : Hid (removeD d s = (0, dropD (goesD d).2 f)) := by unfold Hid removeD; rw [hfd]; simp only; rw [hgo]; rfl
      obtain ⟨d1, hd1⟩ : ∃ d1, d1 = (goesD d).2 := ⟨_, rfl⟩
      rw [← hd1] at HV HL1 HW1 hgf
      have HGO : Hid (∀ w, DiskAt w base d m → Calls Try.prog 34 #[.pointer (some ⟨m.g, 0, none⟩)] w fun e w' => e = .returned (.bool false) ∧ DiskAt w' base d1 m ∧ Turn (mineD d m) w (mineD d1 m) w') := fun w h => by
        have := dgoes_any w h HRD.out
        rw [hgo, ← hd1] at this; exact this
      have HM1 : Hid ((s, f) ∈ d1.fs) := by unfold Hid; rw [hgf]; exact hmem
      have hs1 : s.size ≤ maxLen := by unfold maxLen; omega
      have HS1 := Lib.hid hs1
      clear h hf hmem hlive1 hw1 hk1 hgf hgo hd1 hfl hfv hfd hfi hmay hs1 hs40
      go_enter Try.func24, Try.ntmps24
      go_wp2_with (first
        | (go_at_call 38; refine HFL.out.mono ?_; rintro e w1 ⟨rfl, b1⟩; have H1 := H.out.below b1)
        | (go_at_call 34; refine (HGO.out _ H1).mono ?_; rintro e w2 ⟨rfl, D2, T2⟩)
        | (go_at_call 39; refine (dforget_any _ D2 HL1.out HM1.out HW1.out.1 0).mono ?_; rintro e w7 ⟨rfl, vw7, D7, T7⟩
           have c7 : w7.cell? ⟨m.g, 0, none⟩ = some (.map (some m.bm)) := D7.blk.cell 0
           have HM7 := Lib.hid D7.map)
        | (at_delete; refine wpList_del rfl _ _ rfl rfl rfl HM7.out HS1.out ?_; intro w8 D8 hm8 hg8))
      have HX := D7.gone HM1.out hm8 hg8
      go_ret
      exact ⟨by (rw [HV.out]) <;> rfl, by
        rw [HV.out]
        exact ⟨{ m with vw := vw7, D := D8 }, rfl, HX.1, (((Turn.refl _ _).step b1).trans T2).trans (T7.trans HX.2)⟩⟩
    · have HV : Hid (removeD d s = fallD (goesD d).2) := by unfold Hid removeD; rw [hfd]; simp only; rw [hgo]; rfl
      have HGO : Hid (∀ w, DiskAt w base d m → Calls Try.prog 34 #[.pointer (some ⟨m.g, 0, none⟩)] w fun e w' => e = .returned (.bool true) ∧ DiskAt w' base (goesD d).2 m ∧ Turn (mineD d m) w (mineD (goesD d).2 m) w') := fun w h => by
        have := dgoes_any w h HRD.out
        rw [hgo] at this; exact this
      clear h hf hmem hlive1 hw1 hk1 hgf hgo hfl hfv hfd hfi hmay
      go_enter Try.func24, Try.ntmps24
      go_wp2_with (first
        | (go_at_call 38; refine HFL.out.mono ?_; rintro e w1 ⟨rfl, b1⟩; have H1 := H.out.below b1)
        | (go_at_call 34; refine (HGO.out _ H1).mono ?_; rintro e w2 ⟨rfl, D2, T2⟩)
        | (go_at_call 36; refine (dfall_any _ D2 HL1.out HW1.out.1 HW1.out.2).mono ?_; rintro e w3 ⟨rfl, D3⟩))
      go_ret
      exact ⟨by (rw [HV.out]) <;> rfl, by rw [HV.out]; exact DidD.first b1 (DidD.trans rfl T2 D3)⟩
end Go.Proofs.Ytfgpadikmnhldaa
