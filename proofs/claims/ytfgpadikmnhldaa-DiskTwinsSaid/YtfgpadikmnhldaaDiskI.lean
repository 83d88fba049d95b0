/-
  A disk's Sync. Conditions: it is a disk, each write's file is there; armed for a number; not too many writes.
-/
import Derived.Test.YtfgpadikmnhldaaDiskH
namespace Go.Proofs.Ytfgpadikmnhldaa
open Go Go.RowKit
attribute [local go_sem] cell_set_if

set_option maxRecDepth 100000 in
set_option maxHeartbeats 2000000 in
theorem dsync_any {base : Nat} {d : Ds} {m : DM} (s : ByteArray) (w : World) (h : DiskAt w base d m) (hf : d.fine) :
    Calls Try.prog 21 #[.pointer (some ⟨m.g, 0, none⟩), .string s] w fun e w' => e = .returned (.int .i64 (syncD d s).1) ∧ DidD w base d m (syncD d s).2 w' := by
  have hfl := dfile_any s w h
  have H := Lib.hid h
  rcases file_cases d m s with ⟨e0, hne, hfd, hfv⟩ | ⟨f, hfi, hfd, hfv, hmay⟩
  · have HV : Hid (syncD d s = (e0, d)) := by unfold Hid syncD; rw [hfd]
    rw [hfv] at hfl
    have HFL := Lib.hid hfl
    have hne' : (e0 != 0) = true := by simpa using hne
    clear hfl hfv hfd h
    go_enter Try.func21, Try.ntmps21
    go_wp2_with (go_at_call 38; refine HFL.out.mono ?_; rintro e w1 ⟨rfl, b1⟩)
    go_ret
    exact ⟨by (rw [HV.out]) <;> rfl, by rw [HV.out]; exact (DidD.refl H.out).step b1⟩
  · rw [hfv] at hfl
    have HFL := Lib.hid hfl
    have hmem := Ds.find_mem hfi
    have HMEM := Lib.hid hmem
    have hlive1 := live_goes hf.live
    have HL1 := Lib.hid hlive1
    have HRD := Lib.hid hf.rd
    have hw1 : (goesD d).2.ws.length ≤ 1000000 := by rw [goes_ws]; have := hf.ws; omega
    have hk1 : (goesD d).2.keep.length ≤ 1000000 := by rw [goes_keep]; have := hf.keep; omega
    have HW1 := Lib.hid (And.intro hw1 hk1)
    have hgf : (goesD d).2.fs = d.fs := goes_fs d
    cases hgo : (goesD d).1
    · have HV : Hid (syncD d s = (0, forgetD { (goesD d).2 with fs := updF (goesD d).2.fs f.id syncF } f.id 0)) := by unfold Hid syncD; rw [hfd]; simp only; rw [hgo]; rfl
      obtain ⟨d1, hd1⟩ : ∃ d1, d1 = (goesD d).2 := ⟨_, rfl⟩
      rw [← hd1] at HV HL1 HW1 hgf
      have HGO : Hid (∀ w, DiskAt w base d m → Calls Try.prog 34 #[.pointer (some ⟨m.g, 0, none⟩)] w fun e w' => e = .returned (.bool false) ∧ DiskAt w' base d1 m ∧ Turn (mineD d m) w (mineD d1 m) w') := fun w h => by
        have := dgoes_any w h HRD.out
        rw [hgo, ← hd1] at this; exact this
      have hF := h.fs _ hmem
      obtain ⟨A, c, hv, _⟩ := own_form hF.ol
      obtain ⟨n, hn⟩ : ∃ n, f.now.length = n := ⟨_, rfl⟩
      have hn4 : n ≤ 4001 := by rw [← hn]; exact (h.ok.now _ hmem).1
      have hvl : m.R f.id true = .slice A n c := by rw [← hn]; exact hv
      have HVL := Lib.hid hvl
      have HNL := Lib.hid hn
      have HM1 : Hid ((s, f) ∈ d1.fs) := by unfold Hid; rw [hgf]; exact hmem
      have hfact : ∀ (w2 w5 : World) (B5 : Option Addr) (d5 : Nat), DiskAt w2 base d1 m → Below w2.heap.size w2 w5 → w5.ownsRow w2.heap.size 9 1 (.slice B5 n d5) n (strs f.now) →
          DiskAt ((w5.setCell ⟨m.ρ f.id, 1, none⟩ (.slice B5 n d5)).setCell ⟨m.ρ f.id, 2, none⟩ (.bool true)) base { d1 with fs := updF d1.fs f.id syncF } { m with R := setR m.R f.id (m.R f.id true) (.slice B5 n d5) } ∧
          Turn (mineD d1 m) w2 (mineD { d1 with fs := updF d1.fs f.id syncF } { m with R := setR m.R f.id (m.R f.id true) (.slice B5 n d5) }) ((w5.setCell ⟨m.ρ f.id, 1, none⟩ (.slice B5 n d5)).setCell ⟨m.ρ f.id, 2, none⟩ (.bool true)) := by
        intro w2 w5 B5 d5 D2 b5 o5
        have F2 := D2.fs _ HM1.out
        have FY : Frm (at1 (m.ρ f.id)) w5 ((w5.setCell ⟨m.ρ f.id, 1, none⟩ (.slice B5 n d5)).setCell ⟨m.ρ f.id, 2, none⟩ (.bool true)) := ((Frm.refl (at1 (m.ρ f.id)) _).setCell (p := ⟨m.ρ f.id, 1, none⟩) (fun _ => rfl) _).setCell (p := ⟨m.ρ f.id, 2, none⟩) (fun _ => rfl) _
        have FX : Frm (at1 (m.ρ f.id)) w2 ((w5.setCell ⟨m.ρ f.id, 1, none⟩ (.slice B5 n d5)).setCell ⟨m.ρ f.id, 2, none⟩ (.bool true)) := (Frm.of_below (S := at1 (m.ρ f.id)) b5).then_ FY
        have B6 := ((F2.blk.below b5).set_ 1 (.slice B5 n d5)).set_ 2 (.bool true)
        have hF6 : FileAt ((w5.setCell ⟨m.ρ f.id, 1, none⟩ (.slice B5 n d5)).setCell ⟨m.ρ f.id, 2, none⟩ (.bool true)) base (m.ρ f.id) (syncF f) (m.R f.id true) (.slice B5 n d5) := by
          refine ⟨by show Blk _ _ _ #[m.R f.id true, .slice B5 n d5, .bool true]; simpa using B6, F2.lo, own_frm F2.ol FX (fun q hq e => F2.blk.own_ne F2.ol (by decide) (e ▸ hq)), ?_⟩
          show World.ownsRow _ _ _ _ _ f.now.length (strs f.now)
          rw [HNL.out]
          refine own_frm (own_base o5 (by have h1 := F2.lo; have h2 := F2.blk.lt; simp only at h1 h2; omega)) FY (fun q hq e => ?_)
          have h1 := (o5.lt q hq).1
          have h2 := F2.blk.lt
          have h3 : q = m.ρ f.id := e
          simp only at h2
          omega
        have hok6 : ({ d1 with fs := updF d1.fs f.id syncF } : Ds).ok := D2.ok.upd f.id syncF (fun _ => rfl) (fun p hp _ => D2.ok.now p hp) (fun p hp _ => D2.ok.now p hp)
        have ht := D2.turn HM1.out syncF (fun _ => rfl) hok6 (FX.mono fun q _ hq => .inl hq) hF6 (fun q hq => .inl hq) (fun q hq => .inr (o5.lt q hq).1) (fun q hq hq2 => by
          have h1 := (o5.lt q hq2).1
          have h2 := (F2.ol.lt q hq).2
          omega)
        exact ⟨ht.1, ht.2.files rfl rfl rfl rfl⟩
      have HFA := Lib.hid hfact
      clear hfact hF hv hvl hn h hf hmem hlive1 hw1 hk1 hgf hgo hd1 hfl hfv hfd hfi hmay
      go_enter Try.func21, Try.ntmps21
      go_wp2_with (first
        | (go_at_call 38; refine HFL.out.mono ?_; rintro e w1 ⟨rfl, b1⟩; have H1 := H.out.below b1)
        | (go_at_call 34; refine (HGO.out _ H1).mono ?_; rintro e w2 ⟨rfl, D2, T2⟩
           have F2 := D2.fs _ HM1.out
           have k0 : w2.cell? ⟨m.ρ f.id, 0, none⟩ = some (.slice A n c) := by rw [← HVL.out]; exact F2.blk.cell 0
           have hrs : Rd w2 A (strs f.now) := by have := F2.ol; simp only at this; rw [HVL.out, HNL.out] at this; exact Rd.of_own this
           have HCL := Lib.hid (cloneS_any w2 A n c f.now hrs HNL.out (by omega))
           have HD2 := Lib.hid (And.intro D2 T2)
           clear hrs)
        | (go_at_call 26; refine HCL.out.mono ?_; rintro e w5 ⟨⟨B5, d5, rfl, o5⟩, b5⟩
           have F5 := F2.blk.below b5
           have y1 : w5.cell? ⟨m.ρ f.id, 1, none⟩ = some (m.R f.id false) := F5.cell 1
           have y2 : w5.cell? ⟨m.ρ f.id, 2, none⟩ = some (.bool f.known) := F5.cell 2
           have z1 := F5.free 1
           have z2 := F5.free 2
           have HX5 := Lib.hid (HFA.out w2 w5 B5 d5 HD2.out.1 b5 o5))
        | (go_at_call 39; refine (dforget_any _ HX5.out.1 (live_upd HL1.out f.id syncF (fun _ => rfl)) (s := s) (f := syncF f) (by have := updF_in (id := f.id) (g := syncF) HM1.out; rwa [if_pos rfl] at this) HW1.out.1 0).mono ?_; rintro e w7 ⟨rfl, vw7, D7, T7⟩))
      go_ret
      exact ⟨by (rw [HV.out]) <;> rfl, by
        rw [HV.out]
        exact ⟨{ m with R := setR m.R f.id (m.R f.id true) (.slice B5 n d5), vw := vw7 }, rfl, D7, (((Turn.refl _ _).step b1).trans HD2.out.2).trans (HX5.out.2.trans T7)⟩⟩
    · have HV : Hid (syncD d s = fallD (goesD d).2) := by unfold Hid syncD; rw [hfd]; simp only; rw [hgo]; rfl
      have HGO : Hid (∀ w, DiskAt w base d m → Calls Try.prog 34 #[.pointer (some ⟨m.g, 0, none⟩)] w fun e w' => e = .returned (.bool true) ∧ DiskAt w' base (goesD d).2 m ∧ Turn (mineD d m) w (mineD (goesD d).2 m) w') := fun w h => by
        have := dgoes_any w h HRD.out
        rw [hgo] at this; exact this
      clear h hf hmem hlive1 hw1 hk1 hgf hgo hfl hfv hfd hfi hmay
      go_enter Try.func21, Try.ntmps21
      go_wp2_with (first
        | (go_at_call 38; refine HFL.out.mono ?_; rintro e w1 ⟨rfl, b1⟩; have H1 := H.out.below b1)
        | (go_at_call 34; refine (HGO.out _ H1).mono ?_; rintro e w2 ⟨rfl, D2, T2⟩)
        | (go_at_call 36; refine (dfall_any _ D2 HL1.out HW1.out.1 HW1.out.2).mono ?_; rintro e w3 ⟨rfl, D3⟩))
      go_ret
      exact ⟨by (rw [HV.out]) <;> rfl, by rw [HV.out]; exact DidD.first b1 (DidD.trans rfl T2 D3)⟩
end Go.Proofs.Ytfgpadikmnhldaa
