/-
  A disk's Crash. Conditions: it is a disk, each write's file is there; no more than a million writes and numbers.
-/
import Derived.Test.YtfgpadikmnhldaaDiskF
import Derived.Deep.CutBlock
namespace Go.Proofs.Ytfgpadikmnhldaa
open Go Go.RowKit
attribute [local go_sem] cell_set_if

theorem Rd.wr {ρ : Nat → Nat} {w : World} {A : Option Addr} {ks : List Wr} (h : Rd w A (flatW ρ ks)) {k : Nat} (hk : k < ks.length) : ∃ b o x, A = some ⟨b, o, none⟩ ∧ b < w.heap.size ∧ ks[k]? = some x ∧ w.cell? ⟨b, o + k * 3, none⟩ = some (.pointer (some ⟨ρ x.id, 0, none⟩)) ∧ w.cell? ⟨b, o + k * 3 + 1, none⟩ = some (.int .i64 x.pos) ∧ w.cell? ⟨b, o + k * 3 + 2, none⟩ = some (.string x.data) := h.wrec hk
/-- How many bytes of a write are kept, by the number that was given. -/
theorem kept_at {keep : List Int} {k : Nat} {z : Int} (h : keep[k]? = some z) : keptD keep k = (min (max z 0) 256).toNat := by unfold keptD; rw [h]
theorem kept_no {keep : List Int} {k : Nat} (h : keep.length ≤ k) : keptD keep k = 0 := by unfold keptD; rw [List.getElem?_eq_none h]
/-- The disk while the writes are done. -/
def midD (d : Ds) (keep : List Int) (k : Nat) : Ds := d.withFs (redoN keep d.fs d.ws k)
theorem crashD_on {d : Ds} {keep : List Int} (h : d.off = false) : crashD d keep = (lostN keep d.ws.length, { d with fs := leftF (redoN keep d.fs d.ws d.ws.length), ws := [], off := true, armed := false, keep := [] }) := by unfold crashD; rw [h]; rfl
theorem cur_left {F : List (ByteArray × Fl)} {left : Lit → Bool} {s : ByteArray} {f : Fl} (h : (s, f) ∈ curF F left) (hl : left (kS s) = true) : (s, f) ∈ F := by
  obtain ⟨q, hq, e⟩ := List.mem_filterMap.1 h
  unfold cur1 at e
  by_cases hq1 : left (kS q.1) = true
  · rw [if_pos hq1] at e; rw [← Option.some.inj e]; exact hq
  · rw [if_neg hq1] at e
    split at e
    · have e2 := Option.some.inj e
      injection e2 with e3 _
      rw [e3] at hq1; exact absurd hl hq1
    · cases e
theorem names_filter {fs : List (ByteArray × Fl)} {s : ByteArray} {f : Fl} (hn : (fs.map (·.1)).Nodup) (hi : (fs.map (·.2.id)).Nodup) (hf : (s, f) ∈ fs) (N : ByteArray × Fl → Nat) :
    (fs.map fun p => (p.1, N p)).filter (fun p => !decide (p.1 = s)) = (fs.filter fun p => !decide (p.2.id = f.id)).map fun p => (p.1, N p) := by
  rw [List.filter_map]
  congr 1
  refine List.filter_congr fun p hp => ?_
  have : (p.1 = s) ↔ (p.2.id = f.id) := by
    constructor
    · intro e; rw [nodup_get (g := fun p : ByteArray × Fl => p.1) hn hp hf e]
    · intro e; rw [nodup_get (g := fun p : ByteArray × Fl => p.2.id) hi hp hf e]
  simp only [Function.comp_apply]
  rw [Bool.eq_iff_iff]; simp [this]
/-- The disk while the crash goes through its names. -/
def curD (d : Ds) (F : List (ByteArray × Fl)) (left : Lit → Bool) : Ds := d.withFs (curF F left)
theorem curD_ok {d : Ds} {F : List (ByteArray × Fl)} (h : (d.withFs F).ok) (left : Lit → Bool) : (curD d F left).ok := cur_ok (d := d.withFs F) h left
set_option maxRecDepth 100000 in
set_option maxHeartbeats 8000000 in
theorem dcrash_any {base : Nat} {d : Ds} {m : DM} (A : Option Addr) (n c : Nat) (keep : List Int) (w : World) (h : DiskAt w base d m) (hl : d.live) (hws : d.ws.length ≤ 1000000) (hr : Rd w A (flatZ keep)) (hn : keep.length = n) (hm : n ≤ 1000000)
    (hA : 0 < n → ∀ a, A = some a → a.block < base ∨ TyAt w a.block 3) :
    Calls Try.prog 17 #[.pointer (some ⟨m.g, 0, none⟩), .slice A n c] w fun e w' => e = .returned (.int .i64 ((crashD d keep).1 : Nat)) ∧ DidD w base d m (crashD d keep).2 w' := by
  have hon := don_any w h
  cases ho : d.off
  · obtain ⟨Aw, cw, hvw, _⟩ := own_form h.ow
    obtain ⟨N, hN⟩ : ∃ N, d.ws.length = N := ⟨_, rfl⟩
    rw [hN] at hvw hws
    have c1 : w.cell? ⟨m.g, 1, none⟩ = some (.slice Aw N cw) := by rw [← hvw]; exact h.blk.cell 1
    have hNi : (N : Int) ≤ 1000000 := by omega
    have hni : (n : Int) ≤ 1000000 := by omega
    rw [ho] at hon
    have HON := Lib.hid hon
    have H := Lib.hid h
    have HL := Lib.hid hl
    have HR := Lib.hid hr
    have HN := Lib.hid hn
    have HA := Lib.hid hA
    have HNN := Lib.hid hN
    have HVW := Lib.hid hvw
    have HC := Lib.hid (crashD_on (keep := keep) ho)
    have HOFF := Lib.hid ho
    clear h hl hr hn hA hvw hon ho hN
    go_enter Try.func17, Try.ntmps17
    go_wp2_with (go_at_call 13; refine HON.out.mono ?_; rintro e w0 ⟨rfl, hw⟩; obtain rfl : w = w0 := hw.symm)
    go_loopw [5, 19] (fun u5 u19 wr => ∃ (k lost : Nat) (R' : Nat → Bool → Value), k ≤ N ∧ u19 = .int .i64 k ∧ u5 = .int .i64 lost ∧ lost ≤ k ∧ Hid (lost = lostN keep k) ∧ Hid (DiskAt wr base (midD d keep k) { m with R := R' }) ∧ Hid (Turn (filesD d m) w (filesD (midD d keep k) { m with R := R' }) wr)) (fun _ u19 _ => N - (intOf u19).toNat)
    case atStart => exact ⟨0, 0, m.R, by omega, rfl, rfl, by omega, rfl, H.out, Turn.refl _ _⟩
    case round =>
      obtain ⟨k, lost, R', hk, rfl, rfl, hlk, HLO, HD, HT⟩ := hrel
      by_cases hlt : k < N
      · have hki : (k : Int) < (N : Int) := by omega
        have hrw : Rd wr Aw (flatW m.ρ d.ws) := by
          have h1 : wr.ownsRow base 60 3 m.vw d.ws.length (flatW m.ρ d.ws) := HD.out.ow
          rw [HVW.out] at h1
          exact Rd.of_own (HNN.out ▸ h1)
        obtain ⟨b1, o1, x, rfl, _, hx, d0, d1, d2⟩ := hrw.wr (k := k) (by have := HNN.out; omega)
        have hxm := List.mem_of_getElem? hx
        have hxo := H.out.ok.ws x hxm
        obtain ⟨p, hp, hpx⟩ := redoN_live HL.out keep k hxm
        have ba : Below wr.heap.size wr (wr.alloc (.cells #[.pointer (some ⟨m.ρ x.id, 0, none⟩), .int .i64 x.pos, .string x.data] 60)) := (Below.refl _ _).alloc (Nat.le_refl _) _
        have K := Blk.new wr 60 #[.pointer (some ⟨m.ρ x.id, 0, none⟩), .int .i64 x.pos, .string x.data]
        have HD2 := HD.out.below ba
        have HT2 := HT.out.step ba
        have hkr : ∀ z, keep[k]? = some z → ∃ bz oz, A = some ⟨bz, oz, none⟩ ∧ (wr.alloc (.cells #[.pointer (some ⟨m.ρ x.id, 0, none⟩), .int .i64 x.pos, .string x.data] 60)).cell? ⟨bz, oz + k, none⟩ = some (.int .i64 z) := fun z hz => by
          have hkl := (List.getElem?_eq_some_iff.1 hz).1
          have hpos : 0 < n := by have := HN.out; omega
          obtain ⟨bz, oz, z', hAz, hbl, hz', dz⟩ := HR.out.num (k := k) hkl
          rw [hz] at hz'
          rw [← Option.some.inj hz'] at dz
          refine ⟨bz, oz, hAz, cell_b ba ?_⟩
          refine (HT.out.frm.cell (p := ⟨bz, oz + k, none⟩) hbl fun hmine => ?_).trans dz
          rcases HA.out hpos ⟨bz, oz, none⟩ hAz with h1 | h1
          · have := (H.out.mine_lt _ (.inr (.inr (.inr (.inr hmine))))).1; simp only at this h1; omega
          · rcases H.out.ty_files hmine with h2 | h2
            · exact absurd (h1.eq h2) (by decide)
            · exact absurd (h1.eq h2) (by decide)
        obtain ⟨kk, hkk⟩ : ∃ kk, keptD keep k = kk := ⟨_, rfl⟩
        have hkk256 : kk ≤ 256 := by rw [← hkk]; exact keptD_le _ _
        have HKK := Lib.hid hkk
        have HKR := Lib.hid hkr
        have HXX := Lib.hid hx
        have HD2' := Lib.hid HD2
        have HT2' := Lib.hid HT2
        have HPP := Lib.hid (And.intro hp hpx)
        have HXO := Lib.hid hxo
        have hlon := lostN_next keep k
        rw [hkk, ← HLO.out] at hlon
        have HLN := Lib.hid hlon
        have hmid := redoN_next (keep := keep) (fs := d.fs) hx
        rw [hkk] at hmid
        have HMID := Lib.hid hmid
        clear hx hxm hxo hp hpx HD2 HT2 hkr hkk hrw ba hlon hmid
        go_upto_if 27 with fail
        generalize wr.alloc (.cells #[.pointer (some ⟨m.ρ x.id, 0, none⟩), .int .i64 x.pos, .string x.data] 60) = W at K HKR HD2' HT2' ⊢
        obtain ⟨gx, hgx⟩ : ∃ gx, gx = wr.heap.size := ⟨_, rfl⟩
        rw [← hgx] at K ⊢
        clear d0 d1 d2 hgx HD HT HLO
        have k0 : W.cell? ⟨gx, 0, none⟩ = some (.pointer (some ⟨m.ρ x.id, 0, none⟩)) := K.cell 0
        have k1 : W.cell? ⟨gx, 1, none⟩ = some (.int .i64 x.pos) := K.cell 1
        have k2 : W.cell? ⟨gx, 2, none⟩ = some (.string x.data) := K.cell 2
        clear K
        go_cut [8] from 20 to 43 (fun u8 wx => u8 = .int .i64 (kk : Nat) ∧ wx = W)
        case first =>
          by_cases hkn : k < n
          · have hkni : (k : Int) < (n : Int) := by omega
            obtain ⟨z, hz⟩ : ∃ z, keep[k]? = some z := ⟨_, List.getElem?_eq_getElem (by have := HN.out; omega)⟩
            obtain ⟨bz, oz, rfl, dz⟩ := HKR.out z hz
            have hk2 := kept_at hz
            rw [HKK.out] at hk2
            obtain ⟨q, hq⟩ : ∃ q, max z 0 = q := ⟨_, rfl⟩
            rw [hq] at hk2
            have hq0 : 0 ≤ q := by omega
            have HK2 := Lib.hid hk2
            clear hz hk2
            go_wp2
            go_meet
            case rel => exact ⟨by have := HK2.out; (rw [show (kk : Int) = min q 256 by omega]) <;> rfl, rfl⟩
          · have hkni : (n : Int) ≤ (k : Int) := by omega
            have hk2 := kept_no (keep := keep) (k := k) (by have := HN.out; omega)
            rw [HKK.out] at hk2
            subst hk2
            go_wp2
            go_meet
            case rel => exact ⟨rfl, rfl⟩
        case rest =>
          obtain ⟨rfl, rfl⟩ := hcut
          by_cases hk0 : kk = 0
          · subst hk0
            have hdm : Hid (midD d keep (k + 1) = midD d keep k) := by unfold Hid midD; rw [HMID.out]; rfl
            go_wp2
            go_roundw
            case rel => exact ⟨k + 1, lost + 1, R', by omega, by go_num, by go_num, by omega, by (have := HLN.out); unfold Hid; rw [this]; rfl, by rw [hdm.out]; exact HD2'.out, by rw [hdm.out]; exact HT2'.out⟩
            case measure => simp [intOf]; omega
          · have hk0i : 0 < (kk : Int) := by omega
            have hdm : Hid (midD d keep (k + 1) = (midD d keep k).withFs (redo1 (midD d keep k).fs x kk)) := by unfold Hid midD; rw [HMID.out]; rfl
            have HRD := Lib.hid (dredo_any wc HD2'.out HPP.out.1 x HPP.out.2 HXO.out.1 HXO.out.2.1 kk (by omega) hkk256)
            by_cases hk6 : kk < 256
            · have hk6i : (kk : Int) < 256 := by omega
              go_wp2_with (go_at_call 37; refine HRD.out.mono ?_; rintro e w5 ⟨rfl, R5, D5, T5⟩; have HD5 := Lib.hid D5; have HT5 := Lib.hid T5; clear D5 T5)
              go_roundw
              case rel => exact ⟨k + 1, lost + 1, R5, by omega, by go_num, by go_num, by omega, by (have := HLN.out); unfold Hid; rw [this, if_pos hk6], by rw [hdm.out]; exact HD5.out, by rw [hdm.out]; exact HT2'.out.trans HT5.out⟩
              case measure => simp [intOf]; omega
            · have hk6i : 256 ≤ (kk : Int) := by omega
              go_wp2_with (go_at_call 37; refine HRD.out.mono ?_; rintro e w5 ⟨rfl, R5, D5, T5⟩; have HD5 := Lib.hid D5; have HT5 := Lib.hid T5; clear D5 T5)
              go_roundw
              case rel => exact ⟨k + 1, lost, R5, by omega, by go_num, rfl, by omega, by (have := HLN.out); unfold Hid; rw [this, if_neg hk6]; rfl, by rw [hdm.out]; exact HD5.out, by rw [hdm.out]; exact HT2'.out.trans HT5.out⟩
              case measure => simp [intOf]; omega
      · obtain rfl : N = k := by omega
        obtain ⟨F, hF⟩ : ∃ F, F = redoN keep d.fs d.ws N := ⟨_, rfl⟩
        have hDF : DiskAt wr base (d.withFs F) { m with R := R' } := by rw [hF]; exact HD.out
        have hTF : Turn (mineD d m) w (mineD (d.withFs F) { m with R := R' }) wr := by rw [hF]; exact HT.out.files rfl rfl rfl rfl
        have hokF : (d.withFs F).ok := hDF.ok
        have HOK := Lib.hid hokF
        have HDF := Lib.hid hDF
        have HTF := Lib.hid hTF
        have HCC : Hid (crashD d keep = (lost, { d with fs := leftF F, ws := [], off := true, armed := false, keep := [] })) := by unfold Hid; rw [HC.out, HNN.out, ← hF, ← HLO.out]
        have c0 : wr.cell? ⟨m.g, 0, none⟩ = some (.map (some m.bm)) := hDF.blk.cell 0
        have HM0 := Lib.hid hDF.map
        have hsz := HT.out.frm.size
        clear hF hDF hTF hokF HD HT HLO HC
        go_wp2_with (first
          | (at_range; refine wpList_rangeF rfl _ rfl rfl HM0.out ?_; intro w1 hrg1 hg1 hs1)
          | go_in)
        have hb1 : Below wr.heap.size wr w1 := (Below.refl _ _).grown hg1 (Nat.le_refl _) (fun k hk => by cases hk)
        obtain ⟨r, hre⟩ : ∃ r, r = wr.heap.size := ⟨_, rfl⟩
        rw [← hre] at hrg1 ⊢
        have hrm : ∀ q, mineD (d.withFs F) { m with R := R' } q → q ≠ r := fun q hq e => by have := (HDF.out.mine_lt q hq).2; omega
        have HRM := Lib.hid hrm
        have HB1 := Lib.hid hb1
        have hr1 : r < w1.heap.size := by omega
        have hwr : w.heap.size ≤ r := by omega
        clear hrm hb1 hg1 hre
        go_loopw [49] (fun _ wx => ∃ (left : Lit → Bool) (cnt : Nat) (D' : DataW Unit) (R2 : Nat → Bool → Value), wx.ranges Try.prog 9 ptrR m.bm r (Maps.size m.D) D' left cnt ∧ r < wx.heap.size ∧ Hid (DiskAt wx base (curD d F left) { m with R := R2, D := D' }) ∧ Hid (Turn (mineD d m) w (mineD (curD d F left) { m with R := R2, D := D' }) wx) ∧ Hid (∀ k, left k = true → Maps.has D' k = true) ∧ Hid (∀ q, mineD (curD d F left) { m with R := R2, D := D' } q → q ≠ r)) (fun _ wx => wx.rangeLeft m.bm r)
        case atStart =>
          have e : curD d F (Maps.has m.D) = d.withFs F := by
            unfold curD
            rw [cur_all (F := F) (left := Maps.has m.D) fun p hp => (HM0.out.has p.1).2 ⟨_, List.mem_map.2 ⟨p, hp, rfl⟩⟩]
          exact ⟨_, _, m.D, R', hrg1, hr1, by rw [e]; exact HDF.out.below HB1.out, by rw [e]; exact HTF.out.step HB1.out, fun k h => h, by rw [e]; exact HRM.out⟩
        case round =>
          obtain ⟨left, cnt, D', R2, hrg, hrx, HD, HT, HL, HRX⟩ := hrel
          clear HDF HTF HM0 HRM HB1 hrg1
          have HM := Lib.hid HD.out.map
          go_wp2_with (first
            | (at_next; refine wpList_nextF rfl _ rfl rfl HM.out hrg HL.out ?_ ?_)
            | go_in)
          · intro hno
            have e : curD d F left = d.withFs (leftF F) := by unfold curD; rw [cur_none hno]
            have hd := HD.out
            have ht := HT.out
            rw [e] at hd ht
            have B0 := hd.blk
            have FX : Frm (at1 m.g) wr ((((wr.setCell ⟨m.g, 1, none⟩ (.slice none 0 0)).setCell ⟨m.g, 2, none⟩ (.bool true)).setCell ⟨m.g, 4, none⟩ (.bool false)).setCell ⟨m.g, 6, none⟩ (.slice none 0 0)) := ((((Frm.refl (at1 m.g) wr).setCell (p := ⟨m.g, 1, none⟩) (fun _ => rfl) _).setCell (p := ⟨m.g, 2, none⟩) (fun _ => rfl) _).setCell (p := ⟨m.g, 4, none⟩) (fun _ => rfl) _).setCell (p := ⟨m.g, 6, none⟩) (fun _ => rfl) _
            have hfin := hd.cells (d' := { d with fs := leftF F, ws := [], off := true, armed := false, keep := [] }) (vw' := .slice none 0 0) (vk' := .slice none 0 0) rfl (leftF_ok (d := d.withFs F) HOK.out false) (FX.mono fun q _ hq => .inl hq) (((((B0.set_ 1 (.slice none 0 0)).set_ 2 (.bool true)).set_ 4 (.bool false)).set_ 6 (.slice none 0 0))) (World.ownsRow_nil _ _ _ _) (World.ownsRow_nil _ _ _ _) (fun q hq => by simp [Value.ownBlock] at hq) (fun q hq => by simp [Value.ownBlock] at hq)
            have c1 : wr.cell? ⟨m.g, 1, none⟩ = some m.vw := B0.cell 1
            have c2 : wr.cell? ⟨m.g, 2, none⟩ = some (.bool d.off) := B0.cell 2
            have c4 : wr.cell? ⟨m.g, 4, none⟩ = some (.bool d.armed) := B0.cell 4
            have c6 : wr.cell? ⟨m.g, 6, none⟩ = some m.vk := B0.cell 6
            have f1 := B0.free 1
            have f2 := B0.free 2
            have f4 := B0.free 4
            have f6 := B0.free 6
            have HFI := Lib.hid (And.intro hfin.1 (ht.trans hfin.2))
            clear hfin hd ht B0 e hno hrg FX
            go_wp2
            go_ret
            exact ⟨by (rw [HCC.out]) <;> rfl, { m with R := R2, D := D', vw := .slice none 0 0, vk := .slice none 0 0 }, rfl, by rw [HCC.out]; exact HFI.out.1, by rw [HCC.out]; exact HFI.out.2⟩
          · intro s b w' cnt' hsb hls hrg' hlt hgr hszw hen
            obtain ⟨p, hp, e⟩ := List.mem_map.1 hsb
            obtain ⟨s', f⟩ := p
            injection e with e1 e2
            have e1 : s' = s := e1
            have e2 : m.ρ f.id = b := e2
            subst e1 e2
            have hpF := cur_left hp hls
            have hwb : Frm (fun q => q = r) wr w' := (Frm.refl _ _).grown hgr fun k hk _ => by injection hk with hk; exact hk.symm
            have hD1 := HD.out.frm hwb fun q hq e => HRX.out q hq e
            have hT1 : Turn (mineD d m) w (mineD (curD d F left) { m with R := R2, D := D' }) w' := ⟨HT.out.frm.trans hwb fun i hi e => by omega, HT.out.own⟩
            have F1 : FileAt w' base (m.ρ f.id) f (R2 f.id true) (R2 f.id false) := hD1.fs _ hp
            obtain ⟨As, cs, hvs, _⟩ := own_form F1.os
            obtain ⟨nl, hnl⟩ : ∃ nl, f.safe.length = nl := ⟨_, rfl⟩
            rw [hnl] at hvs
            have hn4 : nl ≤ 4001 := by rw [← hnl]; exact (hD1.ok.safe _ hp).1
            have k0 : w'.cell? ⟨m.ρ f.id, 0, none⟩ = some (R2 f.id true) := F1.blk.cell 0
            have k1 : w'.cell? ⟨m.ρ f.id, 1, none⟩ = some (.slice As nl cs) := by rw [← hvs]; exact F1.blk.cell 1
            have k2 : w'.cell? ⟨m.ρ f.id, 2, none⟩ = some (.bool f.known) := F1.blk.cell 2
            have hrs : Rd w' As (strs f.safe) := by have := F1.os; rw [hvs, hnl] at this; exact Rd.of_own this
            have HCL := Lib.hid (cloneS_any w' As nl cs f.safe hrs hnl (by omega))
            have HNL := Lib.hid hnl
            have HF1 := Lib.hid F1
            have HD1 := Lib.hid hD1
            have HT1 := Lib.hid hT1
            have HPF := Lib.hid hpF
            have HPC := Lib.hid hp
            have hrb : r ≠ m.ρ f.id := fun e => HRX.out (m.ρ f.id) (.inr (.inr (.inr (.inr ⟨_, hp, .inl rfl⟩)))) e.symm
            have hmb : m.bm ≠ m.ρ f.id := fun e => hD1.map.ne_ty (hD1.ty_file hp) e.symm
            have HRB := Lib.hid (And.intro hrb hmb)
            have hrx' : r < w'.heap.size := by omega
            have hshort := (hD1.ok.short _ hp).2
            have c0' : w'.cell? ⟨m.g, 0, none⟩ = some (.map (some m.bm)) := hD1.blk.cell 0
            have hgb : m.g ≠ m.ρ f.id := fun e => by
              have h1 : TyAt w' m.g _ := hD1.blk.ty
              have h2 : TyAt w' (m.ρ f.id) _ := hD1.ty_file hp
              rw [← e] at h2
              exact absurd (h1.eq h2) (by decide)
            have HLS := Lib.hid hls
            clear hsb hp hls hpF hwb hD1 hT1 F1 hrs hnl hrb hmb hvs
            have hfact : ∀ (w5 : World) (B5 : Option Addr) (d5 : Nat), Below w'.heap.size w' w5 → w5.ownsRow w'.heap.size 9 1 (.slice B5 nl d5) nl (strs f.safe) →
                (w5.setCell ⟨m.ρ f.id, 0, none⟩ (.slice B5 nl d5)).ranges Try.prog 9 ptrR m.bm r (Maps.size m.D) D' (fun z => left z && !z.sameKey (kS s')) cnt' ∧ r < (w5.setCell ⟨m.ρ f.id, 0, none⟩ (.slice B5 nl d5)).heap.size ∧
                DiskAt (w5.setCell ⟨m.ρ f.id, 0, none⟩ (.slice B5 nl d5)) base { curD d F left with fs := updF (curF F left) f.id nowF } { m with R := setR R2 f.id (.slice B5 nl d5) (R2 f.id false), D := D' } ∧
                Turn (mineD d m) w (mineD { curD d F left with fs := updF (curF F left) f.id nowF } { m with R := setR R2 f.id (.slice B5 nl d5) (R2 f.id false), D := D' }) (w5.setCell ⟨m.ρ f.id, 0, none⟩ (.slice B5 nl d5)) ∧
                ∀ q, mineD { curD d F left with fs := updF (curF F left) f.id nowF } { m with R := setR R2 f.id (.slice B5 nl d5) (R2 f.id false), D := D' } q → q ≠ r := by
              intro w5 B5 d5 b5 o5
              have FX : Frm (at1 (m.ρ f.id)) w' (w5.setCell ⟨m.ρ f.id, 0, none⟩ (.slice B5 nl d5)) := (Frm.of_below (S := at1 (m.ρ f.id)) b5).setCell (p := ⟨m.ρ f.id, 0, none⟩) (fun _ => rfl) _
              have FY : Frm (at1 (m.ρ f.id)) w5 (w5.setCell ⟨m.ρ f.id, 0, none⟩ (.slice B5 nl d5)) := (Frm.refl (at1 (m.ρ f.id)) _).setCell (p := ⟨m.ρ f.id, 0, none⟩) (fun _ => rfl) _
              have B6 := (HF1.out.blk.below b5).set_ 0 (.slice B5 nl d5)
              have hF6 : FileAt (w5.setCell ⟨m.ρ f.id, 0, none⟩ (.slice B5 nl d5)) base (m.ρ f.id) (nowF f) (.slice B5 nl d5) (R2 f.id false) := by
                refine ⟨by show Blk _ _ _ #[.slice B5 nl d5, R2 f.id false, .bool f.known]; simpa using B6, HF1.out.lo, ?_, own_frm HF1.out.os FX (fun q hq e => HF1.out.blk.own_ne HF1.out.os (by decide) (e ▸ hq))⟩
                show World.ownsRow _ _ _ _ _ f.safe.length (strs f.safe)
                rw [HNL.out]
                refine own_frm (own_base o5 (by have := HF1.out.lo; have := HF1.out.blk.lt; omega)) FY (fun q hq e => ?_)
                have h1 := (o5.lt q hq).1
                have h2 := HF1.out.blk.lt
                have h3 : q = m.ρ f.id := e
                omega
              have hok6 : ({ curD d F left with fs := updF (curF F left) f.id nowF } : Ds).ok := (curD_ok HOK.out left).upd f.id nowF (fun _ => rfl) (fun p hp _ => (curD_ok HOK.out left).safe p hp) (fun p hp _ => (curD_ok HOK.out left).safe p hp)
              have ht := HD1.out.turn HPC.out nowF (fun _ => rfl) hok6 (FX.mono fun q _ hq => .inl hq) hF6 (fun q hq => .inr (o5.lt q hq).1) (fun q hq => .inl hq) (fun q hq hq2 => by
                have h1 := (o5.lt q hq).1
                have h2 := (HF1.out.os.lt q hq2).2
                omega)
              have ht2 := ht.2.files rfl rfl rfl rfl
              refine ⟨ranges_frm hrg' FX (fun e => HRB.out.2 e) (fun e => HRB.out.1 e), Nat.lt_of_lt_of_le hrx' FX.size, ht.1, HT1.out.trans ht2, fun q hq e => ?_⟩
              rcases ht2.own q hq with h1 | h1
              · exact HRX.out q h1 e
              · omega
            have HFA := Lib.hid hfact
            clear hfact
            cases hk : f.known
            · rw [hk] at k2
              have HK := Lib.hid hk
              clear hk
              go_wp2_with (first
                | (go_at_call 26; refine HCL.out.mono ?_; rintro e w5 ⟨⟨B5, d5, rfl, o5⟩, b5⟩
                   have F5 := HF1.out.blk.below b5
                   have y5 : w5.cell? ⟨m.ρ f.id, 0, none⟩ = some (R2 f.id true) := F5.cell 0
                   have y52 : w5.cell? ⟨m.ρ f.id, 2, none⟩ = some (.bool false) := cell_b b5 k2
                   have z5 := F5.free 0
                   have y50 : w5.cell? ⟨m.g, 0, none⟩ = some (.map (some m.bm)) := cell_b b5 c0'
                   have HX5 := Lib.hid (HFA.out w5 B5 d5 b5 o5))
                | (at_delete; go_loud (refine wpList_delete_ranges _ rfl _ _ _ _ rfl 55 strKeyed Try.underlying46 ptrR m.bm r _ D' _ cnt' rfl HX5.out.1 (.string s') (kS s') rfl (strKey (by unfold maxLen; omega)) ?_); intro w7 cnt7 hrg7 hle7 htn7))
              rw [Maps.strike_twice] at hrg7
              have F7 : Frm (fun q => q = m.bm) (w5.setCell ⟨m.ρ f.id, 0, none⟩ (.slice B5 nl d5)) w7 := (Frm.refl _ _).grown htn7.grown (fun k hk _ => by injection hk with hk; exact hk.symm)
              have hcd : (updF (curF F left) f.id nowF).filter (fun p => !decide (p.2.id = f.id)) = curF F (fun z => left z && !z.sameKey (kS s')) := cur_del HOK.out.names HOK.out.ids HPF.out (fun _ => rfl) HK.out
              have hok6 := HX5.out.2.2.1.ok
              have hin : (s', nowF f) ∈ updF (curF F left) f.id nowF := by
                have := updF_in (id := f.id) (g := nowF) HPC.out
                rwa [if_pos rfl] at this
              have hM7 := HX5.out.2.2.1.map.del (w' := w7) (s := s') ⟨_, hrg7.owns⟩
              have hnf := names_filter (fs := updF (curF F left) f.id nowF) (s := s') (f := nowF f) hok6.names hok6.ids hin (fun p => m.ρ p.2.id)
              have hid : (nowF f).id = f.id := rfl
              rw [hid, hcd] at hnf
              have hM8 : MapAt w7 m.bm (D'.del (kS s')) ((curF F (fun z => left z && !z.sameKey (kS s'))).map fun p => (p.1, m.ρ p.2.id)) := by rw [← hnf]; exact hM7
              have hre := HX5.out.2.2.1.remap (d' := curD d F (fun z => left z && !z.sameKey (kS s'))) (fun p hp => by
                have hp' : p ∈ curF F (fun z => left z && !z.sameKey (kS s')) := hp
                rw [← hcd] at hp'
                exact ⟨p, (List.mem_filter.1 hp').1, rfl⟩) (curD_ok HOK.out _) rfl rfl rfl rfl rfl rfl hM8 (List.Perm.refl _) F7
              have HRE := Lib.hid hre
              have hrx7 : r < w7.heap.size := Nat.lt_of_lt_of_le HX5.out.2.1 F7.size
              have hl7 : Hid (∀ k, (fun z => left z && !z.sameKey (kS s')) k = true → Maps.has (D'.del (kS s')) k = true) := fun k hk => by
                simp only [Bool.and_eq_true, Bool.not_eq_true'] at hk
                have hne : k ≠ kS s' := fun e => by rw [e, WideAt.sameKey_self (kS_key s')] at hk; cases hk.2
                rw [Maps.has_del_other hne]
                exact HL.out k hk.1
              have hx7 : Hid (∀ q, mineD (curD d F (fun z => left z && !z.sameKey (kS s'))) { m with R := setR R2 f.id (.slice B5 nl d5) (R2 f.id false), D := D'.del (kS s') } q → q ≠ r) := fun q hq e => by
                rcases HRE.out.2.own q hq with h1 | h1
                · exact HX5.out.2.2.2.2 q h1 e
                · have := HX5.out.2.1; omega
              have ht7 : Hid (Turn (mineD d m) w (mineD (curD d F (fun z => left z && !z.sameKey (kS s'))) { m with R := setR R2 f.id (.slice B5 nl d5) (R2 f.id false), D := D'.del (kS s') }) w7) := HX5.out.2.2.2.1.trans HRE.out.2
              clear hre hM8 hM7 hnf hcd hok6 hin F7
              simp only [Act.put]
              go_roundw
              case rel => exact ⟨_, cnt7, D'.del (kS s'), _, hrg7, hrx7, HRE.out.1, ht7.out, hl7.out, hx7.out⟩
              case measure => rw [hrg7.left_eq, hrg.left_eq]; omega
            · rw [hk] at k2
              have HK := Lib.hid hk
              clear hk
              go_wp2_with (go_at_call 26; refine HCL.out.mono ?_; rintro e w5 ⟨⟨B5, d5, rfl, o5⟩, b5⟩
                           have F5 := HF1.out.blk.below b5
                           have y5 : w5.cell? ⟨m.ρ f.id, 0, none⟩ = some (R2 f.id true) := F5.cell 0
                           have y52 : w5.cell? ⟨m.ρ f.id, 2, none⟩ = some (.bool true) := cell_b b5 k2
                           have z5 := F5.free 0
                           have HX5 := Lib.hid (HFA.out w5 B5 d5 b5 o5))
              have he : ({ curD d F left with fs := updF (curF F left) f.id nowF } : Ds) = curD d F (fun z => left z && !z.sameKey (kS s')) := by
                exact congrArg d.withFs (cur_upd (F := F) (left := left) (left' := fun z => left z && !z.sameKey (kS s')) HOK.out.names HOK.out.ids HPF.out HLS.out (fun _ => rfl) HK.out)
              rw [he] at HX5
              go_roundw
              case rel => exact ⟨_, cnt', D', _, HX5.out.1, HX5.out.2.1, HX5.out.2.2.1, HX5.out.2.2.2.1, fun k hk => HL.out k (by simp only [Bool.and_eq_true] at hk; exact hk.1), HX5.out.2.2.2.2⟩
              case measure => rw [HX5.out.1.left_eq, hrg.left_eq]; exact hlt
  · have HC : Hid (crashD d keep = (0, d)) := by unfold Hid crashD; rw [ho]; rfl
    rw [ho] at hon
    have HON := Lib.hid hon
    have H := Lib.hid h
    clear hon h ho hr hA hn
    go_enter Try.func17, Try.ntmps17
    go_wp2_with (go_at_call 13; refine HON.out.mono ?_; rintro e w0 ⟨rfl, hw⟩; obtain rfl : w = w0 := hw.symm)
    go_ret
    exact ⟨by (rw [HC.out]) <;> rfl, by rw [HC.out]; exact DidD.refl H.out⟩
end Go.Proofs.Ytfgpadikmnhldaa
