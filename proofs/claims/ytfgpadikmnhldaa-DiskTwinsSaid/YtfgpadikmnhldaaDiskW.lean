/-
  A disk's Write. Conditions: it is a disk, each write's file is there; armed for a number; not too many writes; what the call writes in lies ahead of its memory.
-/
import Derived.Test.YtfgpadikmnhldaaDiskT
import Derived.Deep.CutBlock
namespace Go.Proofs.Ytfgpadikmnhldaa
open Go Go.RowKit
attribute [local go_sem] cell_set_if

/-- What the look-up of a name tells: the file's place, whether it is there, how long it is. -/
def Found (d : Ds) (m : DM) (s : ByteArray) (pv : Value) (isb : Bool) (N : Nat) : Prop :=
  (d.find s = none ∧ pv = .pointer none ∧ isb = false ∧ N = 0) ∨ ∃ f, d.find s = some f ∧ pv = .pointer (some ⟨m.ρ f.id, 0, none⟩) ∧ isb = true ∧ N = f.now.length
theorem found (d : Ds) (m : DM) (s : ByteArray) : ∃ pv isb N, Found d m s pv isb N ∧ N = sizeOf_ d s := by
  unfold Found sizeOf_
  cases h : d.find s with
  | none => exact ⟨_, _, _, .inl ⟨rfl, rfl, rfl, rfl⟩, rfl⟩
  | some f => exact ⟨_, _, _, .inr ⟨f, rfl, rfl, rfl, rfl⟩, rfl⟩
theorem wpList_look_any {w : World} {ops : Array Oper} {rest : List Oper} {o : Oper} {a : Act} {Q : Exit → Act → World → Prop} {d : Ds} {m : DM} {D : DataW Unit} {s : ByteArray} {pv : Value} {isb : Bool} {N : Nat}
    (hg : o.guard = none) (mm x : Operand) (hop : o.op = Op.lookup 46 mm x true) (hm : a.eval mm = .map (some m.bm)) (hx : a.eval x = .string s) (h : MapAt w m.bm D (namesD d m)) (hs : s.size ≤ maxLen) (hf : Found d m s pv isb N)
    (hK : wpList Try.prog ops Q rest (a.put o.dst (.tuple #[pv, .bool isb])) w) : wpList Try.prog ops Q (o :: rest) a w := by
  rcases hf with ⟨hf, rfl, rfl, _⟩ | ⟨f, hf, rfl, rfl, _⟩
  · exact wpList_look_no hg mm x hop hm hx h hs (Ds.not_names hf) hK
  · exact wpList_look_yes hg mm x hop hm hx h hs (Ds.mem_names hf) hK
theorem dfits_any {base : Nat} {d : Ds} {m : DM} {s : ByteArray} {pv : Value} {isb : Bool} {N : Nat} (pos : Int) (w : World) (h : DiskAt w base d m) (hf : Found d m s pv isb N) :
    Calls Try.prog 33 #[.pointer (some ⟨m.g, 0, none⟩), pv, .bool isb, .int .i64 pos] w fun e w' => e = .returned (.bool (fitsD d s pos)) ∧ Below w.heap.size w w' := by
  rcases hf with ⟨hf, rfl, rfl, _⟩ | ⟨f, hf, rfl, rfl, _⟩
  · exact dfits_none s pos w h hf
  · exact dfits_some s pos w h hf
theorem fits_few {d : Ds} {s : ByteArray} {pos : Int} (h : fitsD d s pos = true) (hf : d.find s = none) : d.fs.length < 60 := by
  unfold fitsD at h
  rw [hf] at h
  by_cases h60 : 60 ≤ d.fs.length
  · rw [decide_eq_true h60] at h; simp at h
  · omega
theorem withF_keeps {d dq : Ds} {s : ByteArray} {id : Nat} (h : withF d s = (dq, id)) : dq.ws = d.ws ∧ dq.keep = d.keep ∧ (d.live → dq.live) := by
  unfold withF at h
  cases hf : d.find s with
  | none =>
    rw [hf] at h
    injection h with h1 h2
    subst h1
    refine ⟨rfl, rfl, fun hl x hx => ?_⟩
    obtain ⟨p, hp, e⟩ := hl x hx
    exact ⟨p, List.mem_append.2 (.inl hp), e⟩
  | some f =>
    rw [hf] at h
    injection h with h1 h2
    subst h1
    exact ⟨rfl, rfl, fun h => h⟩
/-- What Write leaves of a disk whose file is there. -/
def putD (d : Ds) (id j : Nat) (x : ByteArray) : Ds := { d with fs := updF d.fs id (putF j x), ws := d.ws ++ [⟨id, j, x⟩] }
theorem putD_live {d : Ds} {s : ByteArray} {f : Fl} (h : d.live) (hf : (s, f) ∈ d.fs) (j : Nat) (x : ByteArray) : (putD d f.id j x).live := fun y hy => by
  have hin : ∀ p ∈ d.fs, ∃ q ∈ updF d.fs f.id (putF j x), q.2.id = p.2.id := fun p hp => ⟨_, updF_in hp, by split <;> rfl⟩
  rcases List.mem_append.1 hy with hy | hy
  · obtain ⟨p, hp, e⟩ := h y hy
    obtain ⟨q, hq, e2⟩ := hin p hp
    exact ⟨q, hq, e2.trans e⟩
  · obtain ⟨q, hq, e2⟩ := hin _ hf
    exact ⟨q, hq, by rw [e2, List.mem_singleton.1 hy]⟩
theorem putD_eq {d : Ds} {s : ByteArray} {f : Fl} (ok : d.ok) (hf : (s, f) ∈ d.fs) {xs : List ByteArray} {j : Nat} {x : ByteArray} (h : xs.set j x = putSec f.now j x) :
    ({ d with fs := updF (updF d.fs f.id (nowX xs)) f.id (nowX (xs.set j x)), ws := d.ws ++ [⟨f.id, j, x⟩] } : Ds) = putD d f.id j x := by
  unfold putD
  rw [updF_updF d.fs f.id (nowX xs) (nowX (xs.set j x)) (fun _ => rfl)]
  rw [updF_congr (g' := putF j x) fun p hp e => by
    rw [only_f ok hf hp e]
    unfold nowX putF
    rw [h]]
set_option maxRecDepth 100000 in
set_option maxHeartbeats 8000000 in
theorem dwrite_any {base : Nat} {d : Ds} {m : DM} (s : ByteArray) (pos : Int) (x : ByteArray) (w : World) (h : DiskAt w base d m) (hf : d.fine) (hbase : base ≤ w.heap.size) (hxs : x.size ≤ 281474976710656) :
    Calls Try.prog 16 #[.pointer (some ⟨m.g, 0, none⟩), .string s, .int .i64 pos, .string x] w fun e w' => e = .returned (.int .i64 (writeD d s pos x).1) ∧ DidD w base d m (writeD d s pos x).2 w' := by
  have ba : Below w.heap.size w (w.alloc (.cells #[.string s] 9)) := (Below.refl _ _).alloc (Nat.le_refl _) _
  have h1 := h.below ba
  have R1 := Rd.one w (.string s) 9
  obtain ⟨e0, he⟩ : ∃ e0, mayD d s = e0 := ⟨_, rfl⟩
  have HMAY := Lib.hid (dmay_one he w.heap.size 1 _ h1 R1)
  have c0 : (w.alloc (.cells #[.string s] 9)).cell? ⟨m.g, 0, none⟩ = some (.map (some m.bm)) := h1.blk.cell 0
  have HMAP := Lib.hid h1.map
  have HB := Lib.hid ba
  have H1 := Lib.hid h1
  by_cases hz : e0 = 0
  · subst hz
    have hs := mayD_size he
    have hs1 : s.size ≤ maxLen := by unfold maxLen; omega
    have HS1 := Lib.hid hs1
    have HS := Lib.hid hs
    obtain ⟨pv, isb, N, hfo, hN⟩ := found d m s
    have HFO := Lib.hid hfo
    have hwd : writeD d s pos x = if x.size ≠ 256 then (1, d) else if pos < 0 ∨ (N : Int) < pos ∨ 4000 < pos then (15, d) else if fitsD d s pos = false then (20, d) else
        let q := withF (goesD d).2 s
        let d2 : Ds := { q.1 with fs := updF q.1.fs q.2 (putF pos.toNat x), ws := q.1.ws ++ [⟨q.2, pos.toNat, x⟩] }
        if (goesD d).1 then fallD d2 else (0, d2) := by
      unfold writeD; rw [he, if_neg (by decide), hN]
    have HWD := Lib.hid hwd
    have HF := Lib.hid hf
    clear h h1 he R1 hwd hs hs1 ba hN hf hfo
    go_enter Try.func16, Try.ntmps16
    go_upto_if 30 with (first
      | (go_at_call 32; refine HMAY.out.mono ?_; rintro e w1 ⟨rfl, hw⟩; subst hw)
      | (at_lookup; refine wpList_look_any rfl _ _ rfl rfl rfl HMAP.out HS1.out HFO.out ?_))
    go_cut [12] (fun u12 wx => u12 = .int .i64 N ∧ Hid (DiskAt wx base d m) ∧ Hid (Below w.heap.size w wx))
    case first =>
      rcases HFO.out with ⟨hfd, rfl, rfl, rfl⟩ | ⟨f, hfd, rfl, rfl, rfl⟩
      · go_wp2
        go_meet
        case rel => exact ⟨rfl, H1, HB⟩
      · have F1 := H1.out.fs _ (Ds.find_mem hfd)
        obtain ⟨A, c, hv, _⟩ := own_form F1.ol
        have k0 : (w.alloc (.cells #[.string s] 9)).cell? ⟨m.ρ f.id, 0, none⟩ = some (.slice A f.now.length c) := by rw [← hv]; exact F1.blk.cell 0
        clear F1 hv hfd
        go_wp2
        go_meet
        case rel => exact ⟨rfl, H1, HB⟩
    case rest =>
      obtain ⟨rfl, HD, HBX⟩ := hcut
      have HT0 := Lib.hid ((Turn.refl (mineD d m) w).step HBX.out)
      by_cases hx6 : x.size = 256
      · have hxb : ((x.size : Int) != 256) = false := by rw [hx6]; rfl
        have hwd2 := HWD.out
        rw [if_neg (by omega)] at hwd2
        by_cases hr : pos < 0 ∨ (N : Int) < pos ∨ 4000 < pos
        · rw [if_pos hr] at hwd2
          have HV := Lib.hid hwd2
          clear hwd2 hx6 HWD
          by_cases hlo : pos < 0
          · clear hr
            go_wp2
            go_ret
            exact ⟨by (rw [HV.out]) <;> rfl, by rw [HV.out]; exact ⟨m, rfl, HD.out, HT0.out⟩⟩
          · by_cases hn : (N : Int) < pos
            · have hlo' : 0 ≤ pos := by omega
              clear hr hlo
              go_wp2
              go_ret
              exact ⟨by (rw [HV.out]) <;> rfl, by rw [HV.out]; exact ⟨m, rfl, HD.out, HT0.out⟩⟩
            · have hlo' : 0 ≤ pos := by omega
              have hn' : pos ≤ (N : Int) := by omega
              have h4 : 4000 < pos := by omega
              clear hr hlo hn
              go_wp2
              go_ret
              exact ⟨by (rw [HV.out]) <;> rfl, by rw [HV.out]; exact ⟨m, rfl, HD.out, HT0.out⟩⟩
        · rw [if_neg hr] at hwd2
          obtain ⟨j, rfl⟩ : ∃ j : Nat, pos = j := ⟨pos.toNat, by omega⟩
          have hj0 : 0 ≤ (j : Int) := by omega
          have hjN : (j : Int) ≤ (N : Int) := by omega
          have hj4 : (j : Int) ≤ 4000 := by omega
          clear hr
          have HFI := Lib.hid (dfits_any (j : Int) wc HD.out HFO.out)
          cases hfi : fitsD d s (j : Int)
          · rw [hfi] at HFI hwd2
            rw [if_pos rfl] at hwd2
            have HV := Lib.hid hwd2
            clear hwd2 hx6 HWD hfi
            go_wp2_with (go_at_call 33; refine HFI.out.mono ?_; rintro e w1 ⟨rfl, b1⟩)
            go_ret
            exact ⟨by (rw [HV.out]) <;> rfl, by rw [HV.out]; exact ⟨m, rfl, HD.out.below b1, HT0.out.step b1⟩⟩
          · rw [hfi] at HFI hwd2
            rw [if_neg (by decide), Int.toNat_natCast] at hwd2
            have HFEW := Lib.hid (fits_few hfi)
            have HRD := Lib.hid HF.out.rd
            have hwl : (goesD d).2.ws.length ≤ 900000 := by rw [goes_ws]; exact HF.out.ws
            have hkl : (goesD d).2.keep.length ≤ 1000000 := by rw [goes_keep]; have := HF.out.keep; omega
            have hgl := live_goes HF.out.live
            have hgf : (goesD d).2.fs = d.fs := goes_fs d
            have hfd1 : (goesD d).2.find s = d.find s := by unfold Ds.find; rw [hgf]
            obtain ⟨gb, hgb⟩ : ∃ gb, gb = (goesD d).1 := ⟨_, rfl⟩
            obtain ⟨d1, hd1⟩ : ∃ d1, d1 = (goesD d).2 := ⟨_, rfl⟩
            have HGO : Hid (∀ w, DiskAt w base d m → Calls Try.prog 34 #[.pointer (some ⟨m.g, 0, none⟩)] w fun e w' => e = .returned (.bool gb) ∧ DiskAt w' base d1 m ∧ Turn (mineD d m) w (mineD d1 m) w') := fun w h => by
              have := dgoes_any w h HRD.out
              rw [← hgb, ← hd1] at this; exact this
            rw [← hd1] at hwl hkl hgl hgf hfd1 hwd2
            rw [← hgb] at hwd2
            have HWL := Lib.hid (And.intro hwl hkl)
            have HGL := Lib.hid hgl
            have HFD := Lib.hid hfd1
            have HGF := Lib.hid hgf
            have HV := Lib.hid hwd2
            have HX6 := Lib.hid hx6
            clear hwd2 hx6 HWD hfi hwl hkl hgl hgf hfd1 hgb hd1
            go_upto_if 62 with (first
              | (go_at_call 33; refine HFI.out.mono ?_; rintro e w1 ⟨rfl, b1⟩
                 have D1 := HD.out.below b1
                 have HT1 := Lib.hid (HT0.out.step b1))
              | (go_at_call 34; refine (HGO.out _ D1).mono ?_; rintro e w2 ⟨rfl, D2, T2⟩
                 have HD2 := Lib.hid D2
                 have HT2 := Lib.hid (HT1.out.trans T2)))
            obtain ⟨dq, idq, hq⟩ : ∃ dq idq, withF d1 s = (dq, idq) := ⟨_, _, rfl⟩
            have HQ := Lib.hid hq
            rw [hq] at HV
            simp only at HV
            clear hq D1 D2 T2
            go_cut [10] (fun u10 wx => ∃ (mq : DM) (f : Fl), u10 = .pointer (some ⟨mq.ρ f.id, 0, none⟩) ∧ Hid (DiskAt wx base dq mq) ∧ Hid (mq.g = m.g) ∧ Hid (Turn (mineD d m) w (mineD dq mq) wx) ∧ Hid ((s, f) ∈ dq.fs) ∧ Hid (f.id = idq) ∧ Hid (f.now.length = N))
            case first =>
              rcases HFO.out with ⟨hfd, rfl, rfl, hN0⟩ | ⟨f, hfd, rfl, rfl, hfN⟩
              · have HN0 := Lib.hid hN0
                have hq := HQ.out
                unfold withF at hq
                rw [HFD.out, hfd] at hq
                simp only at hq
                injection hq with hq1 hq2
                subst hq1 hq2
                have HNO := Lib.hid (Ds.find_none (d := d1) (s := s) (by rw [HFD.out]; exact hfd))
                have few := HFEW.out hfd
                rw [← HGF.out] at few
                have HFW := Lib.hid few
                have ca : Below w2.heap.size w2 (w2.alloc (.cells #[.slice none 0 0, .slice none 0 0, .bool false] 58)) := (Below.refl _ _).alloc (Nat.le_refl _) _
                have KB := Lib.hid (Blk.new w2 58 #[.slice none 0 0, .slice none 0 0, .bool false])
                have DA := HD2.out.below ca
                have ca0 : (w2.alloc (.cells #[.slice none 0 0, .slice none 0 0, .bool false] 58)).cell? ⟨m.g, 0, none⟩ = some (.map (some m.bm)) := DA.blk.cell 0
                have HMA := Lib.hid DA.map
                have HCA := Lib.hid ca
                have HDA := Lib.hid DA
                clear hfd few DA hN0
                go_upto_region 17 with fail
                have HLN : Hid ((namesD d1 m).length < 1000) := by
                  have := HFW.out
                  have h2 : (namesD d1 m).length = d1.fs.length := by unfold namesD; rw [List.length_map]
                  unfold Hid; omega
                generalize w2.alloc (.cells #[.slice none 0 0, .slice none 0 0, .bool false] 58) = WA at KB HMA HCA HDA ca0 ⊢
                have bd : Below WA.heap.size WA WA.drew := (Below.refl _ _).drew
                have ca1 : WA.drew.cell? ⟨m.g, 0, none⟩ = some (.map (some m.bm)) := ca0
                have HCL := Lib.hid (sclone_any s WA.drew (by have := HS1.out; have := HS.out.1; omega))
                go_region_law (first
                  | ((try go_simp); go_at_call 35; with_reducible refine HCL.out.mono ?_; rintro e w9 ⟨rfl, b9⟩
                     have c9 : w9.cell? ⟨m.g, 0, none⟩ = some (.map (some m.bm)) := cell_b b9 ca1
                     obtain ⟨w10, D10, hrun10, hm10, hg10⟩ := ((HMA.out.below bd).below b9).store_run HS1.out HLN.out w2.heap.size))
                all_goals
                  have hsA := HCA.out.size
                  have hb9 : Below w2.heap.size w2 w9 := HCA.out.trans ((bd.mono hsA).trans (b9.mono hsA))
                  have F10 : Frm (fun q => q = m.bm) w9 w10 := (Frm.refl (fun q => q = m.bm) _).grown hg10 fun k hk _ => by injection hk with hk; exact hk.symm
                  have HX := Lib.hid (HD2.out.add (s := s) HNO.out HFW.out ⟨HS.out.2.1, HS.out.1⟩ hb9 (by have := HT2.out.frm.size; omega) ((KB.out.below bd).below b9) (Nat.le_refl _) hm10 F10)
                  go_wp2
                  go_meet
                  case rel => exact ⟨newR m d1.next w2.heap.size D10, ⟨d1.next, [], [], false⟩, by simp [newR], HX.out.1, rfl, HT2.out.trans HX.out.2, List.mem_append.2 (.inr (by simp)), rfl, HN0.out.symm⟩
              · have hq := HQ.out
                unfold withF at hq
                rw [HFD.out, hfd] at hq
                simp only at hq
                injection hq with hq1 hq2
                subst hq1 hq2
                have HM : Hid ((s, f) ∈ d1.fs) := by unfold Hid; rw [HGF.out]; exact Ds.find_mem hfd
                have HN := Lib.hid hfN
                clear hfd hfN
                go_wp2
                go_meet
                case rel => exact ⟨m, f, rfl, HD2.out, rfl, HT2.out, HM.out, rfl, HN.out.symm⟩
            case rest =>
              obtain ⟨mq, f, rfl, HDQ, HG, HTQ, HM, HID, HNW⟩ := hcut
              clear HFO HFI HT1 HT2 HD2 HT0 HD HBX HMAP HMAY HB H1 c0
              obtain ⟨k1, k2, k3⟩ := withF_keeps HQ.out
              have hlq := k3 HGL.out
              have hwq : dq.ws.length ≤ 900000 := by rw [k1]; exact HWL.out.1
              have hkq : dq.keep.length ≤ 1000000 := by rw [k2]; exact HWL.out.2
              have HLQ := Lib.hid (And.intro hlq (And.intro hwq hkq))
              have hid : idq = f.id := HID.out.symm
              subst hid
              change Hid (writeD d s (j : Int) x = if gb = true then fallD (putD dq f.id j x) else (0, putD dq f.id j x)) at HV
              clear k1 k2 k3 hlq hwq hkq HQ HID HWL HGL HFEW HFD HGF HGO HRD
              have hsz : w.heap.size ≤ wc.heap.size := HTQ.out.frm.size
              have HCX := Lib.hid (sclone_any x wc hxs)
              have hn4 : N ≤ 4001 := by rw [← HNW.out]; exact (HDQ.out.ok.now _ HM.out).1
              obtain ⟨i0, hi0, hz0, hz1, hz2⟩ := info_parts strInfoD
              obtain ⟨iw, hiw, hw0, hw1, hw2⟩ := info_parts wrInfo
              go_upto_if 76 with (first
                | (go_at_call 35; refine HCX.out.mono ?_; rintro e w11 ⟨rfl, b11⟩
                   have D11 := HDQ.out.below b11
                   have s11 := b11.size
                   have HT11 := Lib.hid (HTQ.out.step b11)
                   have HD11 := Lib.hid D11))
              go_cut [8] (fun u8 wx => ∃ (m2 : DM) (xs : List ByteArray), u8 = .int .i64 0 ∧ w.heap.size ≤ wx.heap.size ∧ Hid (DiskAt wx base { dq with fs := updF dq.fs f.id (nowX xs) } m2) ∧ Hid (m2.g = m.g) ∧ Hid (m2.ρ = mq.ρ) ∧ Hid (Turn (mineD d m) w (mineD { dq with fs := updF dq.fs f.id (nowX xs) } m2) wx) ∧ Hid (j < xs.length ∧ xs.set j x = putSec f.now j x ∧ xs.length ≤ 4001))
              case first =>
                by_cases hjn : j = N
                · have hjb : decide ((j : Int) = (N : Int)) = true := by rw [hjn]; simp
                  have hjb2 : ((j : Int) == (N : Int)) = true := by rw [hjn]; simp
                  have HJN := Lib.hid hjn
                  have F11 := D11.fs _ HM.out
                  obtain ⟨v0, hv0⟩ : ∃ v0, mq.R f.id true = v0 := ⟨_, rfl⟩
                  have HV0 := Lib.hid hv0
                  have y0 : w11.cell? ⟨mq.ρ f.id, 0, none⟩ = some v0 := by rw [← hv0]; exact F11.blk.cell 0
                  have HO := Lib.hid (show w11.ownsRow base 9 1 v0 N (strs f.now) by have := F11.ol; simp only at this; rw [hv0, HNW.out] at this; exact this)
                  have HB11 := Lib.hid F11.blk
                  have ba11 : Below w11.heap.size w11 (w11.alloc (.cells #[.string x] 9)) := (Below.refl _ _).alloc (Nat.le_refl _) _
                  have y0a : (w11.alloc (.cells #[.string x] 9)).cell? ⟨mq.ρ f.id, 0, none⟩ = some v0 := cell_b ba11 y0
                  have HBA := Lib.hid ba11
                  clear hv0 F11 D11 hjn
                  go_wp2_with (at_builtin
                               refine wpList_app rfl (.tmp 81) (.tmp 83) 32 rfl base 9 i0 _ 1 16 Try.underlying32 hi0 hz0 hz1 hz2 rfl (by omega) v0 N _ rfl (HO.out.alloc _) _ 1 1 [.string x] rfl (Rd.one _ _ _) rfl (by simp [Value.oneCell']) (by unfold maxLen; omega) (by omega) (by simp; omega) ?_
                               intro v6 w6 ho6 hg6 hb6 hat6
                               obtain ⟨A6, c6, rfl, hc6⟩ := own_form ho6
                               have B6 := (HB11.out.alloc (.cells #[.string x] 9)).frm ((Frm.refl (fun q => v0.ownBlock = some q) _).grown hg6 (fun k hk _ => hk)) (fun e => HB11.out.own_ne HO.out (by decide) e)
                               have g6 := B6.cell 0
                               have f6 := B6.free 0)
                  go_meet
                  case rel =>
                    have HX := HD11.out.grew (x := x) HM.out (by rw [HNW.out]; have := HJN.out; omega) HX6.out HBA.out (by rw [HNW.out]; exact ho6) (by rw [HV0.out]; exact hg6) (by rw [HV0.out]; exact hat6)
                    have hl := HX.2.frm.size
                    refine ⟨{ mq with R := setR mq.R f.id (.slice A6 (N + 1) c6) (mq.R f.id false) }, f.now ++ [x], rfl, by omega, HX.1, HG.out, rfl, HT11.out.trans HX.2, by rw [List.length_append, HNW.out, HJN.out]; simp, ?_, by rw [List.length_append, HNW.out]; simp; have := HJN.out; omega⟩
                    unfold putSec
                    have e1 : j = f.now.length := by rw [HNW.out]; exact HJN.out
                    rw [if_pos e1, e1, List.set_append_right _ _ (Nat.le_refl _), Nat.sub_self]; rfl
                · have hjb : decide ((j : Int) = (N : Int)) = false := by simp; omega
                  have hjb2 : ((j : Int) == (N : Int)) = false := by simp; omega
                  have HJN := Lib.hid hjn
                  clear D11 hjn
                  go_wp2
                  go_meet
                  case rel =>
                    have hsame : updF dq.fs f.id (nowX f.now) = dq.fs := updF_same fun p hp e => by rw [only_f HDQ.out.ok HM.out hp e]; rfl
                    refine ⟨mq, f.now, rfl, by omega, by rw [hsame]; exact HD11.out, HG.out, rfl, by rw [hsame]; exact HT11.out, by rw [HNW.out]; have := HJN.out; omega, ?_, by rw [HNW.out]; omega⟩
                    unfold putSec
                    rw [if_neg (by rw [HNW.out]; exact HJN.out)]
              case rest =>
                obtain ⟨m2, xs, rfl, hs2, HD2, HG2, HR2, HT2, HJX⟩ := hcut
                have HOKQ := Lib.hid HDQ.out.ok
                clear HD11 HT11 D11 HCX HDQ HTQ HG hsz
                have hM2 : (s, nowX xs f) ∈ updF dq.fs f.id (nowX xs) := by have := updF_in (id := f.id) (g := nowX xs) HM.out; rwa [if_pos rfl] at this
                have HM2 := Lib.hid hM2
                have F2 := HD2.out.fs _ hM2
                have F2' : FileAt wc base (mq.ρ f.id) (nowX xs f) (m2.R f.id true) (m2.R f.id false) := by rw [← HR2.out]; exact F2
                obtain ⟨n, hn⟩ : ∃ n, xs.length = n := ⟨_, rfl⟩
                have hjn := HJX.out.1
                have hn41 := HJX.out.2.2
                rw [hn] at hjn hn41
                have ho : wc.ownsRow base 9 1 (m2.R f.id true) n (strs xs) := by have := F2'.ol; rw [← hn]; exact this
                obtain ⟨gs, cc, hv, hbg, hlc⟩ := ho.form (by omega)
                obtain ⟨z, hz⟩ : ∃ z, xs[j]? = some z := ⟨_, List.getElem?_eq_getElem (by omega)⟩
                have y0 : wc.cell? ⟨mq.ρ f.id, 0, none⟩ = some (.slice (some ⟨gs, 0, none⟩) n cc) := by rw [← hv]; exact F2'.blk.cell 0
                rw [hv] at ho
                have y1 : wc.cell? ⟨gs, j, none⟩ = some (.string z) := by
                  have := ho.cells (g := gs) rfl j _ (strs_at hz)
                  rwa [add_flat, Nat.zero_add] at this
                have y2 := own_free ho j
                have HP := HD2.out.putat hM2 HX6.out hv hn hjn
                have hfx : (nowX xs f).id = f.id := rfl
                have hfn : (nowX xs f).now = xs := rfl
                rw [hfx, hfn] at HP
                obtain ⟨m3, hm3⟩ : ∃ m3 : DM, m3 = { m2 with R := setR m2.R f.id (m2.R f.id true) (m2.R f.id false) } := ⟨_, rfl⟩
                rw [← hm3] at HP
                have hg3 : m3.g = m.g := by rw [hm3]; exact HG2.out
                have hr3 : m3.ρ = mq.ρ := by rw [hm3]; exact HR2.out
                obtain ⟨W3, hW3⟩ : ∃ W3, W3 = wc.setCell ⟨gs, j, none⟩ (.string x) := ⟨_, rfl⟩
                rw [← hW3] at HP
                obtain ⟨d3, hd3⟩ : ∃ d3 : Ds, d3 = { dq with fs := updF (updF dq.fs f.id (nowX xs)) f.id (nowX (xs.set j x)) } := ⟨_, rfl⟩
                have HP' : DiskAt W3 base d3 m3 ∧ Turn (mineD { dq with fs := updF dq.fs f.id (nowX xs) } m2) wc (mineD d3 m3) W3 := by rw [hd3]; exact HP
                have ba3 : Below W3.heap.size W3 (W3.alloc (.cells #[.pointer (some ⟨mq.ρ f.id, 0, none⟩), .int .i64 j, .string x] 60)) := (Below.refl _ _).alloc (Nat.le_refl _) _
                have v0 : W3.cell? ⟨m.g, 1, none⟩ = some m3.vw := by rw [← hg3]; exact HP'.1.blk.cell 1
                have v1 := cell_b ba3 v0
                have hws3 : d3.ws = dq.ws := by rw [hd3]
                have HO3 := Lib.hid HP'.1.ow
                have hwl3 : d3.ws.length ≤ 900000 := by rw [hws3]; exact HLQ.out.2.1
                have hnx : f.id < dq.next := HD2.out.ok.next _ hM2
                have hnx3 : f.id < d3.next := by rw [hd3]; exact hnx
                have hsW : w.heap.size ≤ W3.heap.size := by have := HP'.2.frm.size; omega
                have HPP := Lib.hid HP'
                have HBA3 := Lib.hid ba3
                have HG3 := Lib.hid hg3
                have HR3 := Lib.hid hr3
                have HY : Hid ((⟨f.id, j, x⟩ : Wr).pos ≤ 4000 ∧ (⟨f.id, j, x⟩ : Wr).data.size = 256 ∧ (⟨f.id, j, x⟩ : Wr).id < d3.next) := ⟨by show j ≤ 4000; omega, HX6.out, hnx3⟩
                have HEQ : Hid (({ d3 with ws := d3.ws ++ [⟨f.id, j, x⟩] } : Ds) = putD dq f.id j x) := by
                  unfold Hid
                  rw [hws3, hd3]
                  exact putD_eq HOKQ.out HM.out HJX.out.2.1
                have HLP := Lib.hid (putD_live HLQ.out.1 HM.out j x)
                subst hW3
                clear F2 F2' ho hv hz hM2 HP HP' hm3 hd3 hws3 hnx hnx3 hn
                have HRN : Hid (Rd ((wc.setCell ⟨gs, j, none⟩ (.string x)).alloc (.cells #[.pointer (some ⟨mq.ρ f.id, 0, none⟩), .int .i64 j, .string x] 60)) (some ⟨wc.heap.size, 0, none⟩) [.pointer (some ⟨mq.ρ f.id, 0, none⟩), .int .i64 j, .string x]) := by
                  have := Rd.new (wc.setCell ⟨gs, j, none⟩ (.string x)) #[.pointer (some ⟨mq.ρ f.id, 0, none⟩), .int .i64 j, .string x] 60
                  unfold Hid
                  simpa using this
                rcases gb with _ | _
                · go_wp2_with (at_builtin
                               refine wpList_app rfl (.tmp 98) (.tmp 103) 47 rfl base 60 iw _ 3 32 Try.underlying47 hiw hw0 hw1 hw2 rfl (by omega) m3.vw d3.ws.length _ rfl (HO3.out.alloc _) _ 1 1 [.pointer (some ⟨mq.ρ f.id, 0, none⟩), .int .i64 j, .string x] rfl HRN.out rfl (by simp [Value.oneCell']) (by unfold maxLen; omega) (by omega) (by simp at hsW ⊢; omega) ?_
                               intro v6 w6 ho6 hg6 hb6 hat6
                               have ho7 : w6.ownsRow base 60 3 v6 (d3.ws.length + 1) (flatW m3.ρ d3.ws ++ wcells m3.ρ ⟨f.id, j, x⟩) := by (have := ho6); rw [HR3.out] at this ⊢; exact this
                               have HW := HPP.out.1.wrote HY.out HBA3.out ho7 hg6 hat6
                               obtain ⟨A6, c6, rfl, hc6⟩ := own_form ho6
                               have B6 : Blk w6 m.g 49 (cellsD d3 m3) := by rw [← HG3.out]; exact (HPP.out.1.blk.alloc _).frm ((Frm.refl (fun q => m3.vw.ownBlock = some q) _).grown hg6 (fun k hk _ => hk)) (fun e => HPP.out.1.blk.own_ne HPP.out.1.ow (by decide) e)
                               have g6 := B6.cell 1
                               have f6 := B6.free 1
                               rw [HEQ.out, HG3.out] at HW
                               have HWW := Lib.hid HW
                               clear HW ho6 ho7)
                  go_ret
                  exact ⟨by (rw [HV.out]) <;> rfl, by
                    rw [HV.out]
                    exact ⟨{ g := m.g, bm := m3.bm, D := m3.D, ρ := m3.ρ, R := m3.R, vw := .slice A6 (d3.ws.length + 1) c6, vk := m3.vk }, rfl, HWW.out.1, HT2.out.trans (HPP.out.2.trans HWW.out.2)⟩⟩
                · have HLQ2 : Hid ((putD dq f.id j x).ws.length ≤ 1000000 ∧ (putD dq f.id j x).keep.length ≤ 1000000) := ⟨by show (dq.ws ++ [_]).length ≤ 1000000; rw [List.length_append]; have := HLQ.out.2.1; simp; omega, HLQ.out.2.2⟩
                  go_wp2_with (first
                    | (at_builtin
                       refine wpList_app rfl (.tmp 98) (.tmp 103) 47 rfl base 60 iw _ 3 32 Try.underlying47 hiw hw0 hw1 hw2 rfl (by omega) m3.vw d3.ws.length _ rfl (HO3.out.alloc _) _ 1 1 [.pointer (some ⟨mq.ρ f.id, 0, none⟩), .int .i64 j, .string x] rfl HRN.out rfl (by simp [Value.oneCell']) (by unfold maxLen; omega) (by omega) (by simp at hsW ⊢; omega) ?_
                       intro v6 w6 ho6 hg6 hb6 hat6
                       have ho7 : w6.ownsRow base 60 3 v6 (d3.ws.length + 1) (flatW m3.ρ d3.ws ++ wcells m3.ρ ⟨f.id, j, x⟩) := by (have := ho6); rw [HR3.out] at this ⊢; exact this
                       have HW := HPP.out.1.wrote HY.out HBA3.out ho7 hg6 hat6
                       obtain ⟨A6, c6, rfl, hc6⟩ := own_form ho6
                       have B6 : Blk w6 m.g 49 (cellsD d3 m3) := by rw [← HG3.out]; exact (HPP.out.1.blk.alloc _).frm ((Frm.refl (fun q => m3.vw.ownBlock = some q) _).grown hg6 (fun k hk _ => hk)) (fun e => HPP.out.1.blk.own_ne HPP.out.1.ow (by decide) e)
                       have g6 := B6.cell 1
                       have f6 := B6.free 1
                       rw [HEQ.out, HG3.out] at HW
                       have HWW := Lib.hid HW
                       clear HW ho6 ho7)
                    | (go_at_call 36; refine (dfall_any _ (m := { g := m.g, bm := m3.bm, D := m3.D, ρ := m3.ρ, R := m3.R, vw := .slice A6 (d3.ws.length + 1) c6, vk := m3.vk }) HWW.out.1 HLP.out HLQ2.out.1 HLQ2.out.2).mono ?_; rintro e w15 ⟨rfl, D15⟩))
                  go_ret
                  exact ⟨by (rw [HV.out]) <;> rfl, by
                    rw [HV.out]
                    exact DidD.trans (m1 := { g := m.g, bm := m3.bm, D := m3.D, ρ := m3.ρ, R := m3.R, vw := .slice A6 (d3.ws.length + 1) c6, vk := m3.vk }) rfl (HT2.out.trans (HPP.out.2.trans HWW.out.2)) D15⟩
      · have hxb : ((x.size : Int) != 256) = true := by simp; omega
        have HV : Hid (writeD d s pos x = (1, d)) := by unfold Hid; rw [HWD.out, if_pos hx6]
        clear hx6 HWD
        go_wp2
        go_ret
        exact ⟨by (rw [HV.out]) <;> rfl, by rw [HV.out]; exact ⟨m, rfl, HD.out, HT0.out⟩⟩
  · have HV : Hid (writeD d s pos x = (e0, d)) := by unfold Hid writeD; rw [he, if_pos hz]
    have hz' : (e0 != 0) = true := by simpa using hz
    clear h h1 he R1 hf
    go_enter Try.func16, Try.ntmps16
    go_wp2_with (go_at_call 32; refine HMAY.out.mono ?_; rintro e w1 ⟨rfl, hw⟩; subst hw)
    go_ret
    exact ⟨by (rw [HV.out]) <;> rfl, by rw [HV.out]; exact ⟨m, rfl, H1.out, (Turn.refl _ _).step HB.out⟩⟩
end Go.Proofs.Ytfgpadikmnhldaa
