/-
  A disk's Twin: another disk that is the same in all. Conditions: it is a disk, each write's file is there.
-/
import Derived.Test.YtfgpadikmnhldaaTwM
import Derived.Test.YtfgpadikmnhldaaDiskVA
import Derived.Test.YtfgpadikmnhldaaRegOne
import Derived.Deep.CutBlock
namespace Go.Proofs.Ytfgpadikmnhldaa
open Go Go.RowKit Go.MapKept
attribute [local go_sem] cell_set_if

set_option maxRecDepth 100000 in
set_option maxHeartbeats 4000000 in
theorem dtwin_any {base : Nat} {d : Ds} {m : DM} (w : World) (h : DiskAt w base d m) (hf : d.fine) :
    Calls Try.prog 8 #[.pointer (some ⟨m.g, 0, none⟩)] w fun e w' => ∃ m' : DM, e = .returned (.pointer (some ⟨m'.g, 0, none⟩)) ∧ DiskAt w' w.heap.size d m' ∧ Below w.heap.size w w' := by
  obtain ⟨Ak, ck, hvk, _⟩ := own_form h.ok_
  have hrk : Rd w Ak (flatZ d.keep) := by have := h.ok_; rw [hvk] at this; exact Rd.of_own this
  have hmk := fun w' => run_makeMap (P := Try.prog) 46 w'
  have c0 : w.drew.cell? ⟨m.g, 0, none⟩ = some (.map (some m.bm)) := h.blk.cell 0
  have c2 : w.drew.cell? ⟨m.g, 2, none⟩ = some (.bool d.off) := h.blk.cell 2
  have c3 : w.drew.cell? ⟨m.g, 3, none⟩ = some (.int .i64 d.room) := h.blk.cell 3
  have c4 : w.drew.cell? ⟨m.g, 4, none⟩ = some (.bool d.armed) := h.blk.cell 4
  have c5 : w.drew.cell? ⟨m.g, 5, none⟩ = some (.int .i64 d.left) := h.blk.cell 5
  have c6 : w.drew.cell? ⟨m.g, 6, none⟩ = some (.slice Ak d.keep.length ck) := by rw [← hvk]; exact h.blk.cell 6
  have H := Lib.hid h
  have HF := Lib.hid hf
  have HRK := Lib.hid hrk
  have HG := Lib.hid h.blk.lt
  have HQ : Hid (∀ w', Below w.heap.size w w' → w'.cell? ⟨m.g, 2, none⟩ = some (.bool d.off) ∧ w'.cell? ⟨m.g, 3, none⟩ = some (.int .i64 d.room) ∧ w'.cell? ⟨m.g, 4, none⟩ = some (.bool d.armed) ∧ w'.cell? ⟨m.g, 5, none⟩ = some (.int .i64 d.left) ∧ w'.cell? ⟨m.g, 6, none⟩ = some (.slice Ak d.keep.length ck)) := fun _ hb => by
    have hB := h.blk.below hb
    refine ⟨hB.cell 2, hB.cell 3, hB.cell 4, hB.cell 5, ?_⟩
    rw [← hvk]; exact hB.cell 6
  have HCL : Hid (∀ w', Below w.heap.size w w' → Calls Try.prog 25 #[.slice Ak d.keep.length ck] w' fun e w'' => (∃ B q, e = .returned (.slice B d.keep.length q) ∧ w''.ownsRow w'.heap.size 3 1 (.slice B d.keep.length q) d.keep.length (flatZ d.keep)) ∧ Below w'.heap.size w' w'') := fun w' hb => cloneZ_any w' Ak d.keep.length ck d.keep (hrk.below hb) rfl (by have := hf.keep; omega)
  have Q0 := HQ.out w.drew (Below.refl _ _).drew
  clear h hf hrk
  go_enter Try.func8, Try.ntmps8
  go_upto_region 3 with (fail)
  go_cut [3] (fun u3 wx => ∃ (g bm : Nat) (vk : Value), u3 = .pointer (some ⟨g, 0, none⟩) ∧ Hid (DiskAt wx w.heap.size (tD d [] []) ⟨g, bm, .map [], fun _ => 0, fun _ _ => .slice none 0 0, .slice none 0 0, vk⟩) ∧ Hid (Below w.heap.size w wx))
  case first =>
    have bm1 : Below w.heap.size w (w.alloc (.map #[] 0)).drew := ((Below.refl _ _).alloc (Nat.le_refl _) _).drew
    have bd1 : Below w.heap.size w w.drew := (Below.refl _ _).drew
    have Qm := HQ.out _ bm1
    have hclA := HCL.out _ bm1
    have hclB := HCL.out _ bd1
    have hm1 := (MapAt.made w).below (w' := (w.alloc (.map #[] 0)).drew) (Below.refl _ _).drew
    have HM1 := Lib.hid hm1
    have HB1 := Lib.hid bm1
    have HBD := Lib.hid bd1
    clear bm1 hm1 bd1
    go_region_held3 (fun w' => w'.cell? ⟨m.g, 2, none⟩ = some (.bool d.off) ∧ w'.cell? ⟨m.g, 3, none⟩ = some (.int .i64 d.room) ∧ w'.cell? ⟨m.g, 4, none⟩ = some (.bool d.armed) ∧ w'.cell? ⟨m.g, 5, none⟩ = some (.int .i64 d.left) ∧ w'.cell? ⟨m.g, 6, none⟩ = some (.slice Ak d.keep.length ck))
      (first | with_reducible exact Q0 | with_reducible exact Qm | with_reducible exact Q2 | with_reducible exact Q3 | with_reducible exact Q2m)
      (first
        | (go_at_call 25; (with_reducible refine hclA.mono ?_); rintro e w2 ⟨⟨Bk, qk, rfl, ho2⟩, b2⟩
           have mA := True.intro
           have B2 := HB1.out.trans (b2.mono HB1.out.size)
           have Q2 := HQ.out w2 B2
           have M2 := Lib.hid (HM1.out.below b2)
           have Q3 := HQ.out _ (B2.alloc B2.size (.cells #[.map (some w.heap.size), .slice none 0 0, .bool d.off, .int .i64 d.room, .bool d.armed, .int .i64 d.left, .slice Bk d.keep.length qk] 49))
           have HLO : Hid (w.heap.size ≤ w.heap.size) := Nat.le_refl _
           have HBL : Hid (w.heap.size ≤ (w.alloc (.map #[] 0)).drew.heap.size) := HB1.out.size
           have HO2 := Lib.hid ho2
           clear ho2 b2)
        | (go_at_call 25; (with_reducible refine hclB.mono ?_); rintro e w2 ⟨⟨Bk, qk, rfl, ho2⟩, b2⟩
           have mB := True.intro
           have B2 := HBD.out.trans (b2.mono HBD.out.size)
           have Q2 := HQ.out w2 B2
           have ba := B2.alloc B2.size (.map #[] 0)
           have Q2m := HQ.out _ ba
           have M2 := Lib.hid (MapAt.made w2)
           have Q3 := HQ.out _ (ba.alloc ba.size (.cells #[.map (some w2.heap.size), .slice none 0 0, .bool d.off, .int .i64 d.room, .bool d.armed, .int .i64 d.left, .slice Bk d.keep.length qk] 49))
           have HLO : Hid (w.heap.size ≤ w2.heap.size) := B2.size
           have HBL : Hid (w.heap.size ≤ w.drew.heap.size) := Nat.le_refl _
           have HO2 := Lib.hid (ho2.alloc (.map #[] 0))
           have HBX := Lib.hid ba
           clear ho2 b2 ba))
    all_goals first
      | (have := mA
         (
         have K3 := Blk.new w2 49 #[.map (some w.heap.size), .slice none 0 0, .bool d.off, .int .i64 d.room, .bool d.armed, .int .i64 d.left, .slice Bk d.keep.length qk]
         have b3 : Below w2.heap.size w2 (w2.alloc (.cells #[.map (some w.heap.size), .slice none 0 0, .bool d.off, .int .i64 d.room, .bool d.armed, .int .i64 d.left, .slice Bk d.keep.length qk] 49)) := (Below.refl _ _).alloc (Nat.le_refl _) _
         have HD3 : Hid (DiskAt (w2.alloc (.cells #[.map (some w.heap.size), .slice none 0 0, .bool d.off, .int .i64 d.room, .bool d.armed, .int .i64 d.left, .slice Bk d.keep.length qk] 49)) w.heap.size (tD d [] []) ⟨w2.heap.size, w.heap.size, .map [], fun _ => 0, fun _ _ => .slice none 0 0, .slice none 0 0, .slice Bk d.keep.length qk⟩) :=
           DiskAt.start d H.out.ok K3 B2.size HLO.out (M2.out.below b3) (own_base (HO2.out.alloc _) HBL.out)
         have HB3 := Lib.hid (B2.alloc B2.size (.cells #[.map (some w.heap.size), .slice none 0 0, .bool d.off, .int .i64 d.room, .bool d.armed, .int .i64 d.left, .slice Bk d.keep.length qk] 49))
         clear K3 b3 Q2 Q3 B2 hclA hclB Q0 Qm
         go_wp2
         go_meet
         case rel => exact ⟨w2.heap.size, w.heap.size, _, rfl, HD3, HB3⟩))
      | (have := mB
         (
         have K3 := Blk.new (w2.alloc (.map #[] 0)) 49 #[.map (some w2.heap.size), .slice none 0 0, .bool d.off, .int .i64 d.room, .bool d.armed, .int .i64 d.left, .slice Bk d.keep.length qk]
         have b3 : Below (w2.alloc (.map #[] 0)).heap.size (w2.alloc (.map #[] 0)) ((w2.alloc (.map #[] 0)).alloc (.cells #[.map (some w2.heap.size), .slice none 0 0, .bool d.off, .int .i64 d.room, .bool d.armed, .int .i64 d.left, .slice Bk d.keep.length qk] 49)) := (Below.refl _ _).alloc (Nat.le_refl _) _
         have HD3 : Hid (DiskAt ((w2.alloc (.map #[] 0)).alloc (.cells #[.map (some w2.heap.size), .slice none 0 0, .bool d.off, .int .i64 d.room, .bool d.armed, .int .i64 d.left, .slice Bk d.keep.length qk] 49)) w.heap.size (tD d [] []) ⟨(w2.alloc (.map #[] 0)).heap.size, w2.heap.size, .map [], fun _ => 0, fun _ _ => .slice none 0 0, .slice none 0 0, .slice Bk d.keep.length qk⟩) :=
           DiskAt.start d H.out.ok K3 HBX.out.size HLO.out (M2.out.below b3) (own_base (HO2.out.alloc _) HBL.out)
         have HB3 := Lib.hid (HBX.out.alloc HBX.out.size (.cells #[.map (some w2.heap.size), .slice none 0 0, .bool d.off, .int .i64 d.room, .bool d.armed, .int .i64 d.left, .slice Bk d.keep.length qk] 49))
         clear K3 b3 Q2 Q3 B2 hclA hclB Q0 Qm
         go_wp2
         go_meet
         case rel => exact ⟨(w2.alloc (.map #[] 0)).heap.size, w2.heap.size, _, by simp, HD3, HB3⟩))
  case rest =>
    obtain ⟨g, bm, vk, rfl, HD, HB⟩ := hcut
    clear Q0 c0 c2 c3 c4 c5 c6
    have c0 : wc.cell? ⟨m.g, 0, none⟩ = some (.map (some m.bm)) := (H.out.below HB.out).blk.cell 0
    have HM := Lib.hid (H.out.below HB.out).map
    have hmk2 := run_makeMap (P := Try.prog) 54 wc
    have HPM0 := Lib.hid (PM.made wc)
    have ba : Below wc.heap.size wc (wc.alloc (.map #[] 0)) := (Below.refl _ _).alloc (Nat.le_refl _) _
    have HMA := Lib.hid (HM.out.below ba)
    have HDA := Lib.hid (HD.out.below ba)
    have HBA := Lib.hid (HB.out.trans (ba.mono HB.out.size))
    have hsz : (wc.alloc (.map #[] 0)).heap.size = wc.heap.size + 1 := by simp
    have hglt : m.g < wc.heap.size := Nat.lt_of_lt_of_le HG.out HB.out.size
    clear ba
    go_wp2_with (first
      | (at_range; refine wpList_rangeF rfl _ rfl rfl HMA.out ?_; intro w0 hrg0 hg0 hs0)
      | go_in)
    have ha0 : Below (wc.alloc (.map #[] 0)).heap.size (wc.alloc (.map #[] 0)) w0 := (Below.refl _ _).grown hg0 (Nat.le_refl _) (fun k hk => by cases hk)
    have hwc := HB.out.size
    have hbmlt : bm < wc.heap.size := HD.out.map.lt
    have hT0 : TwI d m (Maps.has m.D) [] ⟨g, bm, .map [], fun _ => 0, fun _ _ => .slice none 0 0, .slice none 0 0, vk⟩ wc.heap.size (wc.heap.size + 1) w w0 := by
      have hnone : fsL d (Maps.has m.D) = [] := fsL_none fun p hp => (HM.out.has p.1).2 ⟨_, List.mem_map.2 ⟨p, hp, rfl⟩⟩
      refine ⟨by rw [hnone]; exact HDA.out.below ha0, HPM0.out.below ha0, fun p hp => by rw [hnone] at hp; simp at hp, by simp, fun q hq => by simp at hq, HBA.out.trans (ha0.mono HBA.out.size), by omega, hwc, by omega, by omega, fun q hq => ?_⟩
      rw [hnone] at hq
      have := (HD.out.mine_lt q hq).2
      omega
    rw [hsz] at hrg0
    have HT0 := Lib.hid hT0
    have HBM := Lib.hid hbmlt
    clear hT0 ha0 hwc hbmlt hg0 hs0
    obtain ⟨r, hre⟩ : ∃ r, r = wc.heap.size + 1 := ⟨_, rfl⟩
    rw [← hre] at HT0 hrg0
    first | rw [← hre] | (rw [hsz, ← hre])
    obtain ⟨bt, hbte⟩ : ∃ bt, bt = wc.heap.size := ⟨_, rfl⟩
    rw [← hbte] at HT0 ⊢
    have HRE := Lib.hid hre
    have HBTE := Lib.hid hbte
    clear hre hbte hsz hmk hmk2 HMA HDA HPM0 HBA HCL HQ HRK
    go_frame
    go_loopw [5] (fun _ wr => ∃ (left : Lit → Bool) (cnt : Nat) (gg : List (Nat × Nat)) (Dk : DataW Unit) (ρk : Nat → Nat) (Rk : Nat → Bool → Value), Hid (TwI d m left gg ⟨g, bm, Dk, ρk, Rk, .slice none 0 0, vk⟩ bt r w wr) ∧ Hid (∀ k, left k = true → Maps.has m.D k = true) ∧ wr.ranges Try.prog 9 ptrR m.bm r (Maps.size m.D) m.D left cnt) (fun _ wr => wr.rangeLeft m.bm r)
    case atStart => exact ⟨_, _, _, _, _, _, HT0, fun k h => h, hrg0⟩
    case round =>
      obtain ⟨left, cnt, gg, Dk, ρk, Rk, HT, HL, hrg⟩ := hrel
      have hM := Lib.hid (H.out.below HT.out.below).map
      go_wp2_with (first
        | (at_next; refine wpList_nextF rfl _ rfl rfl hM.out hrg HL.out ?_ ?_)
        | go_in)
      · intro hno
        have hall : fsL d left = d.fs := fsL_all hno
        have hT := HT.out
        obtain ⟨Aw, cw, hvw, _⟩ := own_form H.out.ow
        have hwl := HF.out.ws
        have HVW := Lib.hid hvw
        have HDK : Hid (DiskAt wr w.heap.size (tD d d.fs []) ⟨g, bm, Dk, ρk, Rk, .slice none 0 0, vk⟩) := by have := hT.disk; rw [hall] at this; exact this
        have HHERE : Hid (∀ p ∈ d.fs, (m.ρ p.2.id, ρk p.2.id) ∈ gg) := fun p hp => hT.here p (by rw [hall]; exact hp)
        have HNE : Hid (∀ q, mineD (tD d d.fs []) ⟨g, bm, Dk, ρk, Rk, .slice none 0 0, vk⟩ q → q ≠ bt) := fun q hq => (hT.ne q (by rw [hall]; exact hq)).1
        have HND := Lib.hid hT.nd
        have HKEY : Hid (∀ q ∈ gg, q.1 < w.heap.size) := fun q hq => by
          obtain ⟨p, hp, e⟩ := hT.only q hq
          rw [e]; exact (H.out.fs p ((fsL_sub d left).subset hp)).blk.lt
        have HPM := Lib.hid hT.pm
        have HBW := Lib.hid hT.below
        have HBG := Lib.hid hT.bge
        have HBMX : Hid (w.heap.size ≤ g) := hT.disk.lo
        have hgw := H.out.blk.below hT.below
        have c1 : wr.cell? ⟨m.g, 1, none⟩ = some (.slice Aw d.ws.length cw) := by rw [← hvw]; exact hgw.cell 1
        have hRW : Rd w Aw (flatW m.ρ d.ws) := by have := H.out.ow; rw [hvw] at this; exact Rd.of_own this
        have HRW := Lib.hid hRW
        obtain ⟨nw, hnw⟩ : ∃ nw, nw = d.ws.length := ⟨_, rfl⟩
        rw [← hnw] at c1 hwl
        have HNW := Lib.hid hnw
        have hnwi : (nw : Int) ≤ 900000 := by omega
        have HLIV := Lib.hid HF.out.live
        clear hall hT hvw hgw hRW hnw hno HT HL hrg hM HT0
        obtain ⟨iw, hiw, hw0, hw1, hw2⟩ := info_parts wrInfo
        have HI0 := Lib.hid hiw
        have HI1 := Lib.hid hw0
        have HI2 := Lib.hid hw1
        have HI3 := Lib.hid hw2
        clear hiw hw0 hw1 hw2
        go_wp2
        rename World => WA
        go_loopw [77] (fun u77 wr => ∃ (k : Nat) (vwk : Value), k ≤ nw ∧ u77 = .int .i64 k ∧ Hid (DiskAt wr w.heap.size (tD d d.fs (d.ws.take k)) ⟨g, bm, Dk, ρk, Rk, vwk, vk⟩) ∧ Hid (PM wr bt gg) ∧ Hid (Below w.heap.size w wr) ∧ Hid (∀ q, mineD (tD d d.fs (d.ws.take k)) ⟨g, bm, Dk, ρk, Rk, vwk, vk⟩ q → q ≠ bt)) (fun u77 _ => nw - (intOf u77).toNat)
        case atStart => exact ⟨0, _, by omega, rfl, HDK, HPM, HBW, HNE⟩
        case round =>
          obtain ⟨k, vwk, hk, rfl, HD2, HPM2, HBW2, HNE2⟩ := hrel
          by_cases hlt2 : k < nw
          · obtain ⟨y, hy⟩ : ∃ y, d.ws[k]? = some y := ⟨d.ws[k]'(by have := HNW.out; omega), List.getElem?_eq_getElem _⟩
            obtain ⟨bA, oA, hA, hbA, hc⟩ := (HRW.out.below HBW2.out).flat (by rw [flatW_len]; have := HNW.out; omega)
            subst hA
            have d0 : _ = some (Value.pointer (some ⟨m.ρ y.id, 0, none⟩)) := hc _ _ (flatW_at m.ρ d.ws k y hy 0 _ rfl)
            have d1 : _ = some (Value.int .i64 y.pos) := hc _ _ (flatW_at m.ρ d.ws k y hy 1 _ rfl)
            have d2 : _ = some (Value.string y.data) := hc _ _ (flatW_at m.ρ d.ws k y hy 2 _ rfl)
            rw [Nat.add_zero] at d0
            rw [← Nat.add_assoc] at d1 d2
            have hki : (k : Int) < (nw : Int) := by omega
            obtain ⟨p, hp, hpid⟩ := HLIV.out y (List.mem_of_getElem? hy)
            have hmem := HHERE.out p hp
            rw [hpid] at hmem
            have bw : Below wr.heap.size wr (wr.alloc (.cells #[.pointer (some ⟨m.ρ y.id, 0, none⟩), .int .i64 y.pos, .string y.data] 60)).drew := ((Below.refl _ _).alloc (Nat.le_refl _) _).drew
            have hcb : CBlk (wr.alloc (.cells #[.pointer (some ⟨m.ρ y.id, 0, none⟩), .int .i64 y.pos, .string y.data] 60)).drew (m.ρ y.id) := by
              have h9 := ((H.out.below (HBW2.out.trans (bw.mono HBW2.out.size))).fs p hp).blk.c
              rw [hpid] at h9
              exact h9
            have hlook := (HPM2.out.below bw).look hcb HND.out hmem
            unfold pv at hlook
            have KX := (Blk.new wr 60 #[.pointer (some ⟨m.ρ y.id, 0, none⟩), .int .i64 y.pos, .string y.data]).drew
            have x0 : (wr.alloc (.cells #[.pointer (some ⟨m.ρ y.id, 0, none⟩), .int .i64 y.pos, .string y.data] 60)).drew.cell? ⟨wr.heap.size, 0, none⟩ = some (.pointer (some ⟨m.ρ y.id, 0, none⟩)) := KX.cell 0
            have x1 : (wr.alloc (.cells #[.pointer (some ⟨m.ρ y.id, 0, none⟩), .int .i64 y.pos, .string y.data] 60)).drew.cell? ⟨wr.heap.size, 1, none⟩ = some (.int .i64 y.pos) := KX.cell 1
            have x2 : (wr.alloc (.cells #[.pointer (some ⟨m.ρ y.id, 0, none⟩), .int .i64 y.pos, .string y.data] 60)).drew.cell? ⟨wr.heap.size, 2, none⟩ = some (.string y.data) := KX.cell 2
            have D3 := HD2.out.below bw
            obtain ⟨Ak2, ck2, hvk2, _⟩ := own_form D3.ow
            have hle : ((tD d d.fs (d.ws.take k)).ws.length) = k := by show (d.ws.take k).length = k; rw [List.length_take]; have := HNW.out; omega
            rw [hle] at hvk2
            have g1 : (wr.alloc (.cells #[.pointer (some ⟨m.ρ y.id, 0, none⟩), .int .i64 y.pos, .string y.data] 60)).drew.cell? ⟨g, 1, none⟩ = some (.slice Ak2 k ck2) := by rw [← hvk2]; exact D3.blk.cell 1
            have gz : (wr.alloc (.cells #[.pointer (some ⟨m.ρ y.id, 0, none⟩), .int .i64 y.pos, .string y.data] 60)).drew.frozen? ⟨g, 1, none⟩ = false := D3.blk.free 1
            have HOW : Hid ((wr.alloc (.cells #[.pointer (some ⟨m.ρ y.id, 0, none⟩), .int .i64 y.pos, .string y.data] 60)).drew.ownsRow w.heap.size 60 3 (.slice Ak2 k ck2) k (flatW ρk (d.ws.take k))) := by
              have := D3.ow
              rw [hle] at this
              rw [← hvk2]; exact this
            have HD3 := Lib.hid D3
            have HY := Lib.hid hy
            have HVK2 := Lib.hid hvk2
            have HLE := Lib.hid hle
            have HBWX := Lib.hid bw
            have HKX := Lib.hid KX
            have HMEM := Lib.hid hmem
            have HCBX : Hid (∀ W, Below w.heap.size w W → CBlk W (m.ρ y.id)) := fun _ hb => by
              have h9 := ((H.out.below hb).fs p hp).blk.c
              rw [hpid] at h9
              exact h9
            have hgl := D3.blk.lt
            clear hc hy hp hpid hmem bw hcb KX D3 hle hbA hvk2
            have hRN : Rd ((wr.alloc (.cells #[.pointer (some ⟨m.ρ y.id, 0, none⟩), .int .i64 y.pos, .string y.data] 60)).drew.alloc (.cells #[.pointer (some ⟨ρk y.id, 0, none⟩), .int .i64 y.pos, .string y.data] 60)) (some ⟨wr.heap.size + 1, 0, none⟩) [.pointer (some ⟨ρk y.id, 0, none⟩), .int .i64 y.pos, .string y.data] := by
              have := Rd.new (wr.alloc (.cells #[.pointer (some ⟨m.ρ y.id, 0, none⟩), .int .i64 y.pos, .string y.data] 60)).drew #[.pointer (some ⟨ρk y.id, 0, none⟩), .int .i64 y.pos, .string y.data] 60
              simpa using this
            have HRN := Lib.hid hRN
            have hgy : ((wr.alloc (.cells #[.pointer (some ⟨m.ρ y.id, 0, none⟩), .int .i64 y.pos, .string y.data] 60)).alloc (.cells #[.pointer (some ⟨ρk y.id, 0, none⟩), .int .i64 y.pos, .string y.data] 60)).cell? ⟨g, 1, none⟩ = some (.slice Ak2 k ck2) := cell_b (w := (wr.alloc (.cells #[.pointer (some ⟨m.ρ y.id, 0, none⟩), .int .i64 y.pos, .string y.data] 60)).drew) (w' := (wr.alloc (.cells #[.pointer (some ⟨m.ρ y.id, 0, none⟩), .int .i64 y.pos, .string y.data] 60)).drew.alloc (.cells #[.pointer (some ⟨ρk y.id, 0, none⟩), .int .i64 y.pos, .string y.data] 60)) ((Below.refl _ _).alloc (Nat.le_refl _) _) g1
            clear hRN
            go_upto_block 3 with (fail)
            go_cut [8] from 78 to 99 (fun _ wx => ∃ v6 : Value, Hid (DiskAt wx w.heap.size (tD d d.fs (d.ws.take (k + 1))) ⟨g, bm, Dk, ρk, Rk, v6, vk⟩) ∧ Hid (PM wx bt gg) ∧ Hid (Below w.heap.size w wx) ∧ Hid (∀ q, mineD (tD d d.fs (d.ws.take (k + 1))) ⟨g, bm, Dk, ρk, Rk, v6, vk⟩ q → q ≠ bt))
            case first =>
              go_upto_region 13 with (fail)
              -- region 13
              have HX1 : Hid (∀ W : World, W = (wr.alloc (.cells #[.pointer (some ⟨m.ρ y.id, 0, none⟩), .int .i64 y.pos, .string y.data] 60)).drew → (W.cell? ⟨g, 1, none⟩ = some (.slice Ak2 k ck2) ∧ W.cell? ⟨wr.heap.size, 0, none⟩ = some (.pointer (some ⟨m.ρ y.id, 0, none⟩)) ∧ W.cell? ⟨wr.heap.size, 1, none⟩ = some (.int .i64 y.pos) ∧ W.cell? ⟨wr.heap.size, 2, none⟩ = some (.string y.data) ∧ (Instr.lookup 54 (.map (some bt)) (.pointer (some ⟨m.ρ y.id, 0, none⟩)) false).run Try.prog W = .ok (.pointer (some ⟨ρk y.id, 0, none⟩)) W)) := fun W h => by subst h; exact ⟨g1, x0, x1, x2, hlook⟩
              have HS13 : Hid ((fun W : World => W.cell? ⟨g, 1, none⟩ = some (.slice Ak2 k ck2) ∧ W.cell? ⟨wr.heap.size, 0, none⟩ = some (.pointer (some ⟨m.ρ y.id, 0, none⟩)) ∧ W.cell? ⟨wr.heap.size, 1, none⟩ = some (.int .i64 y.pos) ∧ W.cell? ⟨wr.heap.size, 2, none⟩ = some (.string y.data) ∧ (Instr.lookup 54 (.map (some bt)) (.pointer (some ⟨m.ρ y.id, 0, none⟩)) false).run Try.prog W = .ok (.pointer (some ⟨ρk y.id, 0, none⟩)) W) ((wr.alloc (.cells #[.pointer (some ⟨m.ρ y.id, 0, none⟩), .int .i64 y.pos, .string y.data] 60)).drew.alloc (.cells #[.pointer (some ⟨ρk y.id, 0, none⟩), .int .i64 y.pos, .string y.data] 60))) := by
                have b13 : Below (wr.alloc (.cells #[.pointer (some ⟨m.ρ y.id, 0, none⟩), .int .i64 y.pos, .string y.data] 60)).drew.heap.size (wr.alloc (.cells #[.pointer (some ⟨m.ρ y.id, 0, none⟩), .int .i64 y.pos, .string y.data] 60)).drew ((wr.alloc (.cells #[.pointer (some ⟨m.ρ y.id, 0, none⟩), .int .i64 y.pos, .string y.data] 60)).drew.alloc (.cells #[.pointer (some ⟨ρk y.id, 0, none⟩), .int .i64 y.pos, .string y.data] 60)) := (Below.refl _ _).alloc (Nat.le_refl _) _
                have K13 := HKX.out.below b13
                refine ⟨(HD3.out.below b13).blk.cell 1 |>.trans (by show some vwk = some (Value.slice Ak2 k ck2); rw [show vwk = Value.slice Ak2 k ck2 from HVK2.out]), K13.cell 0, K13.cell 1, K13.cell 2, ?_⟩
                have := (HPM2.out.below (HBWX.out.trans (b13.mono (by have := HBWX.out.size; omega)))).look (HCBX.out _ (HBW2.out.trans ((HBWX.out.trans (b13.mono (by have := HBWX.out.size; omega))).mono HBW2.out.size))) HND.out HMEM.out
                unfold pv at this
                exact this
              clear g1 x0 x1 x2 hlook hgy
              refine wp_region_noPanic ?_
              refine wp_region_two (fun W => W.cell? ⟨g, 1, none⟩ = some (.slice Ak2 k ck2) ∧ W.cell? ⟨wr.heap.size, 0, none⟩ = some (.pointer (some ⟨m.ρ y.id, 0, none⟩)) ∧ W.cell? ⟨wr.heap.size, 1, none⟩ = some (.int .i64 y.pos) ∧ W.cell? ⟨wr.heap.size, 2, none⟩ = some (.string y.data) ∧ (Instr.lookup 54 (.map (some bt)) (.pointer (some ⟨m.ρ y.id, 0, none⟩)) false).run Try.prog W = .ok (.pointer (some ⟨ρk y.id, 0, none⟩)) W) (fun W => W.cell? ⟨wr.heap.size, 0, none⟩ = some (.pointer (some ⟨m.ρ y.id, 0, none⟩)) ∧ W.cell? ⟨wr.heap.size, 1, none⟩ = some (.int .i64 y.pos) ∧ W.cell? ⟨wr.heap.size, 2, none⟩ = some (.string y.data) ∧ (Instr.lookup 54 (.map (some bt)) (.pointer (some ⟨m.ρ y.id, 0, none⟩)) false).run Try.prog W = .ok (.pointer (some ⟨ρk y.id, 0, none⟩)) W) [4, 14] (by kernel_rfl) ?_
              refine wpAnyS_takew (i := 0) (v := ?v1) (fun _ h => h.2) (by simp only [List.getElem?_toArray, List.getElem?_cons_zero]; rfl) (by kernel_rfl) (by kernel_rfl) (by kernel_rfl) (by kernel_rfl) (fun _ _ _ h => h) (Or.inl ⟨by rfl, ?hy1⟩) (HX1.out _ rfl) ?r1
              case hy1 => (intro W hW; (try dsimp only at hW); go_simp; try with_reducible rfl)
              try simp only [Act.put, List.setIfInBounds_toArray, List.set_cons_zero, List.set_cons_succ]
              refine wpAnyS_takew (i := 1) (v := ?v2) (fun _ h => h.2) (by simp only [List.getElem?_toArray, List.getElem?_cons_succ, List.getElem?_cons_zero]; rfl) (by kernel_rfl) (by kernel_rfl) (by kernel_rfl) (by kernel_rfl) (fun _ _ _ h => h) (Or.inl ⟨by rfl, ?hy2⟩) (HX1.out _ rfl) ?r2
              case hy2 => (intro W hW; (try dsimp only at hW); go_simp; try with_reducible rfl)
              try simp only [Act.put, List.setIfInBounds_toArray, List.set_cons_zero, List.set_cons_succ]
              refine wpAnyS_takew (i := 2) (v := ?v3) (fun _ h => h.2) (by simp only [List.getElem?_toArray, List.getElem?_cons_succ, List.getElem?_cons_zero]; rfl) (by kernel_rfl) (by kernel_rfl) (by kernel_rfl) (by kernel_rfl) (fun _ _ _ h => h) (Or.inl ⟨by rfl, ?hy3⟩) (HX1.out _ rfl) ?r3
              case hy3 => (intro W hW; (try dsimp only at hW); go_simp; try with_reducible rfl)
              try simp only [Act.put, List.setIfInBounds_toArray, List.set_cons_zero, List.set_cons_succ]
              refine wpAnyS_takew (i := 3) (v := ?v4) (fun _ h => h.2) (by simp only [List.getElem?_toArray, List.getElem?_cons_succ, List.getElem?_cons_zero]; rfl) (by kernel_rfl) (by kernel_rfl) (by kernel_rfl) (by kernel_rfl) (fun _ _ _ h => h) (Or.inl ⟨by rfl, ?hy4⟩) (HX1.out _ rfl) ?r4
              case hy4 => (intro W hW; (try dsimp only at hW); go_simp; try with_reducible rfl)
              try simp only [Act.put, List.setIfInBounds_toArray, List.set_cons_zero, List.set_cons_succ]
              refine wpAnyS_takew (i := 5) (v := ?v5) (fun _ h => h.2) (by simp only [List.getElem?_toArray, List.getElem?_cons_succ, List.getElem?_cons_zero]; rfl) (by kernel_rfl) (by kernel_rfl) (by kernel_rfl) (by kernel_rfl) (fun _ _ _ h => h) (Or.inl ⟨by rfl, ?hy5⟩) (HX1.out _ rfl) ?r5
              case hy5 => (intro W hW; (try dsimp only at hW); go_simp; try with_reducible rfl)
              try simp only [Act.put, List.setIfInBounds_toArray, List.set_cons_zero, List.set_cons_succ]
              refine wpAnyS_takew (i := 6) (v := ?v6) (fun _ h => h.2) (by simp only [List.getElem?_toArray, List.getElem?_cons_succ, List.getElem?_cons_zero]; rfl) (by kernel_rfl) (by kernel_rfl) (by kernel_rfl) (by kernel_rfl) (fun _ _ _ h => h) (Or.inl ⟨by rfl, ?hy6⟩) (HX1.out _ rfl) ?r6
              case hy6 => (intro W hW; (try dsimp only at hW); go_simp; try with_reducible rfl)
              try simp only [Act.put, List.setIfInBounds_toArray, List.set_cons_zero, List.set_cons_succ]
              refine wpAnyS_takew (i := 7) (v := ?v7) (fun _ h => h.2) (by simp only [List.getElem?_toArray, List.getElem?_cons_succ, List.getElem?_cons_zero]; rfl) (by kernel_rfl) (by kernel_rfl) (by kernel_rfl) (by kernel_rfl) (fun _ _ _ h => h) (Or.inl ⟨by rfl, ?hy7⟩) (HX1.out _ rfl) ?r7
              case hy7 => (intro W hW; (try dsimp only at hW); go_simp; try with_reducible rfl)
              try simp only [Act.put, List.setIfInBounds_toArray, List.set_cons_zero, List.set_cons_succ]
              refine wpAnyS_takew (i := 8) (v := ?v8) (fun _ h => h.2) (by simp only [List.getElem?_toArray, List.getElem?_cons_succ, List.getElem?_cons_zero]; rfl) (by kernel_rfl) (by kernel_rfl) (by kernel_rfl) (by kernel_rfl) (fun _ _ _ h => h) (Or.inl ⟨by rfl, ?hy8⟩) (HX1.out _ rfl) ?r8
              case hy8 => (intro W hW; (try dsimp only at hW); go_simp; try with_reducible rfl)
              try simp only [Act.put, List.setIfInBounds_toArray, List.set_cons_zero, List.set_cons_succ]
              refine wpAnyS_takew (i := 9) (v := ?v9) (fun _ h => h.2) (by simp only [List.getElem?_toArray, List.getElem?_cons_succ, List.getElem?_cons_zero]; rfl) (by kernel_rfl) (by kernel_rfl) (by kernel_rfl) (by kernel_rfl) (fun _ _ _ h => h) (Or.inl ⟨by rfl, ?hy9⟩) (HX1.out _ rfl) ?r9
              case hy9 => (intro W hW; (try dsimp only at hW); go_simp; try with_reducible rfl)
              try simp only [Act.put, List.setIfInBounds_toArray, List.set_cons_zero, List.set_cons_succ]
              refine wpAnyS_takew (i := 10) (v := ?v10) (fun _ h => h.2) (by simp only [List.getElem?_toArray, List.getElem?_cons_succ, List.getElem?_cons_zero]; rfl) (by kernel_rfl) (by kernel_rfl) (by kernel_rfl) (by kernel_rfl) (fun _ _ _ h => h) (Or.inl ⟨by rfl, ?hy10⟩) (HX1.out _ rfl) ?r10
              case hy10 => (intro W hW; (try dsimp only at hW); go_simp; try with_reducible rfl)
              try simp only [Act.put, List.setIfInBounds_toArray, List.set_cons_zero, List.set_cons_succ]
              refine wpAnyS_takew (i := 11) (v := ?v11) (fun _ h => h.2) (by simp only [List.getElem?_toArray, List.getElem?_cons_succ, List.getElem?_cons_zero]; rfl) (by kernel_rfl) (by kernel_rfl) (by kernel_rfl) (by kernel_rfl) (fun _ _ _ h => h) (Or.inl ⟨by rfl, ?hy11⟩) (HX1.out _ rfl) ?r11
              case hy11 => (intro W hW; (try dsimp only at hW); go_simp; try with_reducible rfl)
              try simp only [Act.put, List.setIfInBounds_toArray, List.set_cons_zero, List.set_cons_succ]
              refine wpAnyS_takew (i := 12) (v := ?v12) (fun _ h => h.2) (by simp only [List.getElem?_toArray, List.getElem?_cons_succ, List.getElem?_cons_zero]; rfl) (by kernel_rfl) (by kernel_rfl) (by kernel_rfl) (by kernel_rfl) (fun _ _ _ h => h) (Or.inl ⟨by rfl, ?hy12⟩) (HX1.out _ rfl) ?r12
              case hy12 => (intro W hW; (try dsimp only at hW); go_simp; try with_reducible rfl)
              try simp only [Act.put, List.setIfInBounds_toArray, List.set_cons_zero, List.set_cons_succ]
              refine wpAnyS_takew (i := 13) (v := ?v13) (fun _ h => h.2) (by simp only [List.getElem?_toArray, List.getElem?_cons_succ, List.getElem?_cons_zero]; rfl) (by kernel_rfl) (by kernel_rfl) (by kernel_rfl) (by kernel_rfl) (fun _ _ _ h => h) (Or.inl ⟨by rfl, ?hy13⟩) (HX1.out _ rfl) ?r13
              case hy13 => (intro W hW; (try dsimp only at hW); go_simp; try with_reducible rfl)
              try simp only [Act.put, List.setIfInBounds_toArray, List.set_cons_zero, List.set_cons_succ]
              refine wpAnyS_take (i := 4) (v := ?v14) (by simp only [List.getElem?_toArray, List.getElem?_cons_succ, List.getElem?_cons_zero]; rfl) (by kernel_rfl) (by kernel_rfl) (by kernel_rfl) (by kernel_rfl) (by kernel_rfl) (fun _ _ _ h => h) (Or.inl ⟨by rfl, ?hy14⟩) (HX1.out _ rfl) ?r14
              case hy14 => (intro W hW; (try dsimp only at hW); go_simp; try with_reducible rfl)
              try simp only [Act.put, List.setIfInBounds_toArray, List.set_cons_zero, List.set_cons_succ]
              refine wpAnyS_one (i := 14) (by simp only [List.getElem?_toArray, List.getElem?_cons_succ, List.getElem?_cons_zero]; rfl) (by kernel_rfl) (by kernel_rfl) (fun K hK => ?_)
              go_simp
              refine hK.out _ _ ?hS14 (fun hHeld => ?_)
              case hS14 => exact HS13.out
              clear hK K hHeld
              try simp only [Act.put, List.setIfInBounds_toArray, List.set_cons_zero, List.set_cons_succ]
              refine wpAnyS_rest (by kernel_rfl) ?_
              refine wpAnyH_ready (rs := [15]) (by kernel_rfl) (by simp) ?_
              refine AllReadyH.cons (by simp only [List.getElem?_toArray, List.getElem?_cons_succ, List.getElem?_cons_zero]; rfl) (fun K hK => ?_) AllReadyH.nil
              refine step_app rfl (.tmp 85) (.tmp 95) 47 rfl w.heap.size 60 iw _ 3 32 Try.underlying47 HI0.out HI1.out HI2.out HI3.out rfl (by omega) (.slice Ak2 k ck2) k _ (by first | rfl | go_simp) (HOW.out.alloc _) _ 1 1 [.pointer (some ⟨ρk y.id, 0, none⟩), .int .i64 y.pos, .string y.data] (by first | rfl | go_simp) HRN.out rfl (by simp [Value.oneCell']) (by unfold maxLen; omega) (by omega) (by have := HBW2.out.size; simp; omega) ?_
              intro v6 w6 ho6 hg6 hb6 hat6
              obtain ⟨A6, c6, rfl, hc6⟩ := own_form ho6
              have ba6 : Below (wr.alloc (.cells #[.pointer (some ⟨m.ρ y.id, 0, none⟩), .int .i64 y.pos, .string y.data] 60)).drew.heap.size (wr.alloc (.cells #[.pointer (some ⟨m.ρ y.id, 0, none⟩), .int .i64 y.pos, .string y.data] 60)).drew ((wr.alloc (.cells #[.pointer (some ⟨m.ρ y.id, 0, none⟩), .int .i64 y.pos, .string y.data] 60)).drew.alloc (.cells #[.pointer (some ⟨ρk y.id, 0, none⟩), .int .i64 y.pos, .string y.data] 60)) := (Below.refl _ _).alloc (Nat.le_refl _) _
              have F6 : Frm (fun q => (Value.slice Ak2 k ck2).ownBlock = some q) ((wr.alloc (.cells #[.pointer (some ⟨m.ρ y.id, 0, none⟩), .int .i64 y.pos, .string y.data] 60)).drew.alloc (.cells #[.pointer (some ⟨ρk y.id, 0, none⟩), .int .i64 y.pos, .string y.data] 60)) w6 := (Frm.refl _ _).grown hg6 (fun k hk _ => hk)
              have B6 := (HD3.out.blk.below ba6).frm F6 (fun e => (HD3.out.blk.below ba6).own_ne (HOW.out.alloc (.cells #[.pointer (some ⟨ρk y.id, 0, none⟩), .int .i64 y.pos, .string y.data] 60)) (by decide) e)
              have hmine : ∀ q, (Value.slice Ak2 k ck2).ownBlock = some q → mineD (tD d d.fs (d.ws.take k)) ⟨g, bm, Dk, ρk, Rk, vwk, vk⟩ q := fun q hq => .inr (.inr (.inl (by show vwk.ownBlock = some q; rw [show vwk = Value.slice Ak2 k ck2 from HVK2.out]; exact hq)))
              have KX6 := (HKX.out.below ba6).frm F6 (fun e => by have := (HD2.out.mine_lt _ (hmine _ e)).2; omega)
              have y6 : w6.cell? ⟨g, 1, none⟩ = some vwk := B6.cell 1
              have z6 := B6.free 1
              have HKX6 := Lib.hid KX6
              have HPM6 : Hid (PM w6 bt gg) := (HPM2.out.below (HBWX.out.trans (ba6.mono (by have := HBWX.out.size; omega)))).frm F6 (fun e => HNE2.out bt (hmine _ e) rfl) (fun q hq e => by have h1 := HKEY.out q hq; have h2 := (HD2.out.mine_lt q.1 (hmine _ e)).1; omega)
              have HB6 : Hid (Below w.heap.size w w6) := (HBW2.out.trans ((HBWX.out.trans (ba6.mono (by have := HBWX.out.size; omega))).mono HBW2.out.size)).trans hb6
              have HS15 : Hid ((fun W : World => W.cell? ⟨wr.heap.size, 0, none⟩ = some (.pointer (some ⟨m.ρ y.id, 0, none⟩)) ∧ W.cell? ⟨wr.heap.size, 1, none⟩ = some (.int .i64 y.pos) ∧ W.cell? ⟨wr.heap.size, 2, none⟩ = some (.string y.data) ∧ (Instr.lookup 54 (.map (some bt)) (.pointer (some ⟨m.ρ y.id, 0, none⟩)) false).run Try.prog W = .ok (.pointer (some ⟨ρk y.id, 0, none⟩)) W) w6) := by
                refine ⟨KX6.cell 0, KX6.cell 1, KX6.cell 2, ?_⟩
                have := HPM6.out.look (HCBX.out _ HB6.out) HND.out HMEM.out
                unfold pv at this
                exact this
              have HO6 := Lib.hid ho6
              have HG6 := Lib.hid hg6
              have HAT6 := Lib.hid hat6
              clear ho6 hg6 hat6 hb6 ba6 F6 B6 KX6 hmine
              refine hK.out _ _ ?hS15 (fun hHeld => ?_)
              case hS15 => exact HS15.out
              clear hK K hHeld
              try simp only [Act.put, List.setIfInBounds_toArray, List.set_cons_zero, List.set_cons_succ]
              refine wpAnyH_take (i := 16) (v := ?v15) (by simp only [List.getElem?_toArray, List.getElem?_cons_succ, List.getElem?_cons_zero]; rfl) (by kernel_rfl) (by kernel_rfl) (by kernel_rfl) (fun _ _ _ h => h) (Or.inl ⟨by rfl, ?hy15⟩) HS15.out ?r15
              case hy15 => (intro W hW; (try dsimp only at hW); go_simp; try with_reducible rfl)
              try simp only [Act.put, List.setIfInBounds_toArray, List.set_cons_zero, List.set_cons_succ]
              refine wpAnyH_take (i := 17) (v := ?v16) (by simp only [List.getElem?_toArray, List.getElem?_cons_succ, List.getElem?_cons_zero]; rfl) (by kernel_rfl) (by kernel_rfl) (by kernel_rfl) (fun _ _ _ h => h) (Or.inl ⟨by rfl, ?hy16⟩) HS15.out ?r16
              case hy16 => (intro W hW; (try dsimp only at hW); go_simp; try with_reducible rfl)
              try simp only [Act.put, List.setIfInBounds_toArray, List.set_cons_zero, List.set_cons_succ]
              refine wpAnyH_ready (rs := [18]) (by kernel_rfl) (by simp) ?_
              refine AllReadyH.cons (by simp only [List.getElem?_toArray, List.getElem?_cons_succ, List.getElem?_cons_zero]; rfl) (fun K hK => ?_) AllReadyH.nil
              go_simp
              refine hK.out _ _ ?hS18 (fun hHeld => ?_)
              case hS18 =>
                have hne : g ≠ wr.heap.size := fun e => by have := HD2.out.blk.lt; have e2 : (g : Nat) < wr.heap.size := this; omega
                have F7 : Frm (fun q => q = g) w6 (w6.setCell ⟨g, 1, none⟩ (.slice A6 (k + 1) c6)) := (Frm.refl (fun q => q = g) w6).setCell (p := ⟨g, 1, none⟩) (fun _ => rfl) _
                have K7 := HKX6.out.frm F7 (fun e => hne e.symm)
                refine ⟨K7.cell 0, K7.cell 1, K7.cell 2, ?_⟩
                have hgm : mineD (tD d d.fs (d.ws.take k)) ⟨g, bm, Dk, ρk, Rk, vwk, vk⟩ g := .inl rfl
                have P7 := HPM6.out.frm F7 (fun e => HNE2.out g hgm e.symm) (fun q hq e => by have h1 := HKEY.out q hq; have h2 := HBMX.out; omega)
                have B7 : Below w.heap.size w (w6.setCell ⟨g, 1, none⟩ (.slice A6 (k + 1) c6)) := HB6.out.setCell HBMX.out _
                have := P7.look (HCBX.out _ B7) HND.out HMEM.out
                unfold pv at this
                exact this
              clear hK K hHeld
              try simp only [Act.put, List.setIfInBounds_toArray, List.set_cons_zero, List.set_cons_succ]
              refine wpAnyH_done (by kernel_rfl) ?_ _
              refine NoPanic.normal ?_
              -- end region 13
              all_goals
                have ba6 : Below (wr.alloc (.cells #[.pointer (some ⟨m.ρ y.id, 0, none⟩), .int .i64 y.pos, .string y.data] 60)).drew.heap.size (wr.alloc (.cells #[.pointer (some ⟨m.ρ y.id, 0, none⟩), .int .i64 y.pos, .string y.data] 60)).drew ((wr.alloc (.cells #[.pointer (some ⟨m.ρ y.id, 0, none⟩), .int .i64 y.pos, .string y.data] 60)).drew.alloc (.cells #[.pointer (some ⟨ρk y.id, 0, none⟩), .int .i64 y.pos, .string y.data] 60)) := (Below.refl _ _).alloc (Nat.le_refl _) _
                have hyw := H.out.ok.ws y (List.mem_of_getElem? HY.out)
                have hw := HD3.out.wrote (y := y) hyw ba6 (by rw [HLE.out]; exact HO6.out) (by show World.grownBy _ _ vwk.ownBlock; rw [show vwk = Value.slice Ak2 k ck2 from HVK2.out]; exact HG6.out) (by show _ = vwk.ownBlock ∨ _; rw [show vwk = Value.slice Ak2 k ck2 from HVK2.out]; exact HAT6.out)
                have e1 : ({ tD d d.fs (d.ws.take k) with ws := (tD d d.fs (d.ws.take k)).ws ++ [y] } : Ds) = tD d d.fs (d.ws.take (k + 1)) := by
                  unfold tD
                  rw [List.take_add_one, HY.out]; rfl
                rw [e1] at hw
                have bw : Below wr.heap.size wr (wr.alloc (.cells #[.pointer (some ⟨m.ρ y.id, 0, none⟩), .int .i64 y.pos, .string y.data] 60)).drew := ((Below.refl _ _).alloc (Nat.le_refl _) _).drew
                have hbt : bt < wr.heap.size := HPM2.out.lt
                have hT := hw.2
                have hPM : PM (w6.setCell ⟨g, 1, none⟩ (.slice A6 (k + 1) c6)) bt gg := by
                  refine (HPM2.out.below bw).frm hT.frm (fun e => HNE2.out bt e rfl) (fun q hq e => ?_)
                  have h1 := HKEY.out q hq
                  have h2 := (HD3.out.mine_lt q.1 e).1
                  omega
                have hB : Below w.heap.size w (w6.setCell ⟨g, 1, none⟩ (.slice A6 (k + 1) c6)) := below_of (hT.below (base := w.heap.size) (by have := HBW2.out.size; have := bw.size; omega) (fun q hq => (HD3.out.mine_lt q hq).1)) (HBW2.out.trans (bw.mono HBW2.out.size)) (Nat.le_refl _)
                have hN : ∀ q, mineD (tD d d.fs (d.ws.take (k + 1))) ⟨g, bm, Dk, ρk, Rk, .slice A6 (k + 1) c6, vk⟩ q → q ≠ bt := fun q hq e => by
                  rcases hT.own q hq with h1 | h1
                  · exact HNE2.out q h1 e
                  · have := bw.size; omega
                have HW1 := Lib.hid hw.1
                have HPM3 := Lib.hid hPM
                have HB3 := Lib.hid hB
                have HN3 := Lib.hid hN
                clear hw hT hPM hB hN e1 bw ba6 hyw
                go_wp2
                go_meet
                case rel => exact ⟨_, HW1, HPM3, HB3, HN3⟩
            case rest =>
              obtain ⟨v6, HW1, HPM3, HB3, HN3⟩ := hcut
              go_wp2
              go_roundw
              case rel => exact ⟨k + 1, _, by omega, by go_num, HW1, HPM3, HB3, HN3⟩
              case measure => simp [intOf]; omega
          · obtain rfl : nw = k := by omega
            have HDD : Hid (DiskAt wr w.heap.size d ⟨g, bm, Dk, ρk, Rk, vwk, vk⟩) := by
              have := HD2.out
              rw [List.take_of_length_le (by have := HNW.out; omega)] at this
              exact this
            go_wp2
            go_ret
            exact ⟨_, rfl, HDD.out, HBW2.out⟩
      · intro s b w' cnt' hsb hl hrg' hlt hgr hsz hen
        obtain ⟨p, hp, e⟩ := List.mem_map.1 hsb
        obtain ⟨s', f⟩ := p
        injection e with e1 e2
        have e1 : s' = s := e1
        have e2 : m.ρ f.id = b := e2
        subst e1 e2
        have hT1 := HT.out.turn H.out hgr
        have F1 := (H.out.below hT1.below).fs _ hp
        obtain ⟨An, cn, hvn, _⟩ := own_form F1.ol
        obtain ⟨As, cs, hvs, _⟩ := own_form F1.os
        have HQF : Hid (∀ W, Below w.heap.size w W → W.cell? ⟨m.ρ f.id, 0, none⟩ = some (.slice An f.now.length cn) ∧ W.cell? ⟨m.ρ f.id, 1, none⟩ = some (.slice As f.safe.length cs) ∧ W.cell? ⟨m.ρ f.id, 2, none⟩ = some (.bool f.known)) := fun _ hb => by
          have F := (H.out.below hb).fs _ hp
          rw [← hvn, ← hvs]
          exact ⟨F.blk.cell 0, F.blk.cell 1, F.blk.cell 2⟩
        have hnow : f.now.length ≤ 4001 := (H.out.ok.now _ hp).1
        have hsafe : f.safe.length ≤ 4001 := (H.out.ok.safe _ hp).1
        have hss : s'.size ≤ 40 := (H.out.ok.short _ hp).2
        have HCN : Hid (∀ W, Below w.heap.size w W → Calls Try.prog 26 #[.slice An f.now.length cn] W fun e w'' => (∃ B q, e = .returned (.slice B f.now.length q) ∧ w''.ownsRow W.heap.size 9 1 (.slice B f.now.length q) f.now.length (strs f.now)) ∧ Below W.heap.size W w'') := fun W hb =>
          cloneS_any W An f.now.length cn f.now (by have := ((H.out.below hb).fs _ hp).ol; rw [hvn] at this; exact Rd.of_own this) rfl (by omega)
        have HCS : Hid (∀ W, Below w.heap.size w W → Calls Try.prog 26 #[.slice As f.safe.length cs] W fun e w'' => (∃ B q, e = .returned (.slice B f.safe.length q) ∧ w''.ownsRow W.heap.size 9 1 (.slice B f.safe.length q) f.safe.length (strs f.safe)) ∧ Below W.heap.size W w'') := fun W hb =>
          cloneS_any W As f.safe.length cs f.safe (by have := ((H.out.below hb).fs _ hp).os; rw [hvs] at this; exact Rd.of_own this) rfl (by omega)
        have HT1 := Lib.hid hT1
        have HSS : Hid (s'.size ≤ maxLen) := by unfold Hid maxLen; omega
        have HP := Lib.hid hp
        have HLS := Lib.hid hl
        have HCB : Hid (∀ W, Below w.heap.size w W → CBlk W (m.ρ f.id)) := fun _ hb => ((H.out.below hb).fs _ hp).blk.c
        have HNEW : Hid (∀ p ∈ gg, p.1 ≠ m.ρ f.id) := fun p hp2 e => by
          obtain ⟨q, hq, e2⟩ := hT1.only p hp2
          have hq2 := List.mem_filter.1 hq
          have h3 := nodup_get (g := fun p : ByteArray × Fl => p.2.id) H.out.ok.ids hq2.1 hp (H.out.inj q hq2.1 _ hp (e2.symm.trans e))
          rw [h3] at hq2
          simp [hl] at hq2
        have Bd : Below w.heap.size w w'.drew := hT1.below.drew
        have Qd := HQF.out _ Bd
        have hcn := HCN.out _ Bd
        have HBD := Lib.hid Bd
        have HM := Lib.hid hrg'
        have HM0 := Lib.hid hrg
        clear hrg'
        clear hT1 F1 hvn hvs hnow hsafe hss hp hl hsb Bd hrg
        go_upto_region 8 with (fail)
        go_region_held3 (fun W => W.cell? ⟨m.ρ f.id, 0, none⟩ = some (.slice An f.now.length cn) ∧ W.cell? ⟨m.ρ f.id, 1, none⟩ = some (.slice As f.safe.length cs) ∧ W.cell? ⟨m.ρ f.id, 2, none⟩ = some (.bool f.known))
          (first | with_reducible exact Qd | with_reducible exact Q2 | with_reducible exact Q3 | with_reducible exact Q4 | with_reducible exact Q5)
          (first
            | (go_at_call 26; (with_reducible refine hcs.mono ?_); rintro e w3 ⟨⟨B2, q2, rfl, ho2⟩, b3⟩
               have B3 := HB2.out.trans (b3.mono HB2.out.size)
               have Q3 := HQF.out w3 B3
               have B4 := B3.alloc B3.size (.cells #[.slice B1 f.now.length q1, .slice B2 f.safe.length q2, .bool f.known] 58)
               have Q4 := HQF.out _ B4
               have hpm4 := (HT1.out.pm.below ((HBW2.out.trans (b3.mono HBW2.out.size)).alloc (HBW2.out.trans (b3.mono HBW2.out.size)).size (.cells #[.slice B1 f.now.length q1, .slice B2 f.safe.length q2, .bool f.known] 58)))
               obtain ⟨w5, hrun5, hpm5, hg5, hs5⟩ := hpm4.store (v := w3.heap.size) (HCB.out _ B4) HNEW.out
               have B5 : Below w.heap.size w w5 := B4.grown hg5 B4.size (fun k hk => by injection hk with hk; rw [← hk]; exact HT1.out.bge)
               have Q5 := HQF.out w5 B5
               unfold pv at hrun5
               have HO2 := Lib.hid ho2
               have HB3 := Lib.hid b3
               have HPM5 := Lib.hid hpm5
               have HG5 := Lib.hid hg5
               have HB5 := Lib.hid B5
               clear ho2 b3 hpm4 hpm5 hg5 hs5 B5 B4 B3)
            | (go_at_call 26; (with_reducible refine hcn.mono ?_); rintro e w2 ⟨⟨B1, q1, rfl, ho1⟩, b2⟩
               have HB2 := Lib.hid (HBD.out.trans (b2.mono HBD.out.size))
               have HBW2 := Lib.hid ((Below.refl w'.heap.size w').drew.trans b2)
               have Q2 := HQF.out w2 HB2.out
               have hcs := HCS.out w2 HB2.out
               have HO1 := Lib.hid ho1
               clear ho1 b2))
        have b4 : Below w'.heap.size w' (w3.alloc (.cells #[.slice B1 f.now.length q1, .slice B2 f.safe.length q2, .bool f.known] 58)) := (HBW2.out.trans (HB3.out.mono HBW2.out.size)).alloc (HBW2.out.trans (HB3.out.mono HBW2.out.size)).size _
        have k5 : Frm (fun q => q = bt) (w3.alloc (.cells #[.slice B1 f.now.length q1, .slice B2 f.safe.length q2, .bool f.known] 58)) w5 := (Frm.refl _ _).grown HG5.out fun k hk _ => by injection hk with hk; exact hk.symm
        have D5 := (HT1.out.disk.below b4).frm k5 fun q hq => (HT1.out.ne q hq).1
        have bd5 : Below w5.heap.size w5 w5.drew := (Below.refl _ _).drew
        have c0 : w5.drew.cell? ⟨g, 0, none⟩ = some (.map (some bm)) := D5.blk.cell 0
        have hmem : (m.ρ f.id, w3.heap.size) ∈ gg ++ [(m.ρ f.id, w3.heap.size)] := List.mem_append.2 (.inr (by simp))
        have hnd : ((gg ++ [(m.ρ f.id, w3.heap.size)]).map (·.1)).Nodup := by
          rw [List.map_append, List.nodup_append]
          refine ⟨HT1.out.nd, by simp, fun a ha c hc e => ?_⟩
          obtain ⟨q, hq, rfl⟩ := List.mem_map.1 ha
          simp at hc
          exact HNEW.out q hq (e.trans hc)
        have hlook := (HPM5.out.below bd5).look (HCB.out _ (HB5.out.drew)) hnd hmem
        unfold pv at hlook
        have hlen : (namesD (tD d (fsL d left) []) ⟨g, bm, Dk, ρk, Rk, .slice none 0 0, vk⟩).length < 1000 := by
          have h1 := D5.ok.few
          have h2 : (tD d (fsL d left) []).fs.length = (namesD (tD d (fsL d left) []) ⟨g, bm, Dk, ρk, Rk, .slice none 0 0, vk⟩).length := by unfold namesD; rw [List.length_map]
          omega
        obtain ⟨w7, D7, hrun7, hm7, hg7⟩ := (D5.map.below bd5).store_run HSS.out hlen w3.heap.size
        have HM7 := Lib.hid hm7
        have HG7 := Lib.hid hg7
        have HLX : Hid (∀ k, (fun z => left z && !z.sameKey (kS s')) k = true → Maps.has m.D k = true) := fun k hk => by
          simp only [Bool.and_eq_true] at hk
          exact HL.out k hk.1
        clear b4 k5 D5 bd5 hmem hnd hlen hm7 hg7 Qd Q2 Q3 Q4 Q5 hcn hcs
        go_upto_region 9 with (fail)
        go_region_law (fail)
        all_goals
          have HTN := Lib.hid (TwI.step (left' := fun z => left z && !z.sameKey (kS s')) HT1.out H.out HP.out HLS.out (fun t => by simp only [sameKey_kS]) HO1.out HBW2.out HO2.out HB3.out HPM5.out HG5.out (Below.refl _ _).drew HM7.out HG7.out)
          have HRG : Hid (w7.ranges Try.prog 9 ptrR m.bm r (Maps.size m.D) m.D (fun z => left z && !z.sameKey (kS s')) cnt') := by
            have b4 : Below w'.heap.size w' (w3.alloc (.cells #[.slice B1 f.now.length q1, .slice B2 f.safe.length q2, .bool f.known] 58)) := (HBW2.out.trans (HB3.out.mono HBW2.out.size)).alloc (HBW2.out.trans (HB3.out.mono HBW2.out.size)).size _
            have k5 : Frm (fun q => q = bt ∨ q = bm) (w3.alloc (.cells #[.slice B1 f.now.length q1, .slice B2 f.safe.length q2, .bool f.known] 58)) w5 := (Frm.refl _ _).grown HG5.out fun k hk _ => by injection hk with hk; exact .inl hk.symm
            have k7 : Frm (fun q => q = bt ∨ q = bm) w5.drew w7 := (Frm.refl _ _).grown HG7.out fun k hk _ => by injection hk with hk; exact .inr hk.symm
            have hmb := H.out.map.lt
            have hlo := HT1.out.disk.lom
            have hne := HT1.out.ne bm (.inr (.inl rfl))
            have hbg := HT1.out.bge
            refine ranges_frm HM.out ((((Frm.of_below b4).then_ k5).step (Below.refl _ _).drew).then_ k7) (fun e => ?_) (fun e => ?_)
            · have hlo : w.heap.size ≤ bm := hlo
              rcases e with e | e <;> omega
            · rcases e with e | e
              · exact HT1.out.bnr e.symm
              · exact hne.2 e.symm
          clear hrun5 hrun7 hlook c0
          go_wp2
          go_roundw
          case rel => exact ⟨_, cnt', _, D7, _, _, HTN, HLX, HRG.out⟩
          case measure =>
            have h1 := HRG.out
            have h2 := HM0.out
            rw [h1.left_eq, h2.left_eq]; exact hlt
end Go.Proofs.Ytfgpadikmnhldaa
