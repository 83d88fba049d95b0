/-
  DiskTwins: it is true. Conditions: acts that can be read.
-/
import Derived.Test.YtfgpadikmnhldaaOpOne
import Derived.Test.YtfgpadikmnhldaaDiskTw
import Derived.Test.YtfgpadikmnhldaaDiskLs
import Derived.Test.YtfgpadikmnhldaaSameT
namespace Go.Proofs.Ytfgpadikmnhldaa
open Go Go.RowKit
attribute [local go_sem] cell_set_if

/-- The names of a disk, in memory of their own. -/
theorem dlist_rd {base : Nat} {d : Ds} {m : DM} (w : World) (h : DiskAt w base d m) (L : List ByteArray) (hL : listD d ⟨#[]⟩ = L) :
    Calls Try.prog 9 #[.pointer (some ⟨m.g, 0, none⟩), .string ⟨#[]⟩] w fun e w' => (∃ A c, e = .returned (.slice A L.length c) ∧ Rd w' A (L.map .string) ∧ ∀ a, A = some a → w.heap.size ≤ a.block) ∧ Below w.heap.size w w' := by
  subst hL
  refine (dlist_any ⟨#[]⟩ w h (by decide)).mono fun _ _ ⟨v, he, ho, hb⟩ => ⟨?_, hb⟩
  obtain ⟨A, c, hv, _⟩ := own_form ho
  subst hv
  refine ⟨A, c, he, Rd.of_own ho, fun a ha => ?_⟩
  rcases ho.2 with ⟨e1, _⟩ | ⟨g, cap, cur, e1, _⟩
  · injection e1 with e1; rw [ha] at e1; cases e1
  · injection e1 with e1
    have h1 := (ho.lt g (by rw [e1]; rfl)).1
    rw [ha] at e1
    injection e1 with e1
    rw [e1]; exact h1
theorem listD_len {d : Ds} (h : d.ok) (p : ByteArray) : (listD d p).length ≤ 60 := by
  unfold listD
  split
  · simp
  · refine Nat.le_trans (List.length_filter_le _ _) ?_
    rw [namesS_len]; exact h.few
theorem same_yes (A B : Option Addr) (c d : Nat) (L : List ByteArray) (w : World) (ha : Rd w A (L.map .string)) (hb : Rd w B (L.map .string)) (hm : L.length ≤ 60) :
    Calls Try.prog 12 #[.slice A L.length c, .slice B L.length d] w fun e w' => e = .returned (.bool true) ∧ Below w.heap.size w w' := by
  have := sametexts_any A B L.length L.length c d L L w ha hb rfl rfl (by unfold maxLen; omega)
  simpa using this
theorem rd_low {w : World} {A : Option Addr} {l : List Int} (h : Rd w A (flatZ l)) (hl : 0 < l.length) : ∀ a, A = some a → a.block < w.heap.size := fun a ha => by
  obtain ⟨b, o, e, hb, _⟩ := h.flat (by rw [flatZ_len]; omega)
  rw [ha] at e; injection e with e; rw [e]; exact hb

set_option maxRecDepth 100000 in
set_option maxHeartbeats 8000000 in
theorem disktwins_walk (room : Int) (A : Option Addr) (n c : Nat) (os : List OpD) (x : OpD) (w : World) (hr : Rd w A (flatD os)) (hn : os.length = n) (hf : ∀ o ∈ os, o.fits w) (hx : x.fits w) :
    Calls Try.prog 3 #[.int .i64 room, .slice A n c, opV x] w fun e w' => e = .returned (.bool true) ∧ Below w.heap.size w w' := by
  have ba : Below w.heap.size w (w.alloc (.cells #[.int .i64 x.kind, .string x.s, .string x.t, .int .i64 x.a, .int .i64 x.b, .bool x.own, .slice x.A x.n x.c] 25)) := (Below.refl _ _).alloc (Nat.le_refl _) _
  have HLI := Lib.hid (light4_any A n c os _ (hr.below ba) hn)
  have HR := Lib.hid hr
  have HN := Lib.hid hn
  have HFI := Lib.hid hf
  have HX := Lib.hid hx
  have HBA := Lib.hid ba
  have KX := (Blk.new w 25 #[.int .i64 x.kind, .string x.s, .string x.t, .int .i64 x.a, .int .i64 x.b, .bool x.own, .slice x.A x.n x.c])
  have HKX := Lib.hid KX
  clear hr hn hf hx ba KX
  go_enter Try.func3, Try.ntmps3
  go_wp2_with fail
  refine HLI.out.mono ?_
  rintro e w1 ⟨⟨bl, rfl, hbl⟩, b1⟩
  cases bl
  · go_wp2_with (go_at_call 5; refine (dalive_any _).mono ?_; rintro e w2 ⟨rfl, b2⟩)
    go_ret
    exact ⟨rfl, HBA.out.trans ((b1.trans (b2.mono b1.size)).mono (by simp))⟩
  obtain ⟨h60, hsum⟩ := hbl rfl
  have HSUM := Lib.hid hsum
  have B1 : Below w.heap.size w w1 := HBA.out.trans (b1.mono (by simp))
  have HB1 := Lib.hid B1
  have K1 := HKX.out.below b1
  have k0 := K1.cell 0
  have k1 := K1.cell 1
  have k2 := K1.cell 2
  have k3 := K1.cell 3
  have k4 := K1.cell 4
  have k5 := K1.cell 5
  have k6 := K1.cell 6
  have R1 : Rd (w1.alloc (.cells #[.int .i64 x.kind, .string x.s, .string x.t, .int .i64 x.a, .int .i64 x.b, .bool x.own, .slice x.A x.n x.c] 25)) (some ⟨w1.heap.size, 0, none⟩) (flatD [x]) := Rd.new _ _ _
  have HL2 := Lib.hid (light4_any (some ⟨w1.heap.size, 0, none⟩) 1 1 [x] _ R1 rfl)
  have HK1 := Lib.hid K1
  clear R1 K1 b1 B1 hsum hbl
  go_wp2_with fail
  refine HL2.out.mono ?_
  rintro e w2 ⟨⟨bl2, rfl, hbl2⟩, b2⟩
  have B2 : Below w.heap.size w w2 := HB1.out.trans ((((Below.refl _ _).alloc (Nat.le_refl _) _).trans (b2.mono (by simp))).mono HB1.out.size)
  have K2 := HK1.out.below (((Below.refl _ _).alloc (Nat.le_refl _) _).trans (b2.mono (by simp)))
  have HB2 := Lib.hid B2
  cases bl2
  · go_wp2_with (go_at_call 5; refine (dalive_any _).mono ?_; rintro e w3 ⟨rfl, b3⟩)
    go_ret
    exact ⟨rfl, HB2.out.trans (b3.mono HB2.out.size)⟩
  have HSX := Lib.hid (hbl2 rfl).2
  clear k0 k1 k2 k3 k4 k5 k6 hbl2 b2 B2
  have k0 := K2.cell 0
  have HK2 := Lib.hid K2
  clear K2
  by_cases h11 : x.kind = 11
  · go_wp2_with (go_at_call 5; refine (dalive_any _).mono ?_; rintro e w3 ⟨rfl, b3⟩)
    go_ret
    exact ⟨rfl, HB2.out.trans (b3.mono HB2.out.size)⟩
  go_wp2_with (first
    | (go_at_call 5; refine (dalive_any _).mono ?_; rintro e w3 ⟨rfl, b3⟩; have HB3 := Lib.hid (HB2.out.trans (b3.mono HB2.out.size)); have HK3 := Lib.hid (HK2.out.below b3))
    | (go_at_call 6; refine (lnew room w3).mono ?_; rintro e w4 ⟨gd, rfl, L4, b4⟩
       have HL4 := Lib.hid L4; have HB4 := Lib.hid (HB3.out.trans (b4.mono HB3.out.size)); have HK4 := Lib.hid (HK3.out.below b4); clear L4 b4))
  have HSZ := Lib.hid HB3.out.size
  clear b3 k0
  go_loopw [8] (fun u8 wr => ∃ (k : Nat) (d : Ds), k ≤ n ∧ u8 = .int .i64 k ∧ Hid (LiveAt wr w3.heap.size d gd) ∧ Hid d.fine ∧ Hid (d.ws.length ≤ k) ∧ Hid (Below w.heap.size w wr) ∧ Hid (Blk wr w.heap.size 25 #[.int .i64 x.kind, .string x.s, .string x.t, .int .i64 x.a, .int .i64 x.b, .bool x.own, .slice x.A x.n x.c])) (fun u8 _ => n - (intOf u8).toNat)
  case atStart => exact ⟨0, newD room, by omega, rfl, HL4, ⟨newD_live _, newD_rd _, by simp [newD], by simp [newD]⟩, by simp [newD, Hid], HB4, HK4⟩
  case round =>
    obtain ⟨k, d, hk, rfl, HL, HF, HWS, HB, HK⟩ := hrel
    clear HL4 HB4 HK4
    by_cases hlt : k < n
    · obtain ⟨bb, o, y, rfl, hbb, hy, d0, d1, d2, d3, d4, d5, d6⟩ := (HR.out.below HB.out).opd (k := k) (by have := HN.out; omega)
      have hki : (k : Int) < (n : Int) := by omega
      obtain ⟨hb0, m, hg, D⟩ := HL.out
      have hmem := List.mem_of_getElem? hy
      obtain ⟨_, fr, fl, _⟩ := HFI.out y hmem
      have hsy := sumD_mem hmem
      have hny : y.n ≤ 6000 := by have := HSUM.out; unfold sumOp at hsy; omega
      have HO := Lib.hid (one_any y wr D hb0 HF.out (by have := HWS.out; omega) (fr.below HB.out) fl (by omega) (fun h0 a ha => by have := rd_low fr (by omega) a ha; have := HSZ.out; omega))
      rw [hg] at HO
      have HNB : Hid (¬ mineD d m w.heap.size) := fun hq => by have := (D.mine_lt _ hq).1; have := HK.out; have h5 := HSZ.out; have h6 := HKX.out.lt; have h7 := HB3.out.size; have h8 := HK3.out.lt; omega
      have HWR := Lib.hid hb0
      clear hb0 D fr fl hsy hmem hny hy
      go_wp2_with (go_at_call 7; refine HO.out.mono ?_; rintro e w5 ⟨rfl, L5⟩)
      obtain ⟨⟨⟨d', L6, F6, W6⟩, B6⟩, FR6⟩ := L5
      rw [hg] at L6
      have HL6 := Lib.hid L6
      have HF6 := Lib.hid F6
      have HW6 : Hid (d'.ws.length ≤ k + 1) := by have := HWS.out; unfold Hid; omega
      have HB6 : Hid (Below w.heap.size w w5) := HB.out.trans (B6.mono HSZ.out)
      have HK6 := Lib.hid (HK.out.frm FR6 HNB.out)
      clear L6 F6 W6 B6 FR6
      go_wp2
      go_roundw
      case rel => exact ⟨k + 1, d', by omega, by go_num, HL6, HF6, HW6, HB6, HK6⟩
      case measure => simp [intOf]; omega
    · obtain rfl : n = k := by omega
      obtain ⟨hb0, m, rfl, D⟩ := HL.out
      obtain ⟨L, hL⟩ : ∃ L, listD d ⟨#[]⟩ = L := ⟨_, rfl⟩
      have hLl : L.length ≤ 60 := by rw [← hL]; exact listD_len D.ok _
      obtain ⟨us, hus⟩ : ∃ us : Int, us = (usedD d : Nat) := ⟨_, rfl⟩
      obtain ⟨dy, hdy⟩ : ∃ dy : Int, dy = (d.ws.length : Nat) := ⟨_, rfl⟩
      obtain ⟨on, hon⟩ : ∃ on : Bool, (!d.off) = on := ⟨_, rfl⟩
      have HLS : Hid (∀ (W : World) (b : Nat) (M : DM), DiskAt W b d M → Calls Try.prog 9 #[.pointer (some ⟨M.g, 0, none⟩), .string ⟨#[]⟩] W fun e w' => (∃ A c, e = .returned (.slice A L.length c) ∧ Rd w' A (L.map .string) ∧ ∀ a, A = some a → W.heap.size ≤ a.block) ∧ Below W.heap.size W w') := fun W _ _ h => dlist_rd W h L hL
      have HUS : Hid (∀ (W : World) (b : Nat) (M : DM), DiskAt W b d M → Calls Try.prog 10 #[.pointer (some ⟨M.g, 0, none⟩)] W fun e w' => e = .returned (.int .i64 us) ∧ Below W.heap.size W w') := fun W _ _ h => by rw [hus]; exact dused_any W h
      have HDY : Hid (∀ (W : World) (b : Nat) (M : DM), DiskAt W b d M → Calls Try.prog 11 #[.pointer (some ⟨M.g, 0, none⟩)] W fun e w' => e = .returned (.int .i64 dy) ∧ w' = W) := fun W _ _ h => by rw [hdy]; exact ddirty_any W h
      have HON : Hid (∀ (W : World) (b : Nat) (M : DM), DiskAt W b d M → Calls Try.prog 13 #[.pointer (some ⟨M.g, 0, none⟩)] W fun e w' => e = .returned (.bool on) ∧ w' = W) := fun W _ _ h => by rw [← hon]; exact don_any W h
      have HSM := Lib.hid fun A B c c' W ha hb => same_yes A B c c' L W ha hb hLl
      have hTw := dtwin_any wr D HF.out
      have HTW := Lib.hid hTw
      have HD : Hid (∀ W, Below wr.heap.size wr W → DiskAt W w3.heap.size d m) := fun _ h => D.below h
      have HXA : Hid (∀ (W : World) (b : Nat) (M : DM), DiskAt W b d M → b ≤ W.heap.size → w.heap.size ≤ b → Below w.heap.size w W → Calls Try.prog 7 #[.pointer (some ⟨M.g, 0, none⟩), opV x] W fun e w' => e = .returned (.tuple #[]) ∧ Left2 W b M d w') := fun W b M h hb hwb hB => by
        obtain ⟨_, fr, fl, _⟩ := HX.out
        have hnx : x.n ≤ 6000 := by have h1 := HSX.out; have h2 := sumD_mem (L := [x]) (x := x) (by simp); unfold sumOp at h2; omega
        exact one_any x W h hb HF.out (by have := HWS.out; omega) (fr.below hB) fl (by omega) (fun h0 a ha => by have := rd_low fr (by omega) a ha; omega)
      have hu1 : ((us : Int) != us) = false := by simp
      have hu2 : ((us : Int) == us) = true := by simp
      have hd1 : ((dy : Int) != dy) = false := by simp
      have hd2 : ((dy : Int) == dy) = true := by simp
      have ho1 : ((on : Bool) != on) = false := by simp
      have HWB : Hid (w.heap.size ≤ wr.heap.size) := HB.out.size
      clear hb0 D hL hLl hus hdy hon hTw
      have HWR : Hid (Blk wr w.heap.size 25 #[.int .i64 x.kind, .string x.s, .string x.t, .int .i64 x.a, .int .i64 x.b, .bool x.own, .slice x.A x.n x.c]) := HK.out
      clear HK HL HF HWS
      go_wp2_with fail
      refine HTW.out.mono ?_
      rintro e w5 ⟨mt, rfl, DT, B5⟩
      have HDT := Lib.hid DT
      have HB5 := Lib.hid B5
      clear DT B5 HTW
      go_wp2_with fail
      refine (HLS.out _ _ _ (HD.out _ HB5.out)).mono ?_
      rintro e w6 ⟨⟨A6, c6, rfl, R6, lo6⟩, b6⟩
      have HR6 := Lib.hid R6
      have HLO := Lib.hid lo6
      have HC6 := Lib.hid b6
      have HB6 := Lib.hid (HB5.out.trans (b6.mono HB5.out.size))
      clear R6 lo6 b6
      go_wp2_with fail
      refine (HUS.out _ _ _ (HD.out _ HB6.out)).mono ?_
      rintro e w7 ⟨rfl, b7⟩
      have HR7 := Lib.hid (HR6.out.below b7)
      have HC7 := Lib.hid (HC6.out.trans (b7.mono HC6.out.size))
      have HB7 := Lib.hid (HB6.out.trans (b7.mono HB6.out.size))
      clear b7 HR6 HC6 HB6
      go_wp2_with fail
      refine (HDY.out _ _ _ (HD.out _ HB7.out)).mono ?_
      rintro e w7b ⟨rfl, h7⟩
      obtain rfl : w7 = w7b := h7.symm
      go_wp2_with fail
      refine (HLS.out _ _ _ (HDT.out.below HC7.out)).mono ?_
      rintro e w8 ⟨⟨A8, c8, rfl, R8, _⟩, b8⟩
      have HR8 := Lib.hid R8
      have HQ8 := Lib.hid (HR7.out.below b8)
      have HC8 := Lib.hid (HC7.out.trans (b8.mono HC7.out.size))
      have HB8 := Lib.hid (HB7.out.trans (b8.mono HB7.out.size))
      clear R8 b8 HR7 HC7 HB7
      go_wp2_with fail
      refine (HSM.out _ _ _ _ _ HR8.out HQ8.out).mono ?_
      rintro e w9 ⟨rfl, b9⟩
      have HQ9 := Lib.hid (HQ8.out.below b9)
      have HC9 := Lib.hid (HC8.out.trans (b9.mono HC8.out.size))
      have HB9 := Lib.hid (HB8.out.trans (b9.mono HB8.out.size))
      clear b9 HR8 HQ8 HC8 HB8
      go_wp2_with fail
      refine (HUS.out _ _ _ (HDT.out.below HC9.out)).mono ?_
      rintro e w10 ⟨rfl, b10⟩
      have HQ10 := Lib.hid (HQ9.out.below b10)
      have HC10 := Lib.hid (HC9.out.trans (b10.mono HC9.out.size))
      have HB10 := Lib.hid (HB9.out.trans (b10.mono HB9.out.size))
      clear b10 HQ9 HC9 HB9
      go_wp2_with fail
      refine (HDY.out _ _ _ (HDT.out.below HC10.out)).mono ?_
      rintro e w10b ⟨rfl, h10⟩
      obtain rfl : w10 = w10b := h10.symm
      go_wp2_with fail
      refine (HON.out _ _ _ (HDT.out.below HC10.out)).mono ?_
      rintro e w10b ⟨rfl, h11⟩
      obtain rfl : w10 = w10b := h11.symm
      go_wp2_with fail
      refine (HON.out _ _ _ (HD.out _ HB10.out)).mono ?_
      rintro e w10b ⟨rfl, h12⟩
      obtain rfl : w10 = w10b := h12.symm
      have K10 := HWR.out.below HB10.out
      have k0 := K10.cell 0
      have k1 := K10.cell 1
      have k2 := K10.cell 2
      have k3 := K10.cell 3
      have k4 := K10.cell 4
      have k5 := K10.cell 5
      have k6 := K10.cell 6
      clear K10
      go_wp2_with fail
      refine (HXA.out _ _ _ (HDT.out.below HC10.out) HB10.out.size HWB.out (HB.out.trans (HB10.out.mono HWB.out))).mono ?_
      rintro e w11 ⟨rfl, L11⟩
      have HQ11 := Lib.hid (HQ10.out.frm L11.2 (fun a ha hm => by have h1 := (HDT.out.mine_lt _ hm).2; have h2 := HLO.out a ha; omega))
      have HB11 := Lib.hid (HB10.out.trans L11.1.2)
      clear L11 HQ10 HC10 HB10 k0 k1 k2 k3 k4 k5 k6
      go_wp2_with fail
      refine (HLS.out _ _ _ (HD.out _ HB11.out)).mono ?_
      rintro e w12 ⟨⟨A12, c12, rfl, R12, _⟩, b12⟩
      have HR12 := Lib.hid R12
      have HQ12 := Lib.hid (HQ11.out.below b12)
      have HB12 := Lib.hid (HB11.out.trans (b12.mono HB11.out.size))
      clear R12 b12 HQ11 HB11
      go_wp2_with fail
      refine (HSM.out _ _ _ _ _ HR12.out HQ12.out).mono ?_
      rintro e w13 ⟨rfl, b13⟩
      have HB13 := Lib.hid (HB12.out.trans (b13.mono HB12.out.size))
      clear b13 HR12 HQ12 HB12
      go_wp2_with fail
      refine (HUS.out _ _ _ (HD.out _ HB13.out)).mono ?_
      rintro e w14 ⟨rfl, b14⟩
      have HB14 := Lib.hid (HB13.out.trans (b14.mono HB13.out.size))
      clear b14 HB13
      go_wp2_with fail
      refine (HDY.out _ _ _ (HD.out _ HB14.out)).mono ?_
      rintro e w14b ⟨rfl, h14⟩
      obtain rfl : w14 = w14b := h14.symm
      go_wp2
      go_ret
      exact ⟨rfl, HB.out.trans (HB14.out.mono HWB.out)⟩
end Go.Proofs.Ytfgpadikmnhldaa
