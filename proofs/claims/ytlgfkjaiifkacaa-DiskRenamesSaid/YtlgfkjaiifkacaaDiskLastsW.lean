/-
  DiskLasts, walked: it is true. Condition: bytes and keeps that can be read.
-/
import Derived.Test.YtlgfkjaiifkacaaDiskLastsS
import Derived.Test.YtlgfkjaiifkacaaDiskVA
import Derived.Test.YtlgfkjaiifkacaaDiskZ
import Derived.Test.YtlgfkjaiifkacaaOne
namespace Go.Proofs.Ytlgfkjaiifkacaa
open Go Go.RowKit
attribute [local go_sem] cell_set_if

theorem wrap_u8 (z : Int) : IntKind.u8.wrap z = ((UInt8.ofInt z).toNat : Int) := by
  show z.emod 256 = _
  unfold UInt8.ofInt
  rw [UInt8.toNat_ofNat']
  have h0 := Int.emod_nonneg z (show (256 : Int) ≠ 0 by decide)
  have h1 := Int.emod_lt_of_pos z (show (0 : Int) < 256 by decide)
  have e : z.emod 256 = z % 256 := rfl
  have e2 : (2 : Nat) ^ 8 = 256 := rfl
  rw [e, e2]
  show z % 256 = (((z % (2 ^ 8 : Int)).toNat % 256 : Nat) : Int)
  rw [show (2 ^ 8 : Int) = 256 from rfl]
  omega
/-- A byte that is converted to a text. -/
theorem byte_str (w : World) (b : UInt8) : (convert 34 9 (.slice (some ⟨w.heap.size, 0, none⟩) 1 1)).run Try.prog (w.alloc (.cells #[.int .u8 (b.toNat : Int)] 5)) = .ok (.string (bs [b])) (w.alloc (.cells #[.int .u8 (b.toNat : Int)] 5)) :=
  run_bytes_str (P := Try.prog) _ 34 9 5 Try.underlying34 Try.underlying5 Try.underlying9 (some ⟨w.heap.size, 0, none⟩) 1 1 [b] (Rd.one _ _ _) rfl
/-- A byte of a slice, its text, and its sector. -/
structure ByteAt (w : World) (A : Option Addr) (z : List Int) (i : Nat) (b o : Nat) (v : Int) (u : UInt8) (x : ByteArray) : Prop where
  adr : A = some ⟨b, o, none⟩
  cell : w.cell? ⟨b, o + i, none⟩ = some (.int .i64 v)
  wrap : IntKind.u8.wrap v = (u.toNat : Int)
  fill : ∀ w : World, Calls Try.prog 11 #[.string (bs [u]), .bool true] w fun e w' => e = .returned (.string x) ∧ Below w.heap.size w w'
  size : x.size = 256
  sec : (fillX z)[i]? = some x
theorem byte_at_ {w wr : World} {B : Nat} {A : Option Addr} {z : List Int} (hr : Rd w A (flatZ z)) (hb : Below B w wr) (hB : w.heap.size ≤ B) {i : Nat} (hi : i < z.length) : ∃ b o v u x, ByteAt wr A z i b o v u x := by
  obtain ⟨b, o, v, hA, hbl, hv, hc⟩ := hr.num hi
  refine ⟨b, o, v, UInt8.ofInt v, fillS (oneB v), hA, ?_, wrap_u8 v, fun w => fill_any (oneB v) true w, fillS_size _, fillX_at hv⟩
  rw [hb.cell (p := ⟨b, o + i, none⟩) (by show b < B; omega)]; exact hc
theorem ByteAt.below {w w' : World} {A : Option Addr} {z : List Int} {i b o : Nat} {v : Int} {u : UInt8} {x : ByteArray} (h : ByteAt w A z i b o v u x) (k : Below w.heap.size w w') : ByteAt w' A z i b o v u x :=
  ⟨h.adr, (k.cell (block_lt_of_cell h.cell)).trans h.cell, h.wrap, h.fill, h.size, h.sec⟩

set_option maxRecDepth 100000 in
set_option maxHeartbeats 2000000 in
theorem disklasts_no (A0 A2 : Option Addr) (n0 c0 n2 c2 : Nat) (sy : Int) (w : World) (m0 : n0 ≤ 9223372036854775807) (m2 : n2 ≤ 9223372036854775807) (h : 30 < n0 ∨ 100 < n2 ∨ sy < 0 ∨ (n0 : Int) < sy) :
    Calls Try.prog 4 #[.slice A0 n0 c0, .int .i64 sy, .slice A2 n2 c2] w fun e w' => e = .returned (.bool true) ∧ Below w.heap.size w w' := by
  have hc : (30 : Int) < n0 ∨ ((n0 : Int) ≤ 30 ∧ (100 : Int) < n2) ∨ ((n0 : Int) ≤ 30 ∧ (n2 : Int) ≤ 100 ∧ sy < 0) ∨ ((n0 : Int) ≤ 30 ∧ (n2 : Int) ≤ 100 ∧ 0 ≤ sy ∧ (n0 : Int) < sy) := by omega
  clear h m0 m2
  rcases hc with h | ⟨h, h1⟩ | ⟨h, h1, h2⟩ | ⟨h, h1, h2, h3⟩
  all_goals
    go_enter Try.func4, Try.ntmps4
    go_wp2_with (go_at_call 6; refine (dalive_any _).mono ?_; rintro e wa ⟨rfl, ba⟩)
    go_ret
    exact ⟨rfl, ba⟩

set_option maxRecDepth 100000 in
set_option maxHeartbeats 8000000 in
theorem disklasts_yes (A0 A2 : Option Addr) (n0 c0 n2 c2 : Nat) (sy : Nat) (z0 z2 : List Int) (w : World) (r0 : Rd w A0 (flatZ z0)) (e0 : z0.length = n0) (r2 : Rd w A2 (flatZ z2)) (e2 : z2.length = n2) (h0 : n0 ≤ 30) (h2 : n2 ≤ 100) (hs : sy ≤ n0) :
    Calls Try.prog 4 #[.slice A0 n0 c0, .int .i64 sy, .slice A2 n2 c2] w fun e w' => e = .returned (.bool true) ∧ Below w.heap.size w w' := by
  obtain ⟨nm, hnm⟩ : ∃ nm : ByteArray, nm = ⟨#[97]⟩ := ⟨_, rfl⟩
  have hnok : nameOk nm = true := by rw [hnm]; rfl
  obtain ⟨d0, d1, sz, ez, hF⟩ := lasts_facts hnok (X := fillX z0) (sy := sy) (m := n0) (by rw [fillX_len]; exact e0) hs z2
  have HNM := Lib.hid hnm
  have HNO := Lib.hid hnok
  have HF := Lib.hid hF
  have R0 := Lib.hid r0
  have R2 := Lib.hid r2
  have E0 := Lib.hid e0
  have E2 := Lib.hid e2
  have h0' : (n0 : Int) ≤ 30 := by omega
  have h2' : (n2 : Int) ≤ 100 := by omega
  have hs' : (sy : Int) ≤ (n0 : Int) := by omega
  have hd1 : decide ((sy : Int) < 0) = false := decide_eq_false (by omega)
  have hd2 : decide ((n0 : Int) < (sy : Int)) = false := decide_eq_false (by omega)
  clear r0 r2 e0 e2 hnm hnok hF
  go_enter Try.func4, Try.ntmps4
  go_wp2_with (first
    | (go_at_call 6; refine (dalive_any _).mono ?_; rintro e wa ⟨rfl, ba⟩)
    | (go_at_call 7; refine (lnew 0 _).mono ?_; rintro e w1 ⟨g, rfl, L1, b1⟩))
  have HBA := Lib.hid ba
  obtain ⟨base, hbase⟩ : ∃ base, base = wa.heap.size := ⟨_, rfl⟩
  rw [← hbase] at L1 b1
  have hwb : w.heap.size ≤ base := by have := ba.size; omega
  have hB1 : Below w.heap.size w w1 := ba.trans (b1.mono hwb)
  have L1' : LiveAt w1 base (oneD nm (fillX z0) (saN sy 0) 0) g := by
    have : saN sy 0 = 0 := by have := saN_le sy 0; omega
    rw [this]; exact L1
  have HWB := Lib.hid hwb
  clear ba hbase b1 L1 hwb
  go_loopw [6, 8] (fun _ u8 wr => ∃ i : Nat, i ≤ n0 ∧ u8 = .int .i64 i ∧ Hid (LiveAt wr base (oneD nm (fillX z0) (saN sy i) i) g) ∧ Hid (Below w.heap.size w wr)) (fun _ u8 _ => n0 - (intOf u8).toNat)
  case atStart => exact ⟨0, by omega, rfl, L1', hB1⟩
  case round =>
    obtain ⟨i, hi, rfl, HL, HB⟩ := hrel
    clear L1' hB1
    by_cases hlt : i < n0
    · have hlti : (i : Int) < (n0 : Int) := by omega
      obtain ⟨bk, o, v, u, x, hx⟩ := byte_at_ R0.out HB.out (Nat.le_refl _) (i := i) (by have := E0.out; omega)
      obtain ⟨rfl, hcell, hwrap, hfill, hsize, hsec⟩ := hx
      have HFI := Lib.hid hfill
      have HSZ : Hid (x.size ≤ 281474976710656) := by unfold Hid; omega
      have hwd := oneD_write (nm := nm) (X := fillX z0) (sa := saN sy i) HNO.out hsec hsize (saN_le _ _) (by omega)
      rw [HNM.out] at hwd
      have HWD := Lib.hid hwd
      have hcv := byte_str wr u
      have ba : Below wr.heap.size wr (wr.alloc (.cells #[.int .u8 (u.toNat : Int)] 5)) := (Below.refl _ _).alloc (Nat.le_refl _) _
      have HBA1 := Lib.hid ba
      clear hfill hsize hsec hwd ba
      by_cases hnow : i + 1 = sy
      · have hnowi : (i : Int) + 1 = (sy : Int) := by omega
        have hsd := oneD_sync (nm := nm) (X := fillX z0) (sa := saN sy i) (i := i + 1) HNO.out (by omega)
        rw [HNM.out] at hsd
        have HSD := Lib.hid hsd
        have HNOW := Lib.hid hnow
        clear hnow hsd
        go_wp2_with (first
          | (go_at_call 11; refine (HFI.out _).mono ?_; rintro e w2 ⟨rfl, b2⟩
             have HL2 := Lib.hid ((HL.out.below HBA1.out).below b2)
             have HB2 := Lib.hid ((HB.out.trans (HBA1.out.mono HB.out.size)).trans (b2.mono (HB.out.trans (HBA1.out.mono HB.out.size)).size))
             have HW2 := Lib.hid (lwrite (d := oneD ⟨#[97]⟩ (fillX z0) (saN sy i) i) (HNM.out ▸ HL2.out) (oneD_fine (saN_le _ _) (by omega)) HSZ.out HWD.out))
          | (go_at_call 10; with_reducible refine HW2.out.mono ?_; rintro e w3 ⟨rfl, L3, b3⟩
             have HL3 := Lib.hid L3
             have HB3 := Lib.hid (HB2.out.trans (b3.mono HWB.out))
             have HS3 := Lib.hid (lsync (d := oneD ⟨#[97]⟩ (fillX z0) (saN sy i) (i + 1)) HL3.out (oneD_fine (Nat.le_trans (saN_le _ _) (by omega)) (by omega)) HSD.out))
          | (go_at_call 9; go_loud (
             with_reducible refine HS3.out.mono ?_
             rintro e w4 ⟨rfl, L4, b4⟩
             have HL4 := Lib.hid L4
             have HB4 := Lib.hid (HB3.out.trans (b4.mono HWB.out)))))
        go_roundw
        case rel => exact ⟨sy, by omega, by go_num, by rw [saN_now, HNM.out, ← HNOW.out]; exact HL4.out, HB4.out⟩
        case measure => simp [intOf]; omega
      · have hnd : decide ((i : Int) + 1 = (sy : Int)) = false := decide_eq_false (by omega)
        have hnd1 : ¬ (i : Int) + 1 = (sy : Int) := by omega
        have hnd2 : decide (i + 1 = sy) = false := decide_eq_false hnow
        have HNOW := Lib.hid hnow
        clear hnow
        go_wp2_with (first
          | (go_at_call 11; refine (HFI.out _).mono ?_; rintro e w2 ⟨rfl, b2⟩
             have HL2 := Lib.hid ((HL.out.below HBA1.out).below b2)
             have HB2 := Lib.hid ((HB.out.trans (HBA1.out.mono HB.out.size)).trans (b2.mono (HB.out.trans (HBA1.out.mono HB.out.size)).size))
             have HW2 := Lib.hid (lwrite (d := oneD ⟨#[97]⟩ (fillX z0) (saN sy i) i) (HNM.out ▸ HL2.out) (oneD_fine (saN_le _ _) (by omega)) HSZ.out HWD.out))
          | (go_at_call 10; with_reducible refine HW2.out.mono ?_; rintro e w3 ⟨rfl, L3, b3⟩
             have HL3 := Lib.hid L3
             have HB3 := Lib.hid (HB2.out.trans (b3.mono HWB.out))))
        go_roundw
        case rel => exact ⟨i + 1, by omega, by go_num, by rw [saN_same HNOW.out, HNM.out]; exact HL3.out, HB3.out⟩
        case measure => simp [intOf]; omega
    · obtain rfl : n0 = i := by omega
      have hcr := HF.out.crash
      have hsz := HF.out.size
      obtain ⟨N, hN⟩ : ∃ N, N = lostN z2 (n0 - sy) := ⟨_, rfl⟩
      rw [← hN] at hcr
      have HN := Lib.hid hN
      clear hN
      rw [HNM.out] at hcr hsz
      have hL : LiveAt wr base (oneD ⟨#[97]⟩ (fillX z0) sy n0) g := by have := HL.out; rwa [saN_end hs, HNM.out] at this
      have hR2 : Rd wr A2 (flatZ z2) := R2.out.below HB.out
      have hA2 : 0 < n2 → ∀ a, A2 = some a → a.block < base ∨ TyAt wr a.block 3 := fun hn a ha => by
        obtain ⟨bb, oo, e1, e2, _⟩ := R2.out.flat (by rw [flatZ_len, E2.out]; omega)
        rw [e1] at ha
        obtain rfl := Option.some.inj ha
        exact .inl (Nat.lt_of_lt_of_le e2 HWB.out)
      have HC := Lib.hid (lcrash (A := A2) (n := n2) (c := c2) hL (oneD_fine hs (by omega)) hR2 E2.out (by omega) hA2 hcr)
      have HSZ := Lib.hid hsz
      clear hlt hi hcr hsz hL hR2 hA2
      go_wp2_with (first
        | (go_at_call 15; with_reducible refine HC.out.mono ?_; rintro e w4 ⟨rfl, L4, b4⟩
           have HB4 := Lib.hid (HB.out.trans (b4.mono HWB.out))
           have HR4 := Lib.hid (lrestore L4))
        | (go_at_call 13; with_reducible refine HR4.out.mono ?_; rintro e w5 ⟨rfl, L5, b5⟩
           have HB5 := Lib.hid (HB4.out.trans (b5.mono HWB.out))
           have HL5 : Hid (LiveAt w5 base d1 g) := by have := L5; rwa [HF.out.back] at this
           have HS5 := Lib.hid (lsize HL5.out HSZ.out))
        | (go_at_call 14; with_reducible refine HS5.out.mono ?_; rintro e w6 ⟨rfl, b6⟩
           have HL6 := Lib.hid (HL5.out.below b6)
           have HB6 := Lib.hid (HB5.out.trans (b6.mono HB5.out.size))))
      clear HL HB HC HSZ
      go_loopw [6, 12, 13] (fun _ u12 u13 wr => ∃ j lo : Nat, sy ≤ j ∧ j ≤ n0 ∧ u13 = .int .i64 j ∧ u12 = .int .i64 lo ∧ lo ≤ 30 ∧ Hid (lo = lostN z2 (j - sy)) ∧ Hid (LiveAt wr base d1 g) ∧ Hid (Below w.heap.size w wr)) (fun _ _ u13 _ => n0 - (intOf u13).toNat)
      case atStart => exact ⟨sy, 0, Nat.le_refl _, hs, rfl, rfl, by omega, by unfold Hid; rw [Nat.sub_self]; rfl, HL6.out, HB6.out⟩
      case round =>
        clear HL6 HB6
        obtain ⟨j, lo, hsj, hj, rfl, rfl, hlo, HLO, HL, HB⟩ := hrel
        by_cases hlt : j < n0
        · have hlti : (j : Int) < (n0 : Int) := by omega
          obtain ⟨q, hq⟩ : ∃ q : Nat, q = j - sy := ⟨_, rfl⟩
          have hqi : (j : Int) - (sy : Int) = (q : Int) := by omega
          obtain ⟨bk, o, v, u, x, hx⟩ := byte_at_ R0.out HB.out (Nat.le_refl _) (i := j) (by have := E0.out; omega)
          obtain ⟨kk, hkk⟩ : ∃ kk, keptD z2 q = kk := ⟨_, rfl⟩
          have hkk256 : kk ≤ 256 := by rw [← hkk]; exact keptD_le _ _
          have hls := lostN_succ z2 q
          rw [hkk, hq, ← HLO.out] at hls
          have HLS : Hid (lostN z2 (j + 1 - sy) = lo + if kk < 256 then 1 else 0) := by unfold Hid; rw [show j + 1 - sy = j - sy + 1 by omega]; exact hls
          have HRN : Hid (0 < kk → readD d1 ⟨#[97]⟩ (j : Int) = (x.extract 0 kk ++ zeros256.extract kk 256, 0)) := by
            intro h
            have := HF.out.new j x hsj hx.sec hlt (by rw [← hq, hkk]; exact h)
            rwa [← hq, hkk, HNM.out] at this
          have HKK := Lib.hid hkk
          have HX := Lib.hid hx
          have HQ := Lib.hid hq
          clear hkk hls hx hq HLO
          go_upto_if 96 with fail
          go_cut [14] from 85 to 149 (fun u14 wx => u14 = .int .i64 (kk : Nat) ∧ wx = wr)
          case first =>
            by_cases hkn : q < n2
            · have hkni : (q : Int) < (n2 : Int) := by omega
              obtain ⟨bz, oz, z, rfl, hbl, hz, dz⟩ := R2.out.num (k := q) (by have := E2.out; omega)
              have dz' : wr.cell? ⟨bz, oz + q, none⟩ = some (.int .i64 z) := (HB.out.cell (p := ⟨bz, oz + q, none⟩) hbl).trans dz
              have hk2 := kept_at hz
              rw [HKK.out] at hk2
              obtain ⟨y, hy⟩ : ∃ y, max z 0 = y := ⟨_, rfl⟩
              rw [hy] at hk2
              have hy0 : 0 ≤ y := by omega
              have HK2 := Lib.hid hk2
              clear hz hk2 dz
              go_wp2
              go_meet
              case rel => exact ⟨by have := HK2.out; (rw [show (kk : Int) = min y 256 by omega]) <;> rfl, rfl⟩
            · have hkni : (n2 : Int) ≤ (q : Int) := by omega
              have hk2 := kept_no (keep := z2) (k := q) (by have := E2.out; omega)
              rw [HKK.out] at hk2
              subst hk2
              go_wp2
              go_meet
              case rel => exact ⟨rfl, rfl⟩
          case rest =>
            obtain ⟨rfl, rfl⟩ := hcut
            by_cases hk0 : kk = 0
            · subst hk0
              go_wp2
              go_roundw
              case rel => exact ⟨j + 1, lo + 1, by omega, by omega, by go_num, by go_num, by have := HLS.out; have := lostN_le z2 (j + 1 - sy); rw [if_pos (by omega)] at *; omega, by have := HLS.out; unfold Hid; rw [this]; rfl, HL.out, HB.out⟩
              case measure => simp [intOf]; omega
            · have hk0i : 0 < (kk : Int) := by omega
              have hkki : (kk : Int) ≤ 256 := by omega
              obtain ⟨rfl, hcell, hwrap, hfill, hsize, hsec⟩ := HX.out
              obtain ⟨y, hy⟩ : ∃ y, y = x.extract 0 kk ++ zeros256.extract kk 256 := ⟨_, rfl⟩
              have hrd := HRN.out (by omega)
              rw [← hy] at hrd
              obtain ⟨p1, p2, p3⟩ := left_parts hsize hkk256
              rw [← hy] at p1 p2 p3
              obtain ⟨zk, hzk⟩ : ∃ zk : Nat, zk = 256 - kk := ⟨_, rfl⟩
              have hzi : (256 : Int) - (kk : Int) = (zk : Int) := by omega
              rw [← hzk] at p3
              obtain ⟨Z, hZ⟩ : ∃ Z, Z = bs (List.replicate zk 0) := ⟨_, rfl⟩
              have HZC : Hid (∀ W, Calls Try.prog 17 #[.int .i64 zk] W fun e w' => e = .returned (.string Z) ∧ Below W.heap.size W w') := fun W => by rw [hZ]; exact rzeros_any zk W (by omega)
              have hB1 : ((y.extract 0 kk).toList == (x.extract 0 kk).toList) = true := by rw [str_beq, p2]; exact decide_eq_true rfl
              have hB2 : ((y.extract kk 256).toList == Z.toList) = true := by rw [str_beq, p3, hZ, bts_bs]; exact decide_eq_true rfl
              have hB3 : ((y.extract kk y.size).toList == Z.toList) = true := by rw [p1]; exact hB2
              have HRD := Lib.hid (lread HL.out hrd)
              have hcv : ∀ W : World, (convert 34 9 (.slice (some ⟨W.heap.size, 0, none⟩) 1 1)).run Try.prog (W.alloc (.cells #[.int .u8 (u.toNat : Int)] 5)) = .ok (.string (bs [u])) (W.alloc (.cells #[.int .u8 (u.toNat : Int)] 5)) := fun W => byte_str W u
              have HCV := Lib.hid hcv
              have HFI := Lib.hid hfill
              have HY6 : Hid (y.size = 256) := p1
              have HX6 : Hid (x.size = 256) := hsize
              have HB1 := Lib.hid hB1
              have HB2 := Lib.hid hB2
              have HB3 := Lib.hid hB3
              have HZI := Lib.hid hzi
              have HK := Lib.hid hkki
              clear hy hrd p1 p2 p3 hzk hZ hcv hfill hsize hsec hB1 hB2 hB3 hzi hkki HRN
              have hk1 : decide ((kk : Int) = 0) = false := decide_eq_false (by omega)
              go_upto_if 106 with fail
              go_cut [12] from 107 to 149 (fun u12 wx => ∃ lo2 : Nat, u12 = .int .i64 lo2 ∧ Hid (lo2 = lo + if kk < 256 then 1 else 0) ∧ wx = wc)
              case first =>
                by_cases hk6 : kk < 256
                · have hk6i : (kk : Int) < 256 := by omega
                  go_wp2
                  go_meet
                  case rel => exact ⟨lo + 1, by go_num, by unfold Hid; rw [if_pos hk6], rfl⟩
                · have hk6i : ¬ (kk : Int) < 256 := by omega
                  go_wp2
                  go_meet
                  case rel => exact ⟨lo, rfl, by unfold Hid; rw [if_neg hk6]; rfl, rfl⟩
              case rest =>
              obtain ⟨lo2, rfl, HLO2, rfl⟩ := hcut
              go_upto_region 28 with (first
                | (go_at_call 16; with_reducible refine HRD.out.mono ?_; rintro e w6 ⟨rfl, b6⟩
                   have HL6 := Lib.hid (HL.out.below b6)
                   have HB6 := Lib.hid (HB.out.trans (b6.mono HB.out.size))
                   have hcell6 := cell_b b6 hcell
                   have hcv6 := HCV.out w6
                   have ba6 : Below w6.heap.size w6 (w6.alloc (.cells #[.int .u8 (u.toNat : Int)] 5)) := (Below.refl _ _).alloc (Nat.le_refl _) _
                   have HL7 := Lib.hid (HL6.out.below ba6)
                   have HB7 := Lib.hid (HB6.out.trans (ba6.mono HB6.out.size)))
                | (go_at_call 11; refine (HFI.out _).mono ?_; rintro e w8 ⟨rfl, b8⟩
                   have HL8 := Lib.hid (HL7.out.below b8)
                   have HB8 := Lib.hid (HB7.out.trans (b8.mono HB7.out.size))))
              have hB1 := HB1.out
              have hB2 := HB2.out
              have hB3 := HB3.out
              have hzi := HZI.out
              have hy6 := HY6.out
              have hx6 := HX6.out
              have hkk := HK.out
              have hy6i : (y.size : Int) = 256 := by omega
              have hx6i : (x.size : Int) = 256 := by omega
              have hyn : (y.size == 256) = true := by rw [hy6]; rfl
              refine wp_region_quiet_new (by kernel_rfl) (by kernel_rfl) ?_
              repeat (go_big_quiet_step (first
                | (go_at_call 17; with_reducible exact NewM.call (HZC.out _))))
              refine wpQuiet_nil ?_
              rintro _ ⟨r, rfl⟩
              clear hB1 hB2 hB3 hzi hy6 hx6 hy6i hx6i hyn
              go_wp2
              go_roundw
              case rel => exact ⟨j + 1, lo2, by omega, by omega, by go_num, rfl, by have := HLS.out; have := HLO2.out; have := lostN_le z2 (j + 1 - sy); omega, by unfold Hid; rw [HLO2.out, HLS.out], HL8.out.below r.h, HB8.out.trans (r.h.mono HB8.out.size)⟩
              case measure => simp [intOf]; omega
        · obtain rfl : n0 = j := by omega
          have hlN : lo = N := by rw [HLO.out, HN.out]
          subst hlN
          clear hlt hj HLO
          go_wp2
          go_loopw [6, 18] (fun _ u18 wr => ∃ j : Nat, j ≤ sy ∧ u18 = .int .i64 j ∧ Hid (LiveAt wr base d1 g) ∧ Hid (Below w.heap.size w wr)) (fun _ u18 _ => sy - (intOf u18).toNat)
          case atStart => exact ⟨0, by omega, rfl, HL.out, HB.out⟩
          case round =>
            clear HL HB
            obtain ⟨j, hj, rfl, HL, HB⟩ := hrel
            by_cases hlt : j < sy
            · have hlti : (j : Int) < (sy : Int) := by omega
              obtain ⟨bk, o, v, u, x, hx⟩ := byte_at_ R0.out HB.out (Nat.le_refl _) (i := j) (by have := E0.out; omega)
              obtain ⟨rfl, hcell, hwrap, hfill, hsize, hsec⟩ := hx
              have hrd := HF.out.old j x hlt hsec
              rw [HNM.out] at hrd
              have HRD := Lib.hid (lread HL.out hrd)
              have HFI := Lib.hid hfill
              have hcv : ∀ W : World, (convert 34 9 (.slice (some ⟨W.heap.size, 0, none⟩) 1 1)).run Try.prog (W.alloc (.cells #[.int .u8 (u.toNat : Int)] 5)) = .ok (.string (bs [u])) (W.alloc (.cells #[.int .u8 (u.toNat : Int)] 5)) := fun W => byte_str W u
              have HCV := Lib.hid hcv
              have hxx : (x.toList == x.toList) = true := by simp
              clear hcv hfill hsize hsec hrd
              go_wp2_with (first
                | (go_at_call 16; with_reducible refine HRD.out.mono ?_; rintro e w6 ⟨rfl, b6⟩
                   have HL6 := Lib.hid (HL.out.below b6)
                   have HB6 := Lib.hid (HB.out.trans (b6.mono HB.out.size))
                   have hcell6 := cell_b b6 hcell
                   have hcv6 := HCV.out w6
                   have ba6 : Below w6.heap.size w6 (w6.alloc (.cells #[.int .u8 (u.toNat : Int)] 5)) := (Below.refl _ _).alloc (Nat.le_refl _) _
                   have HL7 := Lib.hid (HL6.out.below ba6)
                   have HB7 := Lib.hid (HB6.out.trans (ba6.mono HB6.out.size)))
                | (go_at_call 11; refine (HFI.out _).mono ?_; rintro e w8 ⟨rfl, b8⟩
                   have HL8 := Lib.hid (HL7.out.below b8)
                   have HB8 := Lib.hid (HB7.out.trans (b8.mono HB7.out.size))))
              go_roundw
              case rel => exact ⟨j + 1, by omega, by go_num, HL8.out, HB8.out⟩
              case measure => simp [intOf]; omega
            · obtain rfl : sy = j := by omega
              have HDT := Lib.hid (ldirty HL.out HF.out.clean)
              rcases HF.out.tells with ⟨rfl, ht1, ht2⟩ | ⟨rfl, rfl, rfl⟩
              · go_wp2_with (go_at_call 18; with_reducible refine HDT.out.mono ?_; rintro e w9 ⟨rfl, hw9⟩; obtain rfl := hw9.symm)
                go_ret
                exact ⟨rfl, HB.out⟩
              · go_wp2_with (go_at_call 18; with_reducible refine HDT.out.mono ?_; rintro e w9 ⟨rfl, hw9⟩; obtain rfl := hw9.symm)
                go_ret
                exact ⟨rfl, HB.out⟩
theorem disklasts_walk (A0 A2 : Option Addr) (n0 c0 n2 c2 : Nat) (sy : Int) (z0 z2 : List Int) (w : World) (r0 : Rd w A0 (flatZ z0)) (e0 : z0.length = n0) (m0 : n0 ≤ 9223372036854775807) (r2 : Rd w A2 (flatZ z2)) (e2 : z2.length = n2) (m2 : n2 ≤ 9223372036854775807) :
    Calls Try.prog 4 #[.slice A0 n0 c0, .int .i64 sy, .slice A2 n2 c2] w fun e w' => e = .returned (.bool true) ∧ Below w.heap.size w w' := by
  by_cases h : 30 < n0 ∨ 100 < n2 ∨ sy < 0 ∨ (n0 : Int) < sy
  · exact disklasts_no A0 A2 n0 c0 n2 c2 sy w m0 m2 h
  · obtain ⟨k, rfl⟩ : ∃ k : Nat, sy = (k : Int) := ⟨sy.toNat, by omega⟩
    exact disklasts_yes A0 A2 n0 c0 n2 c2 k z0 z2 w r0 e0 r2 e2 (by omega) (by omega) (by omega)
end Go.Proofs.Ytlgfkjaiifkacaa
