/-
  DiskRenames, walked: it is true. Condition: bytes and keeps that can be read.
-/
import Derived.Test.YtlgfkjaiifkacaaDiskRenP
import Derived.Test.YtlgfkjaiifkacaaDiskLastsW
import Derived.Deep.CutBlock
namespace Go.Proofs.Ytlgfkjaiifkacaa
open Go Go.RowKit
attribute [local go_sem] cell_set_if

set_option maxRecDepth 100000 in
set_option maxHeartbeats 2000000 in
theorem diskren_no (A0 A1 A3 : Option Addr) (n0 c0 n1 c1 n3 c3 : Nat) (a2 : Int) (w : World) (m0 : n0 ≤ 9223372036854775807) (m1 : n1 ≤ 9223372036854775807) (m3 : n3 ≤ 9223372036854775807) (h : 12 < n0 ∨ 12 < n1 ∨ a2 < 0 ∨ 30 < a2 ∨ 40 < n3) :
    Calls Try.prog 5 #[.slice A0 n0 c0, .slice A1 n1 c1, .int .i64 a2, .slice A3 n3 c3] w fun e w' => e = .returned (.bool true) ∧ Below w.heap.size w w' := by
  have hc : (12 : Int) < n0 ∨ ((n0 : Int) ≤ 12 ∧ (12 : Int) < n1) ∨ ((n0 : Int) ≤ 12 ∧ (n1 : Int) ≤ 12 ∧ a2 < 0) ∨ ((n0 : Int) ≤ 12 ∧ (n1 : Int) ≤ 12 ∧ 0 ≤ a2 ∧ 30 < a2) ∨ ((n0 : Int) ≤ 12 ∧ (n1 : Int) ≤ 12 ∧ 0 ≤ a2 ∧ a2 ≤ 30 ∧ 40 < (n3 : Int)) := by omega
  clear h m0 m1 m3
  rcases hc with h | ⟨h, h1⟩ | ⟨h, h1, h2⟩ | ⟨h, h1, h2, h3⟩ | ⟨h, h1, h2, h3, h4⟩
  all_goals
    go_enter Try.func5, Try.ntmps5
    go_wp2_with (go_at_call 6; refine (dalive_any _).mono ?_; rintro e wa ⟨rfl, ba⟩)
    go_ret
    exact ⟨rfl, ba⟩

/-- The disk behind some writes of the new file. -/
def RenA (O F : List ByteArray) (i : Nat) (l : Int) (keep : List Int) (e : Int) (d : Ds) : Prop := (e = 0 ∧ 0 ≤ l ∧ d = twoD O F 0 i l keep) ∨ (e = 14 ∧ Gone O d)
theorem Gone.sync {O : List ByteArray} {d : Ds} (h : Gone O d) : d.off = true := h.off
theorem ren_write {O F : List ByteArray} {i : Nat} {l : Int} {keep : List Int} {x : ByteArray} (hx : F[i]? = some x) (h6 : x.size = 256) (hi : i ≤ 4000) : ∃ e d, writeD (twoD O F 0 i l keep) ⟨#[98]⟩ i x = (e, d) ∧ RenA O F (i + 1) (l - 1) keep e d := by
  have hw := two_write (O := O) (F := F) (sa := 0) (i := i) (l := l) (keep := keep) hx h6 (by omega) hi
  by_cases hl : l - 1 < 0
  · rw [if_pos hl] at hw
    obtain ⟨d, hd, hg⟩ := two_fall O F 0 (i + 1) (l - 1) keep
    exact ⟨14, d, hw.trans hd, .inr ⟨rfl, hg⟩⟩
  · rw [if_neg hl] at hw
    exact ⟨0, _, hw, .inl ⟨rfl, by omega, rfl⟩⟩
/-- Behind the sync, or not. -/
def RenB (O F : List ByteArray) (m : Nat) (keep : List Int) (e : Int) (d : Ds) : Prop := (e = 0 ∧ ∃ l, 0 ≤ l ∧ l ≤ 40 ∧ d = twoD O F m m l keep) ∨ (e = 14 ∧ Gone O d)
theorem ren_sync {O F : List ByteArray} {m : Nat} {l : Int} {keep : List Int} (h0 : m ≠ 0) (hl : l ≤ 40) : ∃ e d, syncD (twoD O F 0 m l keep) ⟨#[98]⟩ = (e, d) ∧ RenB O F m keep e d := by
  have hw := two_sync (O := O) (F := F) (sa := 0) (i := m) (l := l) (keep := keep) h0
  by_cases hl1 : l - 1 < 0
  · rw [if_pos hl1] at hw
    obtain ⟨d, hd, hg⟩ := two_fall O F 0 m (l - 1) keep
    exact ⟨14, d, hw.trans hd, .inr ⟨rfl, hg⟩⟩
  · rw [if_neg hl1] at hw
    exact ⟨0, _, hw, .inl ⟨rfl, l - 1, by omega, by omega, rfl⟩⟩
/-- Behind the rename, or not. -/
theorem ren_rename {O F : List ByteArray} {m : Nat} {l : Int} {keep : List Int} (hm : F.length = m) (h0 : m ≠ 0) : ∃ e d, renameD (twoD O F m m l keep) ⟨#[98]⟩ ⟨#[97]⟩ = (e, d) ∧ ((e = 0 ∧ TellsA F (restoreD d)) ∨ (e = 14 ∧ TellsA O (restoreD d))) := by
  have hw := two_rename (O := O) (F := F) (m := m) (l := l) (keep := keep) h0
  by_cases hl1 : l - 1 < 0
  · rw [if_pos hl1] at hw
    obtain ⟨d, hd, hg⟩ := two_fall O F m m (l - 1) keep
    exact ⟨14, d, hw.trans hd, .inr ⟨rfl, hg.tells⟩⟩
  · rw [if_neg hl1] at hw
    exact ⟨0, _, hw, .inl ⟨rfl, renmD_tells hm h0 _ _⟩⟩
theorem iff_cell {w wr : World} {A : Option Addr} {z : List Int} (_h : Rd w A (flatZ z)) (_k : Below w.heap.size w wr) : True := trivial

set_option maxRecDepth 100000 in
set_option maxHeartbeats 8000000 in
theorem diskren_yes (A0 A1 A3 : Option Addr) (n0 c0 n1 c1 n n3 c3 : Nat) (z0 z1 z3 : List Int) (w : World) (r0 : Rd w A0 (flatZ z0)) (e0 : z0.length = n0) (r1 : Rd w A1 (flatZ z1)) (e1 : z1.length = n1) (r3 : Rd w A3 (flatZ z3)) (e3 : z3.length = n3) (h0 : n0 ≤ 12) (h1 : n1 ≤ 12) (h2 : n ≤ 30) (h3 : n3 ≤ 40) :
    Calls Try.prog 5 #[.slice A0 n0 c0, .slice A1 n1 c1, .int .i64 n, .slice A3 n3 c3] w fun e w' => e = .returned (.bool true) ∧ Below w.heap.size w w' := by
  have hOl : (fillX z0).length = n0 := by rw [fillX_len]; exact e0
  have hFl : (fillX z1).length = n1 := by rw [fillX_len]; exact e1
  have HOL := Lib.hid hOl
  have HFL := Lib.hid hFl
  have R0 := Lib.hid r0
  have R1 := Lib.hid r1
  have R3 := Lib.hid r3
  have E0 := Lib.hid e0
  have E1 := Lib.hid e1
  have E3 := Lib.hid e3
  have h0' : (n0 : Int) ≤ 12 := by omega
  have h1' : (n1 : Int) ≤ 12 := by omega
  have h2' : (n : Int) ≤ 30 := by omega
  have h3' : (n3 : Int) ≤ 40 := by omega
  have hd2 : decide ((n : Int) < 0) = false := decide_eq_false (by omega)
  clear r0 r1 r3 e0 e1 e3 hOl hFl
  go_enter Try.func5, Try.ntmps5
  go_wp2_with (first
    | (go_at_call 6; refine (dalive_any _).mono ?_; rintro e wa ⟨rfl, ba⟩)
    | (go_at_call 7; refine (lnew 0 _).mono ?_; rintro e w1 ⟨g, rfl, L1, b1⟩))
  obtain ⟨base, hbase⟩ : ∃ base, base = wa.heap.size := ⟨_, rfl⟩
  have hwb : w.heap.size ≤ base := by have := ba.size; omega
  have hB1 : Below w.heap.size w w1 := ba.trans (b1.mono ba.size)
  rw [← hbase] at L1
  have L1' : LiveAt w1 base (oneD ⟨#[97]⟩ (fillX z0) 0 0) g := L1
  have HL1 := Lib.hid L1'
  have HWB := Lib.hid hwb
  clear ba hbase b1 L1 hwb L1'
  go_loopw [8, 10] (fun _ u10 wr => ∃ i : Nat, i ≤ n0 ∧ u10 = .int .i64 i ∧ Hid (LiveAt wr base (oneD ⟨#[97]⟩ (fillX z0) 0 i) g) ∧ Hid (Below w.heap.size w wr)) (fun _ u10 _ => n0 - (intOf u10).toNat)
  case atStart => exact ⟨0, by omega, rfl, HL1.out, hB1⟩
  case round =>
    obtain ⟨i, hi, rfl, HL, HB⟩ := hrel
    clear HL1 hB1
    by_cases hlt : i < n0
    · have hlti : (i : Int) < (n0 : Int) := by omega
      obtain ⟨bk, o, v, u, x, hx⟩ := byte_at_ R0.out HB.out (Nat.le_refl _) (i := i) (by have := E0.out; omega)
      obtain ⟨rfl, hcell, hwrap, hfill, hsize, hsec⟩ := hx
      have HFI := Lib.hid hfill
      have HSZ : Hid (x.size ≤ 281474976710656) := by unfold Hid; omega
      have HWD := Lib.hid (oneD_write (nm := ⟨#[97]⟩) (X := fillX z0) (sa := 0) rfl hsec hsize (by omega) (by omega))
      have hcv := byte_str wr u
      have HBA1 : Hid (Below wr.heap.size wr (wr.alloc (.cells #[.int .u8 (u.toNat : Int)] 5))) := (Below.refl _ _).alloc (Nat.le_refl _) _
      clear hfill hsize hsec
      go_wp2_with (first
        | (go_at_call 11; refine (HFI.out _).mono ?_; rintro e w2 ⟨rfl, b2⟩
           have HL2 := Lib.hid ((HL.out.below HBA1.out).below b2)
           have HB2 := Lib.hid ((HB.out.trans (HBA1.out.mono HB.out.size)).trans (b2.mono (HB.out.trans (HBA1.out.mono HB.out.size)).size))
           have HW2 := Lib.hid (lwrite HL2.out (oneD_fine (by omega) (by omega)) HSZ.out HWD.out))
        | (go_at_call 10; with_reducible refine HW2.out.mono ?_; rintro e w3 ⟨rfl, L3, b3⟩
           have HL3 := Lib.hid L3
           have HB3 := Lib.hid (HB2.out.trans (b3.mono HWB.out))))
      go_roundw
      case rel => exact ⟨i + 1, by omega, by go_num, HL3.out, HB3.out⟩
      case measure => simp [intOf]; omega
    · obtain rfl : n0 = i := by omega
      clear hlt hi
      go_upto_region 11 with fail
      go_cut [73] from 66 to 73 (fun u73 wx => u73 = .bool false ∧ Hid (LiveAt wx base (oneD ⟨#[97]⟩ (fillX z0) n0 n0) g) ∧ Hid (Below w.heap.size w wx))
      case first =>
        by_cases hz : n0 = 0
        · have hzi : (n0 : Int) = 0 := by omega
          have HZ := Lib.hid hz
          clear hz
          go_wp2
          go_meet
          case rel => exact ⟨rfl, by (have := HL.out); rw [HZ.out] at this ⊢; exact this, HB.out⟩
        · have hzi : 0 < (n0 : Int) := by omega
          have HS3 := Lib.hid (lsync HL.out (oneD_fine (by omega) (by omega)) (oneD_sync (nm := ⟨#[97]⟩) (X := fillX z0) (sa := 0) (i := n0) rfl (by omega)))
          go_wp2_with (go_at_call 9; with_reducible refine HS3.out.mono ?_; rintro e w4 ⟨rfl, L4, b4⟩
                       have HL4 := Lib.hid L4
                       have HB4 := Lib.hid (HB.out.trans (b4.mono HWB.out)))
          go_meet
          case rel => exact ⟨rfl, HL4.out, HB4.out⟩
      case rest =>
      obtain ⟨rfl, HL2, HB2⟩ := hcut
      have hst := two_start (O := fillX z0) (fillX z1) (l := (n : Int)) (by omega) z3
      rw [HOL.out] at hst
      have HA := Lib.hid (larm (A := A3) (n := n3) (c := c3) HL2.out (R3.out.below HB2.out) E3.out (by omega) hst)
      clear HL HB hst
      go_upto_block 2 with (go_at_call 8; with_reducible refine HA.out.mono ?_; rintro e w5 ⟨rfl, L5, b5⟩
                            have HL5 := Lib.hid L5
                            have HB5 := Lib.hid (HB2.out.trans (b5.mono HWB.out)))
      go_cut [11, 12] from 78 to 98 (fun u11 _ wx => ∃ (e : Int) (l : Int) (d : Ds), u11 = .int .i64 e ∧ l ≤ 40 ∧ Hid (RenA (fillX z0) (fillX z1) n1 l z3 e d) ∧ Hid (LiveAt wx base d g) ∧ Hid (Below w.heap.size w wx))
      case first =>
        go_wp2
        go_loopw [11, 12] (fun u11 u12 wr => ∃ (i : Nat) (e : Int) (d : Ds), i ≤ n1 ∧ u12 = .int .i64 i ∧ u11 = .int .i64 e ∧ Hid (RenA (fillX z0) (fillX z1) i ((n : Int) - (i : Int)) z3 e d) ∧ Hid (LiveAt wr base d g) ∧ Hid (Below w.heap.size w wr)) (fun _ u12 _ => n1 - (intOf u12).toNat)
        case atStart => exact ⟨0, 0, _, by omega, rfl, rfl, .inl ⟨rfl, by omega, by simp⟩, HL5.out, HB5.out⟩
        case round =>
          obtain ⟨i, e, d, hi, rfl, rfl, HR, HL, HB⟩ := hrel
          rcases HR.out with ⟨rfl, hl0, rfl⟩ | ⟨rfl, hg⟩
          · by_cases hlt : i < n1
            · have hlti : (i : Int) < (n1 : Int) := by omega
              obtain ⟨bk, o, v, u, x, hx⟩ := byte_at_ R1.out HB.out (Nat.le_refl _) (i := i) (by have := E1.out; omega)
              obtain ⟨rfl, hcell, hwrap, hfill, hsize, hsec⟩ := hx
              have HFI := Lib.hid hfill
              have HSZ : Hid (x.size ≤ 281474976710656) := by unfold Hid; omega
              obtain ⟨e1, d1, hwd, hra⟩ := ren_write (O := fillX z0) (F := fillX z1) (i := i) (l := (n : Int) - (i : Int)) (keep := z3) hsec hsize (by omega)
              have HWD := Lib.hid hwd
              have HRA : Hid (RenA (fillX z0) (fillX z1) (i + 1) ((n : Int) - ((i + 1 : Nat) : Int)) z3 e1 d1) := by
                unfold Hid
                rw [show (n : Int) - ((i + 1 : Nat) : Int) = (n : Int) - (i : Int) - 1 by omega]; exact hra
              have HFN : Hid ((twoD (fillX z0) (fillX z1) 0 i ((n : Int) - (i : Int)) z3).fine) := twoD_fine _ _ (by omega) (by omega) hl0 (by omega) (by have := E3.out; omega)
              have hcv := byte_str wr u
              have HBA1 : Hid (Below wr.heap.size wr (wr.alloc (.cells #[.int .u8 (u.toNat : Int)] 5))) := (Below.refl _ _).alloc (Nat.le_refl _) _
              clear hfill hsize hsec hwd hra hl0
              go_wp2_with (first
                | (go_at_call 11; refine (HFI.out _).mono ?_; rintro e w2 ⟨rfl, b2⟩
                   have HL2 := Lib.hid ((HL.out.below HBA1.out).below b2)
                   have HB2 := Lib.hid ((HB.out.trans (HBA1.out.mono HB.out.size)).trans (b2.mono (HB.out.trans (HBA1.out.mono HB.out.size)).size))
                   have HW2 := Lib.hid (lwrite HL2.out HFN.out HSZ.out HWD.out))
                | (go_at_call 10; with_reducible refine HW2.out.mono ?_; rintro e w3 ⟨rfl, L3, b3⟩
                   have HL3 := Lib.hid L3
                   have HB3 := Lib.hid (HB2.out.trans (b3.mono HWB.out))))
              go_roundw
              case rel => exact ⟨i + 1, e1, d1, by omega, by go_num, rfl, HRA.out, HL3.out, HB3.out⟩
              case measure => simp [intOf]; omega
            · obtain rfl : n1 = i := by omega
              clear hl0
              go_wp2
              go_meet
              case rel => exact ⟨0, (n : Int) - (n1 : Int), _, rfl, by omega, HR.out, HL.out, HB.out⟩
          · have HG := Lib.hid hg
            clear hg HR
            by_cases hlt : i < n1
            · have hlti : (i : Int) < (n1 : Int) := by omega
              go_wp2
              go_meet
              case rel => exact ⟨14, 0, _, rfl, by omega, .inr ⟨rfl, HG.out⟩, HL.out, HB.out⟩
            · have hlti : (n1 : Int) ≤ (i : Int) := by omega
              go_wp2
              go_meet
              case rel => exact ⟨14, 0, _, rfl, by omega, .inr ⟨rfl, HG.out⟩, HL.out, HB.out⟩
      case rest =>
      obtain ⟨e, l, d, rfl, hl, HR, HLA, HBA⟩ := hcut
      clear HL5 HB5 HA HL2 HB2
      rcases HR.out with ⟨rfl, hl0, rfl⟩ | ⟨rfl, hg⟩
      · by_cases hz : n1 = 0
        · have hz1 : (n1 : Int) = 0 := by omega
          have hz2 : ¬ 0 < (n1 : Int) := by omega
          have HZ := Lib.hid hz
          obtain ⟨dz, hdz⟩ : ∃ dz, dz = twoD (fillX z0) (fillX z1) 0 n1 l z3 := ⟨_, rfl⟩
          have HLZ : Hid (LiveAt wc base dz g) := by rw [hdz]; exact HLA.out
          have HBZ := HBA
          have HTZ : Hid (TellsA (fillX z0) (restoreD dz)) := by rw [hdz]; exact two_tells _ _ _ _ _ _
          clear hz hdz HLA HBA HR hl0 hl
          have HRS := Lib.hid (lrestore HLZ.out)
          have HWANT : Hid (TellsA (fillX z0) (restoreD dz)) := HTZ
          rcases HWANT.out with ⟨t1, tz, t2⟩ | ⟨t1, t2, t3⟩
          · have hn0 : n0 = 0 := by rw [fillX_len] at t1; have := E0.out; omega
            have hn0i : (n0 : Int) = 0 := by omega
            have HT2 : Hid (sizeD (restoreD dz) ⟨#[97]⟩ = (tz, 8)) := t2
            clear t1 t2 hn0
            go_wp2_with (first
              | (go_at_call 13; with_reducible refine HRS.out.mono ?_; rintro e w5 ⟨rfl, L5, b5⟩
                 have HL5 := Lib.hid L5
                 have HB5 := Lib.hid (HBZ.out.trans (b5.mono HWB.out))
                 have HS5 := Lib.hid (lsize HL5.out HT2.out))
              | (go_at_call 14; with_reducible refine HS5.out.mono ?_; rintro e w6 ⟨rfl, b6⟩
                 have HB6 := Lib.hid (HB5.out.trans (b6.mono HB5.out.size))))
            all_goals go_ret
            all_goals exact ⟨rfl, HB6.out⟩
          · have hn0 : n0 ≠ 0 := by rw [fillX_len] at t1; have := E0.out; omega
            have hn0i : 0 < (n0 : Int) := by omega
            have hn0j : decide ((n0 : Int) = 0) = false := decide_eq_false (by omega)
            have hn0k : ((n0 : Int) == 0) = false := by rw [beq_eq_false_iff_ne]; omega
            have HT2 : Hid (sizeD (restoreD dz) ⟨#[97]⟩ = (((n0 : Nat) : Int), 0)) := by
              have := t2
              rwa [fillX_len, E0.out] at this
            have HT3 := Lib.hid t3
            clear t1 t2 t3
            go_wp2_with (first
              | (go_at_call 13; with_reducible refine HRS.out.mono ?_; rintro e w5 ⟨rfl, L5, b5⟩
                 have HL5 := Lib.hid L5
                 have HB5 := Lib.hid (HBZ.out.trans (b5.mono HWB.out))
                 have HS5 := Lib.hid (lsize HL5.out HT2.out))
              | (go_at_call 14; with_reducible refine HS5.out.mono ?_; rintro e w6 ⟨rfl, b6⟩
                 have HL6 := Lib.hid (HL5.out.below b6)
                 have HB6 := Lib.hid (HB5.out.trans (b6.mono HB5.out.size))))
            go_loopw [8, 16] (fun _ u16 wr => ∃ j : Nat, j ≤ n0 ∧ u16 = .int .i64 j ∧ Hid (LiveAt wr base (restoreD dz) g) ∧ Hid (Below w.heap.size w wr)) (fun _ u16 _ => n0 - (intOf u16).toNat)
            case atStart => exact ⟨0, by omega, rfl, HL6.out, HB6.out⟩
            case round =>
              obtain ⟨j, hj, rfl, HL, HB⟩ := hrel
              by_cases hlt : j < n0
              · have hlti : (j : Int) < (n0 : Int) := by omega
                obtain ⟨bk, o, v, u, x, hx⟩ := byte_at_ R0.out HB.out (Nat.le_refl _) (i := j) (by have := E0.out; omega)
                obtain ⟨rfl, hcell, hwrap, hfill, hsize, hsec⟩ := hx
                have hrd : readD (restoreD dz) ⟨#[97]⟩ (j : Int) = (x, 0) := HT3.out j x hsec
                have HRD := Lib.hid (lread HL.out hrd)
                have HFI := Lib.hid hfill
                have hcv : ∀ W : World, (convert 34 9 (.slice (some ⟨W.heap.size, 0, none⟩) 1 1)).run Try.prog (W.alloc (.cells #[.int .u8 (u.toNat : Int)] 5)) = .ok (.string (bs [u])) (W.alloc (.cells #[.int .u8 (u.toNat : Int)] 5)) := fun W => byte_str W u
                have HCV := Lib.hid hcv
                have hxx : (x.toList == x.toList) = true := by simp
                clear hcv hfill hsize hsec hrd
                go_wp2_with (first
                  | (go_at_call 16; with_reducible refine HRD.out.mono ?_; rintro e w6 ⟨rfl, b6⟩
                     have HL6 := Lib.hid (HL.out.below b6)
                     have HB6 := Lib.hid (HB.out.trans (b6.mono HB.out.size))
                     have hcell6 := cell_b b6 hcell
                     have hcv6 := HCV.out w6
                     have ba6 : Below w6.heap.size w6 (w6.alloc (.cells #[.int .u8 (u.toNat : Int)] 5)) := (Below.refl _ _).alloc (Nat.le_refl _) _
                     have HL7 := Lib.hid (HL6.out.below ba6)
                     have HB7 := Lib.hid (HB6.out.trans (ba6.mono HB6.out.size)))
                  | (go_at_call 11; refine (HFI.out _).mono ?_; rintro e w8 ⟨rfl, b8⟩
                     have HL8 := Lib.hid (HL7.out.below b8)
                     have HB8 := Lib.hid (HB7.out.trans (b8.mono HB7.out.size))))
                go_roundw
                case rel => exact ⟨j + 1, by omega, by go_num, HL8.out, HB8.out⟩
                case measure => simp [intOf]; omega
              · obtain rfl : n0 = j := by omega
                go_wp2
                go_ret
                exact ⟨rfl, HB.out⟩
        · have hz1 : 0 < (n1 : Int) := by omega
          have hz2 : decide ((n1 : Int) = 0) = false := decide_eq_false (by omega)
          obtain ⟨e1, d1, hsy, hB⟩ := ren_sync (O := fillX z0) (F := fillX z1) (m := n1) (l := l) (keep := z3) hz hl
          have HSC := Lib.hid (lsync HLA.out (twoD_fine _ _ (by omega) (by omega) hl0 (by omega) (by have := E3.out; omega)) hsy)
          have HNZ := Lib.hid hz
          clear hsy hl0 hl HR
          rcases hB with ⟨rfl, l2, q1, q2, rfl⟩ | ⟨rfl, hg⟩
          · obtain ⟨e2, d2, hrn, hC⟩ := ren_rename (O := fillX z0) (F := fillX z1) (m := n1) (l := l2) (keep := z3) HFL.out hz
            have HRC : Hid (∀ W, LiveAt W base (twoD (fillX z0) (fillX z1) n1 n1 l2 z3) g → Calls Try.prog 19 #[.pointer (some ⟨g, 0, none⟩), .string ⟨#[98]⟩, .string ⟨#[97]⟩] W fun e w' => e = .returned (.int .i64 e2) ∧ LiveAt w' base d2 g ∧ Below base W w') := fun W h => lrename h (twoD_fine _ _ (by omega) (by omega) q1 (by omega) (by have := E3.out; omega)) hrn
            clear hrn q1 q2 hz
            rcases hC with ⟨rfl, ht⟩ | ⟨rfl, ht⟩
            · have HTZ := Lib.hid ht
              clear ht
              go_upto_region 23 with (first
                | (go_at_call 9; with_reducible refine HSC.out.mono ?_; rintro e w7 ⟨rfl, L7, b7⟩
                   have HRC7 := Lib.hid (HRC.out _ L7)
                   have HB7 := Lib.hid (HBA.out.trans (b7.mono HWB.out)))
                | (go_at_call 19; with_reducible refine HRC7.out.mono ?_; rintro e w8 ⟨rfl, L8, b8⟩
                   have HLZ := Lib.hid L8
                   have HBZ := Lib.hid (HB7.out.trans (b8.mono HWB.out))))
              obtain ⟨dz, rfl⟩ : ∃ dz, dz = d2 := ⟨_, rfl⟩
              have HRS := Lib.hid (lrestore HLZ.out)
              have HWANT : Hid (TellsA (fillX z1) (restoreD dz)) := HTZ
              rcases HWANT.out with ⟨t1, tz, t2⟩ | ⟨t1, t2, t3⟩
              · have hn0 : n1 = 0 := by rw [fillX_len] at t1; have := E1.out; omega
                have hn0i : (n1 : Int) = 0 := by omega
                have HT2 : Hid (sizeD (restoreD dz) ⟨#[97]⟩ = (tz, 8)) := t2
                clear t1 t2 hn0
                go_wp2_with (first
                  | (go_at_call 13; with_reducible refine HRS.out.mono ?_; rintro e w5 ⟨rfl, L5, b5⟩
                     have HL5 := Lib.hid L5
                     have HB5 := Lib.hid (HBZ.out.trans (b5.mono HWB.out))
                     have HS5 := Lib.hid (lsize HL5.out HT2.out))
                  | (go_at_call 14; with_reducible refine HS5.out.mono ?_; rintro e w6 ⟨rfl, b6⟩
                     have HB6 := Lib.hid (HB5.out.trans (b6.mono HB5.out.size))))
                all_goals go_ret
                all_goals exact ⟨rfl, HB6.out⟩
              · have hn0 : n1 ≠ 0 := by rw [fillX_len] at t1; have := E1.out; omega
                have hn0i : 0 < (n1 : Int) := by omega
                have hn0j : decide ((n1 : Int) = 0) = false := decide_eq_false (by omega)
                have hn0k : ((n1 : Int) == 0) = false := by rw [beq_eq_false_iff_ne]; omega
                have HT2 : Hid (sizeD (restoreD dz) ⟨#[97]⟩ = (((n1 : Nat) : Int), 0)) := by
                  have := t2
                  rwa [fillX_len, E1.out] at this
                have HT3 := Lib.hid t3
                clear t1 t2 t3
                go_wp2_with (first
                  | (go_at_call 13; with_reducible refine HRS.out.mono ?_; rintro e w5 ⟨rfl, L5, b5⟩
                     have HL5 := Lib.hid L5
                     have HB5 := Lib.hid (HBZ.out.trans (b5.mono HWB.out))
                     have HS5 := Lib.hid (lsize HL5.out HT2.out))
                  | (go_at_call 14; with_reducible refine HS5.out.mono ?_; rintro e w6 ⟨rfl, b6⟩
                     have HL6 := Lib.hid (HL5.out.below b6)
                     have HB6 := Lib.hid (HB5.out.trans (b6.mono HB5.out.size))))
                go_loopw [8, 16] (fun _ u16 wr => ∃ j : Nat, j ≤ n1 ∧ u16 = .int .i64 j ∧ Hid (LiveAt wr base (restoreD dz) g) ∧ Hid (Below w.heap.size w wr)) (fun _ u16 _ => n1 - (intOf u16).toNat)
                case atStart => exact ⟨0, by omega, rfl, HL6.out, HB6.out⟩
                case round =>
                  obtain ⟨j, hj, rfl, HL, HB⟩ := hrel
                  by_cases hlt : j < n1
                  · have hlti : (j : Int) < (n1 : Int) := by omega
                    obtain ⟨bk, o, v, u, x, hx⟩ := byte_at_ R1.out HB.out (Nat.le_refl _) (i := j) (by have := E1.out; omega)
                    obtain ⟨rfl, hcell, hwrap, hfill, hsize, hsec⟩ := hx
                    have hrd : readD (restoreD dz) ⟨#[97]⟩ (j : Int) = (x, 0) := HT3.out j x hsec
                    have HRD := Lib.hid (lread HL.out hrd)
                    have HFI := Lib.hid hfill
                    have hcv : ∀ W : World, (convert 34 9 (.slice (some ⟨W.heap.size, 0, none⟩) 1 1)).run Try.prog (W.alloc (.cells #[.int .u8 (u.toNat : Int)] 5)) = .ok (.string (bs [u])) (W.alloc (.cells #[.int .u8 (u.toNat : Int)] 5)) := fun W => byte_str W u
                    have HCV := Lib.hid hcv
                    have hxx : (x.toList == x.toList) = true := by simp
                    clear hcv hfill hsize hsec hrd
                    go_wp2_with (first
                      | (go_at_call 16; with_reducible refine HRD.out.mono ?_; rintro e w6 ⟨rfl, b6⟩
                         have HL6 := Lib.hid (HL.out.below b6)
                         have HB6 := Lib.hid (HB.out.trans (b6.mono HB.out.size))
                         have hcell6 := cell_b b6 hcell
                         have hcv6 := HCV.out w6
                         have ba6 : Below w6.heap.size w6 (w6.alloc (.cells #[.int .u8 (u.toNat : Int)] 5)) := (Below.refl _ _).alloc (Nat.le_refl _) _
                         have HL7 := Lib.hid (HL6.out.below ba6)
                         have HB7 := Lib.hid (HB6.out.trans (ba6.mono HB6.out.size)))
                      | (go_at_call 11; refine (HFI.out _).mono ?_; rintro e w8 ⟨rfl, b8⟩
                         have HL8 := Lib.hid (HL7.out.below b8)
                         have HB8 := Lib.hid (HB7.out.trans (b8.mono HB7.out.size))))
                    go_roundw
                    case rel => exact ⟨j + 1, by omega, by go_num, HL8.out, HB8.out⟩
                    case measure => simp [intOf]; omega
                  · obtain rfl : n1 = j := by omega
                    go_wp2
                    go_ret
                    exact ⟨rfl, HB.out⟩
            · have HTZ := Lib.hid ht
              clear ht
              go_upto_region 23 with (first
                | (go_at_call 9; with_reducible refine HSC.out.mono ?_; rintro e w7 ⟨rfl, L7, b7⟩
                   have HRC7 := Lib.hid (HRC.out _ L7)
                   have HB7 := Lib.hid (HBA.out.trans (b7.mono HWB.out)))
                | (go_at_call 19; with_reducible refine HRC7.out.mono ?_; rintro e w8 ⟨rfl, L8, b8⟩
                   have HLZ := Lib.hid L8
                   have HBZ := Lib.hid (HB7.out.trans (b8.mono HWB.out))))
              obtain ⟨dz, rfl⟩ : ∃ dz, dz = d2 := ⟨_, rfl⟩
              have HRS := Lib.hid (lrestore HLZ.out)
              have HWANT : Hid (TellsA (fillX z0) (restoreD dz)) := HTZ
              rcases HWANT.out with ⟨t1, tz, t2⟩ | ⟨t1, t2, t3⟩
              · have hn0 : n0 = 0 := by rw [fillX_len] at t1; have := E0.out; omega
                have hn0i : (n0 : Int) = 0 := by omega
                have HT2 : Hid (sizeD (restoreD dz) ⟨#[97]⟩ = (tz, 8)) := t2
                clear t1 t2 hn0
                go_wp2_with (first
                  | (go_at_call 13; with_reducible refine HRS.out.mono ?_; rintro e w5 ⟨rfl, L5, b5⟩
                     have HL5 := Lib.hid L5
                     have HB5 := Lib.hid (HBZ.out.trans (b5.mono HWB.out))
                     have HS5 := Lib.hid (lsize HL5.out HT2.out))
                  | (go_at_call 14; with_reducible refine HS5.out.mono ?_; rintro e w6 ⟨rfl, b6⟩
                     have HB6 := Lib.hid (HB5.out.trans (b6.mono HB5.out.size))))
                all_goals go_ret
                all_goals exact ⟨rfl, HB6.out⟩
              · have hn0 : n0 ≠ 0 := by rw [fillX_len] at t1; have := E0.out; omega
                have hn0i : 0 < (n0 : Int) := by omega
                have hn0j : decide ((n0 : Int) = 0) = false := decide_eq_false (by omega)
                have hn0k : ((n0 : Int) == 0) = false := by rw [beq_eq_false_iff_ne]; omega
                have HT2 : Hid (sizeD (restoreD dz) ⟨#[97]⟩ = (((n0 : Nat) : Int), 0)) := by
                  have := t2
                  rwa [fillX_len, E0.out] at this
                have HT3 := Lib.hid t3
                clear t1 t2 t3
                go_wp2_with (first
                  | (go_at_call 13; with_reducible refine HRS.out.mono ?_; rintro e w5 ⟨rfl, L5, b5⟩
                     have HL5 := Lib.hid L5
                     have HB5 := Lib.hid (HBZ.out.trans (b5.mono HWB.out))
                     have HS5 := Lib.hid (lsize HL5.out HT2.out))
                  | (go_at_call 14; with_reducible refine HS5.out.mono ?_; rintro e w6 ⟨rfl, b6⟩
                     have HL6 := Lib.hid (HL5.out.below b6)
                     have HB6 := Lib.hid (HB5.out.trans (b6.mono HB5.out.size))))
                go_loopw [8, 16] (fun _ u16 wr => ∃ j : Nat, j ≤ n0 ∧ u16 = .int .i64 j ∧ Hid (LiveAt wr base (restoreD dz) g) ∧ Hid (Below w.heap.size w wr)) (fun _ u16 _ => n0 - (intOf u16).toNat)
                case atStart => exact ⟨0, by omega, rfl, HL6.out, HB6.out⟩
                case round =>
                  obtain ⟨j, hj, rfl, HL, HB⟩ := hrel
                  by_cases hlt : j < n0
                  · have hlti : (j : Int) < (n0 : Int) := by omega
                    obtain ⟨bk, o, v, u, x, hx⟩ := byte_at_ R0.out HB.out (Nat.le_refl _) (i := j) (by have := E0.out; omega)
                    obtain ⟨rfl, hcell, hwrap, hfill, hsize, hsec⟩ := hx
                    have hrd : readD (restoreD dz) ⟨#[97]⟩ (j : Int) = (x, 0) := HT3.out j x hsec
                    have HRD := Lib.hid (lread HL.out hrd)
                    have HFI := Lib.hid hfill
                    have hcv : ∀ W : World, (convert 34 9 (.slice (some ⟨W.heap.size, 0, none⟩) 1 1)).run Try.prog (W.alloc (.cells #[.int .u8 (u.toNat : Int)] 5)) = .ok (.string (bs [u])) (W.alloc (.cells #[.int .u8 (u.toNat : Int)] 5)) := fun W => byte_str W u
                    have HCV := Lib.hid hcv
                    have hxx : (x.toList == x.toList) = true := by simp
                    clear hcv hfill hsize hsec hrd
                    go_wp2_with (first
                      | (go_at_call 16; with_reducible refine HRD.out.mono ?_; rintro e w6 ⟨rfl, b6⟩
                         have HL6 := Lib.hid (HL.out.below b6)
                         have HB6 := Lib.hid (HB.out.trans (b6.mono HB.out.size))
                         have hcell6 := cell_b b6 hcell
                         have hcv6 := HCV.out w6
                         have ba6 : Below w6.heap.size w6 (w6.alloc (.cells #[.int .u8 (u.toNat : Int)] 5)) := (Below.refl _ _).alloc (Nat.le_refl _) _
                         have HL7 := Lib.hid (HL6.out.below ba6)
                         have HB7 := Lib.hid (HB6.out.trans (ba6.mono HB6.out.size)))
                      | (go_at_call 11; refine (HFI.out _).mono ?_; rintro e w8 ⟨rfl, b8⟩
                         have HL8 := Lib.hid (HL7.out.below b8)
                         have HB8 := Lib.hid (HB7.out.trans (b8.mono HB7.out.size))))
                    go_roundw
                    case rel => exact ⟨j + 1, by omega, by go_num, HL8.out, HB8.out⟩
                    case measure => simp [intOf]; omega
                  · obtain rfl : n0 = j := by omega
                    go_wp2
                    go_ret
                    exact ⟨rfl, HB.out⟩
          · have HTZ := Lib.hid hg.tells
            clear hg hz
            go_upto_region 23 with (first
              | (go_at_call 9; with_reducible refine HSC.out.mono ?_; rintro e w7 ⟨rfl, L7, b7⟩
                 have HLZ := Lib.hid L7
                 have HBZ := Lib.hid (HBA.out.trans (b7.mono HWB.out))))
            obtain ⟨dz, rfl⟩ : ∃ dz, dz = d1 := ⟨_, rfl⟩
            have HRS := Lib.hid (lrestore HLZ.out)
            have HWANT : Hid (TellsA (fillX z0) (restoreD dz)) := HTZ
            rcases HWANT.out with ⟨t1, tz, t2⟩ | ⟨t1, t2, t3⟩
            · have hn0 : n0 = 0 := by rw [fillX_len] at t1; have := E0.out; omega
              have hn0i : (n0 : Int) = 0 := by omega
              have HT2 : Hid (sizeD (restoreD dz) ⟨#[97]⟩ = (tz, 8)) := t2
              clear t1 t2 hn0
              go_wp2_with (first
                | (go_at_call 13; with_reducible refine HRS.out.mono ?_; rintro e w5 ⟨rfl, L5, b5⟩
                   have HL5 := Lib.hid L5
                   have HB5 := Lib.hid (HBZ.out.trans (b5.mono HWB.out))
                   have HS5 := Lib.hid (lsize HL5.out HT2.out))
                | (go_at_call 14; with_reducible refine HS5.out.mono ?_; rintro e w6 ⟨rfl, b6⟩
                   have HB6 := Lib.hid (HB5.out.trans (b6.mono HB5.out.size))))
              all_goals go_ret
              all_goals exact ⟨rfl, HB6.out⟩
            · have hn0 : n0 ≠ 0 := by rw [fillX_len] at t1; have := E0.out; omega
              have hn0i : 0 < (n0 : Int) := by omega
              have hn0j : decide ((n0 : Int) = 0) = false := decide_eq_false (by omega)
              have hn0k : ((n0 : Int) == 0) = false := by rw [beq_eq_false_iff_ne]; omega
              have HT2 : Hid (sizeD (restoreD dz) ⟨#[97]⟩ = (((n0 : Nat) : Int), 0)) := by
                have := t2
                rwa [fillX_len, E0.out] at this
              have HT3 := Lib.hid t3
              clear t1 t2 t3
              go_wp2_with (first
                | (go_at_call 13; with_reducible refine HRS.out.mono ?_; rintro e w5 ⟨rfl, L5, b5⟩
                   have HL5 := Lib.hid L5
                   have HB5 := Lib.hid (HBZ.out.trans (b5.mono HWB.out))
                   have HS5 := Lib.hid (lsize HL5.out HT2.out))
                | (go_at_call 14; with_reducible refine HS5.out.mono ?_; rintro e w6 ⟨rfl, b6⟩
                   have HL6 := Lib.hid (HL5.out.below b6)
                   have HB6 := Lib.hid (HB5.out.trans (b6.mono HB5.out.size))))
              go_loopw [8, 16] (fun _ u16 wr => ∃ j : Nat, j ≤ n0 ∧ u16 = .int .i64 j ∧ Hid (LiveAt wr base (restoreD dz) g) ∧ Hid (Below w.heap.size w wr)) (fun _ u16 _ => n0 - (intOf u16).toNat)
              case atStart => exact ⟨0, by omega, rfl, HL6.out, HB6.out⟩
              case round =>
                obtain ⟨j, hj, rfl, HL, HB⟩ := hrel
                by_cases hlt : j < n0
                · have hlti : (j : Int) < (n0 : Int) := by omega
                  obtain ⟨bk, o, v, u, x, hx⟩ := byte_at_ R0.out HB.out (Nat.le_refl _) (i := j) (by have := E0.out; omega)
                  obtain ⟨rfl, hcell, hwrap, hfill, hsize, hsec⟩ := hx
                  have hrd : readD (restoreD dz) ⟨#[97]⟩ (j : Int) = (x, 0) := HT3.out j x hsec
                  have HRD := Lib.hid (lread HL.out hrd)
                  have HFI := Lib.hid hfill
                  have hcv : ∀ W : World, (convert 34 9 (.slice (some ⟨W.heap.size, 0, none⟩) 1 1)).run Try.prog (W.alloc (.cells #[.int .u8 (u.toNat : Int)] 5)) = .ok (.string (bs [u])) (W.alloc (.cells #[.int .u8 (u.toNat : Int)] 5)) := fun W => byte_str W u
                  have HCV := Lib.hid hcv
                  have hxx : (x.toList == x.toList) = true := by simp
                  clear hcv hfill hsize hsec hrd
                  go_wp2_with (first
                    | (go_at_call 16; with_reducible refine HRD.out.mono ?_; rintro e w6 ⟨rfl, b6⟩
                       have HL6 := Lib.hid (HL.out.below b6)
                       have HB6 := Lib.hid (HB.out.trans (b6.mono HB.out.size))
                       have hcell6 := cell_b b6 hcell
                       have hcv6 := HCV.out w6
                       have ba6 : Below w6.heap.size w6 (w6.alloc (.cells #[.int .u8 (u.toNat : Int)] 5)) := (Below.refl _ _).alloc (Nat.le_refl _) _
                       have HL7 := Lib.hid (HL6.out.below ba6)
                       have HB7 := Lib.hid (HB6.out.trans (ba6.mono HB6.out.size)))
                    | (go_at_call 11; refine (HFI.out _).mono ?_; rintro e w8 ⟨rfl, b8⟩
                       have HL8 := Lib.hid (HL7.out.below b8)
                       have HB8 := Lib.hid (HB7.out.trans (b8.mono HB7.out.size))))
                  go_roundw
                  case rel => exact ⟨j + 1, by omega, by go_num, HL8.out, HB8.out⟩
                  case measure => simp [intOf]; omega
                · obtain rfl : n0 = j := by omega
                  go_wp2
                  go_ret
                  exact ⟨rfl, HB.out⟩
      · have HTZ := Lib.hid hg.tells
        have HLZ := HLA
        have HBZ := HBA
        obtain ⟨dz, rfl⟩ : ∃ dz, dz = d := ⟨_, rfl⟩
        clear hg HR HLA HBA hl
        have HRS := Lib.hid (lrestore HLZ.out)
        have HWANT : Hid (TellsA (fillX z0) (restoreD dz)) := HTZ
        rcases HWANT.out with ⟨t1, tz, t2⟩ | ⟨t1, t2, t3⟩
        · have hn0 : n0 = 0 := by rw [fillX_len] at t1; have := E0.out; omega
          have hn0i : (n0 : Int) = 0 := by omega
          have HT2 : Hid (sizeD (restoreD dz) ⟨#[97]⟩ = (tz, 8)) := t2
          clear t1 t2 hn0
          go_wp2_with (first
            | (go_at_call 13; with_reducible refine HRS.out.mono ?_; rintro e w5 ⟨rfl, L5, b5⟩
               have HL5 := Lib.hid L5
               have HB5 := Lib.hid (HBZ.out.trans (b5.mono HWB.out))
               have HS5 := Lib.hid (lsize HL5.out HT2.out))
            | (go_at_call 14; with_reducible refine HS5.out.mono ?_; rintro e w6 ⟨rfl, b6⟩
               have HB6 := Lib.hid (HB5.out.trans (b6.mono HB5.out.size))))
          all_goals go_ret
          all_goals exact ⟨rfl, HB6.out⟩
        · have hn0 : n0 ≠ 0 := by rw [fillX_len] at t1; have := E0.out; omega
          have hn0i : 0 < (n0 : Int) := by omega
          have hn0j : decide ((n0 : Int) = 0) = false := decide_eq_false (by omega)
          have hn0k : ((n0 : Int) == 0) = false := by rw [beq_eq_false_iff_ne]; omega
          have HT2 : Hid (sizeD (restoreD dz) ⟨#[97]⟩ = (((n0 : Nat) : Int), 0)) := by
            have := t2
            rwa [fillX_len, E0.out] at this
          have HT3 := Lib.hid t3
          clear t1 t2 t3
          go_wp2_with (first
            | (go_at_call 13; with_reducible refine HRS.out.mono ?_; rintro e w5 ⟨rfl, L5, b5⟩
               have HL5 := Lib.hid L5
               have HB5 := Lib.hid (HBZ.out.trans (b5.mono HWB.out))
               have HS5 := Lib.hid (lsize HL5.out HT2.out))
            | (go_at_call 14; with_reducible refine HS5.out.mono ?_; rintro e w6 ⟨rfl, b6⟩
               have HL6 := Lib.hid (HL5.out.below b6)
               have HB6 := Lib.hid (HB5.out.trans (b6.mono HB5.out.size))))
          go_loopw [8, 16] (fun _ u16 wr => ∃ j : Nat, j ≤ n0 ∧ u16 = .int .i64 j ∧ Hid (LiveAt wr base (restoreD dz) g) ∧ Hid (Below w.heap.size w wr)) (fun _ u16 _ => n0 - (intOf u16).toNat)
          case atStart => exact ⟨0, by omega, rfl, HL6.out, HB6.out⟩
          case round =>
            obtain ⟨j, hj, rfl, HL, HB⟩ := hrel
            by_cases hlt : j < n0
            · have hlti : (j : Int) < (n0 : Int) := by omega
              obtain ⟨bk, o, v, u, x, hx⟩ := byte_at_ R0.out HB.out (Nat.le_refl _) (i := j) (by have := E0.out; omega)
              obtain ⟨rfl, hcell, hwrap, hfill, hsize, hsec⟩ := hx
              have hrd : readD (restoreD dz) ⟨#[97]⟩ (j : Int) = (x, 0) := HT3.out j x hsec
              have HRD := Lib.hid (lread HL.out hrd)
              have HFI := Lib.hid hfill
              have hcv : ∀ W : World, (convert 34 9 (.slice (some ⟨W.heap.size, 0, none⟩) 1 1)).run Try.prog (W.alloc (.cells #[.int .u8 (u.toNat : Int)] 5)) = .ok (.string (bs [u])) (W.alloc (.cells #[.int .u8 (u.toNat : Int)] 5)) := fun W => byte_str W u
              have HCV := Lib.hid hcv
              have hxx : (x.toList == x.toList) = true := by simp
              clear hcv hfill hsize hsec hrd
              go_wp2_with (first
                | (go_at_call 16; with_reducible refine HRD.out.mono ?_; rintro e w6 ⟨rfl, b6⟩
                   have HL6 := Lib.hid (HL.out.below b6)
                   have HB6 := Lib.hid (HB.out.trans (b6.mono HB.out.size))
                   have hcell6 := cell_b b6 hcell
                   have hcv6 := HCV.out w6
                   have ba6 : Below w6.heap.size w6 (w6.alloc (.cells #[.int .u8 (u.toNat : Int)] 5)) := (Below.refl _ _).alloc (Nat.le_refl _) _
                   have HL7 := Lib.hid (HL6.out.below ba6)
                   have HB7 := Lib.hid (HB6.out.trans (ba6.mono HB6.out.size)))
                | (go_at_call 11; refine (HFI.out _).mono ?_; rintro e w8 ⟨rfl, b8⟩
                   have HL8 := Lib.hid (HL7.out.below b8)
                   have HB8 := Lib.hid (HB7.out.trans (b8.mono HB7.out.size))))
              go_roundw
              case rel => exact ⟨j + 1, by omega, by go_num, HL8.out, HB8.out⟩
              case measure => simp [intOf]; omega
            · obtain rfl : n0 = j := by omega
              go_wp2
              go_ret
              exact ⟨rfl, HB.out⟩
theorem diskren_walk (A0 A1 A3 : Option Addr) (n0 c0 n1 c1 n3 c3 : Nat) (a2 : Int) (z0 z1 z3 : List Int) (w : World) (r0 : Rd w A0 (flatZ z0)) (e0 : z0.length = n0) (m0 : n0 ≤ 9223372036854775807) (r1 : Rd w A1 (flatZ z1)) (e1 : z1.length = n1) (m1 : n1 ≤ 9223372036854775807) (r3 : Rd w A3 (flatZ z3)) (e3 : z3.length = n3) (m3 : n3 ≤ 9223372036854775807) :
    Calls Try.prog 5 #[.slice A0 n0 c0, .slice A1 n1 c1, .int .i64 a2, .slice A3 n3 c3] w fun e w' => e = .returned (.bool true) ∧ Below w.heap.size w w' := by
  by_cases h : 12 < n0 ∨ 12 < n1 ∨ a2 < 0 ∨ 30 < a2 ∨ 40 < n3
  · exact diskren_no A0 A1 A3 n0 c0 n1 c1 n3 c3 a2 w m0 m1 m3 h
  · obtain ⟨n, rfl⟩ : ∃ n : Nat, a2 = (n : Int) := ⟨a2.toNat, by omega⟩
    exact diskren_yes A0 A1 A3 n0 c0 n1 c1 n n3 c3 z0 z1 z3 w r0 e0 r1 e1 r3 e3 (by omega) (by omega) (by omega) (by omega)
end Go.Proofs.Ytlgfkjaiifkacaa
