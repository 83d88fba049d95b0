/-
  DiskArmed, walked: it is true. Condition: keeps that can be read.
-/
import Derived.Test.YtlgfkjaiifkacaaDiskArmedS
import Derived.Test.YtlgfkjaiifkacaaDiskVA
namespace Go.Proofs.Ytlgfkjaiifkacaa
open Go Go.RowKit
attribute [local go_sem] cell_set_if

set_option maxRecDepth 100000 in
set_option maxHeartbeats 2000000 in
theorem diskarmed_no (A2 : Option Addr) (n2 c2 : Nat) (a0 a1 : Int) (w : World) (m2 : n2 ≤ 9223372036854775807) (h : a0 < 0 ∨ 40 < a0 ∨ a1 < 0 ∨ 40 < a1 ∨ 60 < n2) :
    Calls Try.prog 3 #[.int .i64 a0, .int .i64 a1, .slice A2 n2 c2] w fun e w' => e = .returned (.bool true) ∧ Below w.heap.size w w' := by
  have hc : a0 < 0 ∨ (0 ≤ a0 ∧ 40 < a0) ∨ (0 ≤ a0 ∧ a0 ≤ 40 ∧ a1 < 0) ∨ (0 ≤ a0 ∧ a0 ≤ 40 ∧ 0 ≤ a1 ∧ 40 < a1) ∨ (0 ≤ a0 ∧ a0 ≤ 40 ∧ 0 ≤ a1 ∧ a1 ≤ 40 ∧ 60 < (n2 : Int)) := by omega
  clear h m2
  rcases hc with h | ⟨h, h1⟩ | ⟨h, h1, h2⟩ | ⟨h, h1, h2, h3⟩ | ⟨h, h1, h2, h3, h4⟩
  all_goals
    go_enter Try.func3, Try.ntmps3
    go_wp2_with (go_at_call 6; refine (dalive_any _).mono ?_; rintro e wa ⟨rfl, ba⟩)
    go_ret
    exact ⟨rfl, ba⟩

set_option maxRecDepth 100000 in
set_option maxHeartbeats 8000000 in
theorem diskarmed_yes (A2 : Option Addr) (n2 c2 n m : Nat) (z2 : List Int) (w : World) (r2 : Rd w A2 (flatZ z2)) (e2 : z2.length = n2) (h0 : n ≤ 40) (h1 : m ≤ 40) (h2 : n2 ≤ 60) :
    Calls Try.prog 3 #[.int .i64 n, .int .i64 m, .slice A2 n2 c2] w fun e w' => e = .returned (.bool true) ∧ Below w.heap.size w w' := by
  obtain ⟨nm, hnm⟩ : ∃ nm : ByteArray, nm = ⟨#[97]⟩ := ⟨_, rfl⟩
  have hnok : nameOk nm = true := by rw [hnm]; rfl
  obtain ⟨q, hq⟩ : ∃ q, q = fillS ⟨#[113]⟩ := ⟨_, rfl⟩
  have hq6 : q.size = 256 := by rw [hq]; exact fillS_size _
  have HFI : Hid (∀ w : World, Calls Try.prog 11 #[.string ⟨#[113]⟩, .bool true] w fun e w' => e = .returned (.string q) ∧ Below w.heap.size w w') := fun w => by rw [hq]; exact fill_any ⟨#[113]⟩ true w
  have HNM := Lib.hid hnm
  have HNO := Lib.hid hnok
  have HQ6 := Lib.hid hq6
  have HQL : Hid (q.size ≤ 281474976710656) := by unfold Hid; omega
  have R2 := Lib.hid r2
  have E2 := Lib.hid e2
  have h0' : (n : Int) ≤ 40 := by omega
  have h1' : (m : Int) ≤ 40 := by omega
  have h2' : (n2 : Int) ≤ 60 := by omega
  have hd1 : decide ((n : Int) < 0) = false := decide_eq_false (by omega)
  have hd2 : decide ((m : Int) < 0) = false := decide_eq_false (by omega)
  clear r2 e2 hnm hnok hq hq6
  go_enter Try.func3, Try.ntmps3
  go_wp2_with (first
    | (go_at_call 6; refine (dalive_any _).mono ?_; rintro e wa ⟨rfl, ba⟩)
    | (go_at_call 7; refine (lnew 0 _).mono ?_; rintro e w1 ⟨g, rfl, L1, b1⟩
       have HA1 := Lib.hid (larm (A := A2) (n := n2) (c := c2) (n0 := (n : Int)) L1 ((R2.out.below ba).below b1) E2.out (by omega) (by
         show armD (oneD nm (List.replicate 50 q) 0 0) (n : Int) z2 = armed (oneD nm (List.replicate 50 q) (2 * (0 / 3)) (0 - 0 / 3)) ((n : Int) - ((0 : Nat) : Int)) z2
         rw [armed_ok (by omega)]; simp)))
    | (go_at_call 8; with_reducible refine HA1.out.mono ?_; rintro e w2 ⟨rfl, L2, b2⟩))
  obtain ⟨base, hbase⟩ : ∃ base, base = wa.heap.size := ⟨_, rfl⟩
  have hwb : w.heap.size ≤ base := by have := ba.size; omega
  have hB2 : Below w.heap.size w w2 := (ba.trans (b1.mono ba.size)).trans (b2.mono ba.size)
  rw [← hbase] at L2
  have HL2 := Lib.hid L2
  have HWB := Lib.hid hwb
  clear ba hbase b1 L1 hwb b2 HA1 L2
  go_loopw [6, 8, 9, 10] (fun _ u8 u9 u10 wr => ∃ (i j sf : Nat) (d : Ds), i ≤ m ∧ u10 = .int .i64 i ∧ u8 = .int .i64 j ∧ u9 = .int .i64 sf ∧ j ≤ 40 ∧ Hid (sf = 2 * (j / 3)) ∧ Hid (j = min i n) ∧ Hid (StA nm (List.replicate 50 q) n i z2 d) ∧ Hid (LiveAt wr base d g) ∧ Hid (Below w.heap.size w wr)) (fun _ _ _ u10 _ => m - (intOf u10).toNat)
  case atStart => exact ⟨0, 0, 0, _, by omega, rfl, rfl, rfl, by omega, rfl, by unfold Hid; omega, .inl ⟨by omega, rfl⟩, HL2.out, hB2⟩
  case round =>
    clear HL2 hB2
    obtain ⟨i, j, sf, d, hi, rfl, rfl, rfl, hj40, HSF, HJ, HS, HL, HB⟩ := hrel
    by_cases hlt : i < m
    · have hlti : (i : Int) < (m : Int) := by omega
      obtain ⟨e0, d', hsy, hwr, hfine, hst, hon, hoff⟩ := HS.out.step HNO.out HQ6.out (by omega) (by omega) (by have := E2.out; omega) j HJ.out
      rw [HNM.out] at hsy hwr
      obtain ⟨p, hp⟩ : ∃ p : Nat, p = j / 3 := ⟨_, rfl⟩
      obtain ⟨W, hW⟩ : ∃ W : Nat, W = j - p := ⟨_, rfl⟩
      have hpj : (j : Int) / 3 = (p : Int) := by omega
      have hWj : (j : Int) - (p : Int) = (W : Int) := by omega
      rw [← hp, ← hW] at hwr
      have HP := Lib.hid hp
      have HFN := Lib.hid hfine
      have HST := Lib.hid hst
      have HSY := Lib.hid hsy
      have HWR := Lib.hid hwr
      clear hp hW hfine hst hsy hwr
      have hjm := HJ.out
      by_cases h3 : i % 3 = 2
      · have h3i : (i : Int) % 3 = 2 := by omega
        have HSC := Lib.hid (lsync (s := ⟨#[97]⟩) HL.out HFN.out (HSY.out h3))
        by_cases hin : i < n
        · have hini : (i : Int) < (n : Int) := by omega
          have hd3 : decide ((i : Int) < (n : Int)) = true := decide_eq_true hini
          obtain ⟨rfl, ho⟩ := hon hin
          have hji : j = i := by omega
          subst hji
          obtain ⟨p2, hp2⟩ : ∃ p2 : Nat, p2 = (j + 1) / 3 := ⟨_, rfl⟩
          have hp2i : ((j : Int) + 1) / 3 = (p2 : Int) := by omega
          obtain ⟨sf2, hsf2⟩ : ∃ sf2 : Nat, sf2 = 2 * p2 := ⟨_, rfl⟩
          have hW2 : (j : Int) + 1 - (p2 : Int) = (sf2 : Int) := by omega
          have HP2 : Hid (sf2 = 2 * ((j + 1) / 3)) := by unfold Hid; omega
          have HON := Lib.hid ho
          clear hon hoff ho h3 hp2 hsf2 hjm
          go_wp2_with (first
            | (go_at_call 9; with_reducible refine HSC.out.mono ?_; rintro e w4 ⟨rfl, L4, b4⟩
               have HL4 := Lib.hid L4
               have HB4 := Lib.hid (HB.out.trans (b4.mono HWB.out)))
            | (go_at_call 12; refine (lon (b := true) HL4.out (by rw [HON.out]; rfl)).mono ?_; rintro e w5 ⟨rfl, hw⟩; obtain rfl := hw.symm))
          go_roundw
          case rel => exact ⟨j + 1, j + 1, sf2, d', by omega, by go_num, by go_num, rfl, by omega, HP2.out, by unfold Hid; omega, HST.out, HL4.out, HB4.out⟩
          case measure => simp [intOf]; omega
        · have hini : ¬ (i : Int) < (n : Int) := by omega
          have hd3 : decide ((i : Int) < (n : Int)) = false := decide_eq_false hini
          obtain ⟨rfl, ho⟩ := hoff (by omega)
          have HON := Lib.hid ho
          clear hon hoff ho h3 hjm
          go_wp2_with (first
            | (go_at_call 9; with_reducible refine HSC.out.mono ?_; rintro e w4 ⟨rfl, L4, b4⟩
               have HL4 := Lib.hid L4
               have HB4 := Lib.hid (HB.out.trans (b4.mono HWB.out)))
            | (go_at_call 12; refine (lon (b := false) HL4.out (by rw [HON.out]; rfl)).mono ?_; rintro e w5 ⟨rfl, hw⟩; obtain rfl := hw.symm))
          go_roundw
          case rel => exact ⟨i + 1, j, sf, d', by omega, by go_num, rfl, rfl, by omega, HSF.out, by unfold Hid; have := HJ.out; omega, HST.out, HL4.out, HB4.out⟩
          case measure => simp [intOf]; omega
      · have h3i : ((i : Int) % 3 == 2) = false := by rw [beq_eq_false_iff_ne]; omega
        have h3j : ¬ (i : Int) % 3 = 2 := by omega
        have h3k : decide ((i : Int) % 3 = 2) = false := decide_eq_false h3j
        have HWC := Lib.hid (lwrite (s := ⟨#[97]⟩) (x := q) HL.out HFN.out HQL.out (HWR.out h3))
        by_cases hin : i < n
        · have hini : (i : Int) < (n : Int) := by omega
          have hd3 : decide ((i : Int) < (n : Int)) = true := decide_eq_true hini
          obtain ⟨rfl, ho⟩ := hon hin
          have hji : j = i := by omega
          subst hji
          have HON := Lib.hid ho
          have HWQ : Hid (∀ w', Below wr.heap.size wr w' → Calls Try.prog 10 #[.pointer (some ⟨g, 0, none⟩), .string ⟨#[97]⟩, .int .i64 W, .string q] w' fun e w'' => e = .returned (.int .i64 0) ∧ LiveAt w'' base d' g ∧ Below base w' w'') := fun w' hb => lwrite (s := ⟨#[97]⟩) (x := q) (HL.out.below hb) HFN.out HQL.out (HWR.out h3)
          have HP3 : Hid (2 * (j / 3) = 2 * ((j + 1) / 3)) := by unfold Hid; omega
          clear hon hoff ho h3 hjm HWC
          go_wp2_with (first
            | (go_at_call 11; refine (HFI.out _).mono ?_; rintro e w3 ⟨rfl, b3⟩
               have HB3 := Lib.hid (HB.out.trans (b3.mono HB.out.size))
               have HW3 := Lib.hid (HWQ.out _ b3))
            | (go_at_call 10; with_reducible refine HW3.out.mono ?_; rintro e w4 ⟨rfl, L4, b4⟩
               have HL4 := Lib.hid L4
               have HB4 := Lib.hid (HB3.out.trans (b4.mono HWB.out)))
            | (go_at_call 12; refine (lon (b := true) HL4.out (by rw [HON.out]; rfl)).mono ?_; rintro e w5 ⟨rfl, hw⟩; obtain rfl := hw.symm))
          go_roundw
          case rel => exact ⟨j + 1, j + 1, sf, d', by omega, by go_num, by go_num, rfl, by omega, by unfold Hid; rw [HSF.out, HP3.out], by unfold Hid; omega, HST.out, HL4.out, HB4.out⟩
          case measure => simp [intOf]; omega
        · have hini : ¬ (i : Int) < (n : Int) := by omega
          have hd3 : decide ((i : Int) < (n : Int)) = false := decide_eq_false hini
          obtain ⟨rfl, ho⟩ := hoff (by omega)
          have HON := Lib.hid ho
          have HWQ : Hid (∀ w', Below wr.heap.size wr w' → Calls Try.prog 10 #[.pointer (some ⟨g, 0, none⟩), .string ⟨#[97]⟩, .int .i64 W, .string q] w' fun e w'' => e = .returned (.int .i64 14) ∧ LiveAt w'' base d' g ∧ Below base w' w'') := fun w' hb => lwrite (s := ⟨#[97]⟩) (x := q) (HL.out.below hb) HFN.out HQL.out (HWR.out h3)
          clear hon hoff ho h3 HWC hjm
          go_wp2_with (first
            | (go_at_call 11; refine (HFI.out _).mono ?_; rintro e w3 ⟨rfl, b3⟩
               have HB3 := Lib.hid (HB.out.trans (b3.mono HB.out.size))
               have HW3 := Lib.hid (HWQ.out _ b3))
            | (go_at_call 10; with_reducible refine HW3.out.mono ?_; rintro e w4 ⟨rfl, L4, b4⟩
               have HL4 := Lib.hid L4
               have HB4 := Lib.hid (HB3.out.trans (b4.mono HWB.out)))
            | (go_at_call 12; refine (lon (b := false) HL4.out (by rw [HON.out]; rfl)).mono ?_; rintro e w5 ⟨rfl, hw⟩; obtain rfl := hw.symm))
          go_roundw
          case rel => exact ⟨i + 1, j, sf, d', by omega, by go_num, rfl, rfl, by omega, HSF.out, by unfold Hid; have := HJ.out; omega, HST.out, HL4.out, HB4.out⟩
          case measure => simp [intOf]; omega
    · obtain rfl : m = i := by omega
      obtain ⟨sz, e, hsz, htl⟩ := HS.out.tells HNO.out (by omega)
      rw [← HJ.out, ← HSF.out] at htl
      rw [HNM.out] at hsz
      have HSZ := Lib.hid hsz
      have HRS := Lib.hid (lrestore HL.out)
      clear hlt hi hsz
      rcases htl with ⟨rfl, ht⟩ | ⟨rfl, ht⟩
      · go_wp2_with (first
          | (go_at_call 13; with_reducible refine HRS.out.mono ?_; rintro e w5 ⟨rfl, L5, b5⟩
             have HL5 := Lib.hid L5
             have HB5 := Lib.hid (HB.out.trans (b5.mono HWB.out))
             have HS5 := Lib.hid (lsize HL5.out HSZ.out))
          | (go_at_call 14; with_reducible refine HS5.out.mono ?_; rintro e w6 ⟨rfl, b6⟩
             have HL6 := Lib.hid (HL5.out.below b6)
             have HB6 := Lib.hid (HB5.out.trans (b6.mono HB5.out.size)))
          | (go_at_call 12; refine (lon (b := true) HL6.out rfl).mono ?_; rintro e w7 ⟨rfl, hw⟩; obtain rfl := hw.symm))
        go_ret
        exact ⟨rfl, HB6.out⟩
      · subst ht
        go_wp2_with (first
          | (go_at_call 13; with_reducible refine HRS.out.mono ?_; rintro e w5 ⟨rfl, L5, b5⟩
             have HL5 := Lib.hid L5
             have HB5 := Lib.hid (HB.out.trans (b5.mono HWB.out))
             have HS5 := Lib.hid (lsize HL5.out HSZ.out))
          | (go_at_call 14; with_reducible refine HS5.out.mono ?_; rintro e w6 ⟨rfl, b6⟩
             have HL6 := Lib.hid (HL5.out.below b6)
             have HB6 := Lib.hid (HB5.out.trans (b6.mono HB5.out.size)))
          | (go_at_call 12; refine (lon (b := true) HL6.out rfl).mono ?_; rintro e w7 ⟨rfl, hw⟩; obtain rfl := hw.symm))
        go_ret
        exact ⟨rfl, HB6.out⟩
theorem diskarmed_walk (A2 : Option Addr) (n2 c2 : Nat) (a0 a1 : Int) (z2 : List Int) (w : World) (r2 : Rd w A2 (flatZ z2)) (e2 : z2.length = n2) (m2 : n2 ≤ 9223372036854775807) :
    Calls Try.prog 3 #[.int .i64 a0, .int .i64 a1, .slice A2 n2 c2] w fun e w' => e = .returned (.bool true) ∧ Below w.heap.size w w' := by
  by_cases h : a0 < 0 ∨ 40 < a0 ∨ a1 < 0 ∨ 40 < a1 ∨ 60 < n2
  · exact diskarmed_no A2 n2 c2 a0 a1 w m2 h
  · obtain ⟨n, rfl⟩ : ∃ n : Nat, a0 = (n : Int) := ⟨a0.toNat, by omega⟩
    obtain ⟨m, rfl⟩ : ∃ m : Nat, a1 = (m : Int) := ⟨a1.toNat, by omega⟩
    exact diskarmed_yes A2 n2 c2 n m z2 w r2 e2 (by omega) (by omega) (by omega)
end Go.Proofs.Ytlgfkjaiifkacaa
