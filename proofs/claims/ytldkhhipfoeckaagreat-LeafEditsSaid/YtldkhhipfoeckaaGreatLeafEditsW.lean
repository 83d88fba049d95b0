/-
  The walk of the law LeafEdits: for every input it returns true and changes nothing that was there. No condition but those of the arguments' form.
-/
import Derived.Test.YtldkhhipfoeckaaGreatLeafAlive
import Derived.Test.YtldkhhipfoeckaaGreatItemEdit
import Derived.Test.YtldkhhipfoeckaaGreatBookItemsE
import Derived.Test.YtldkhhipfoeckaaGreatBookItemsL
import Derived.Deep.CutBlock
namespace Go.Proofs.YtldkhhipfoeckaaGreat
open Go Go.RowKit
attribute [local go_sem] cell_set_if

theorem Rd.rest' {w : World} {b o : Nat} {ks : List Im} (h : Rd w (some ⟨b, o, none⟩) (flatI ks)) (m : Nat) : Rd w (some ⟨b, o + m * 3, none⟩) (flatI (ks.drop m)) := by
  have := Rd.part h m ks.length
  rwa [List.take_of_length_le (by rw [List.length_drop]; omega)] at this
/-- What stands behind the place of a key. -/
def restL (ks : List Im) (key : ByteArray) (s : Nat) : List Im := if hasI ks key s = true then ks.drop (s + 1) else ks.drop s
theorem putL_rest (ks : List Im) (x : Im) (s : Nat) : putL ks x s = ks.take s ++ [x] ++ restL ks x.key s := by
  unfold putL restL
  cases h : hasI ks x.key s
  · simp
  · have hl := hasI_lt h
    rw [if_pos rfl, if_pos rfl, List.append_assoc, List.singleton_append, List.set_eq_take_append_cons_drop, if_pos hl]

set_option maxRecDepth 100000 in
set_option maxHeartbeats 8000000 in
theorem edits_any (A : Option Addr) (n c : Nat) (ks : List Im) (x : Im) (key : ByteArray) (w : World) (hr : Rd w A (flatI ks)) (hn : ks.length = n) (hc : n ≤ c) (hx1 : x.key.size ≤ maxLen) (hx2 : x.val.size ≤ maxLen) :
    Calls Tryz.prog 5 #[.slice A n c, itemV x, .string key] w fun e w' => e = .returned (.bool true) ∧ Below w.heap.size w w' := by
  have K0 : Blk (w.alloc (.cells #[.string x.key, .string x.val, .int .i64 x.kind] 50)) w.heap.size 50 #[.string x.key, .string x.val, .int .i64 x.kind] := Blk.new _ _ _
  have B0 : Below w.heap.size w (w.alloc (.cells #[.string x.key, .string x.val, .int .i64 x.kind] 50)) := (Below.refl _ _).alloc (Nat.le_refl _) _
  have hLt := light9_any A n c ks (w.alloc (.cells #[.string x.key, .string x.val, .int .i64 x.kind] 50)) (hr.below B0) hn
  have HLt := Lib.hid hLt
  have hRt := Lib.hid fun hm w hr => riright_any A n c ks w hr hn hm
  have HR := Lib.hid hr
  have HN := Lib.hid hn
  have HC := Lib.hid hc
  unfold maxLen at hx1 hx2
  clear hLt hr hn hc
  go_enter Tryz.func5, Tryz.ntmps5
  go_upto_region 1 with fail
  go_cut [46] from 20 to 46 (fun u wx => ∃ t : Bool, u = .bool t ∧ (t = false → n ≤ 300 ∧ sumI ks ≤ 6000 ∧ RightI ks ∧ (key.size : Int) ≤ 100) ∧ Below (w.alloc (.cells #[.string x.key, .string x.val, .int .i64 x.kind] 50)).heap.size (w.alloc (.cells #[.string x.key, .string x.val, .int .i64 x.kind] 50)) wx)
  case first =>
    go_wp2_with fail
    refine HLt.out.mono ?_
    rintro e w1 ⟨⟨bl, rfl, hbl⟩, b1⟩
    have B1 := below_of b1 B0 B0.size
    cases bl
    · go_wp2
      go_meet
      exact ⟨true, rfl, (fun h => by cases h), b1⟩
    obtain ⟨h300, hsum⟩ := hbl rfl
    have HSum := Lib.hid hsum
    have R1 := HR.out.below B1
    clear hbl hsum
    go_wp2_with fail
    refine (hRt.out (by omega) _ R1).mono ?_
    rintro e w2 ⟨⟨br, rfl, hbr⟩, b2⟩
    have B2 := below_of b2 b1 b1.size
    cases br
    · go_wp2
      go_meet
      exact ⟨true, rfl, (fun h => by cases h), B2⟩
    have hR := hbr.1 rfl
    have HRI := Lib.hid hR
    have K2 := K0.below B2
    have d0 := K2.cell 0
    have d1 := K2.cell 1
    simp at d0 d1
    clear hbr hR
    by_cases hk : (100 : Int) < (key.size : Int)
    · go_wp2
      go_meet
      exact ⟨true, rfl, (fun h => by cases h), B2⟩
    have hk1 : (key.size : Int) ≤ 100 := by omega
    clear hk
    obtain ⟨z, hz⟩ : ∃ z, z = IntKind.i64.wrap ((x.key.size : Int) + (x.val.size : Int)) := ⟨_, rfl⟩
    by_cases hs : (x.key.size : Int) + (x.val.size : Int) ≤ 9223372036854775807
    · by_cases hk2 : (300 : Int) < (x.key.size : Int) + (x.val.size : Int)
      · go_wp2
        go_meet
        exact ⟨true, rfl, (fun h => by cases h), B2⟩
      · have hk3 : (x.key.size : Int) + (x.val.size : Int) ≤ 300 := by omega
        go_wp2_with (go_at_call 7; refine (alive9_any _).mono ?_; rintro e w3 ⟨rfl, b3⟩; have B3 := below_of b3 B2 B2.size)
        go_meet
        exact ⟨false, by rw [decide_eq_false (by omega), decide_eq_false (by omega)]; rfl, fun _ => ⟨h300, HSum.out, HRI.out, hk1⟩, B3⟩
    · have hw : IntKind.i64.wrap ((x.key.size : Int) + (x.val.size : Int)) = (x.key.size : Int) + (x.val.size : Int) - 18446744073709551616 := by rw [IntKind.wrap_i64]; omega
      have hk3 : (x.key.size : Int) + (x.val.size : Int) - 18446744073709551616 ≤ 300 := by omega
      go_wp2_with (go_at_call 7; refine (alive9_any _).mono ?_; rintro e w3 ⟨rfl, b3⟩; have B3 := below_of b3 B2 B2.size)
      go_meet
      exact ⟨false, by rw [decide_eq_false (by omega), decide_eq_false (by omega)]; rfl, fun _ => ⟨h300, HSum.out, HRI.out, hk1⟩, B3⟩
  case rest =>
  obtain ⟨t, rfl, ht, hBc⟩ := hcut
  have BC := below_of hBc B0 B0.size
  cases t
  · obtain ⟨h300, hsum, hR, hk1⟩ := ht rfl
    have HRI := Lib.hid hR
    have HSum := Lib.hid hsum
    have hnn : (n : Int) ≤ 300 := by omega
    have K3 := K0.below hBc
    have e0 := K3.cell 0
    have e1 := K3.cell 1
    have e2 := K3.cell 2
    simp at e0 e1 e2
    obtain ⟨r, hf⟩ := findI_ex hR key
    obtain ⟨s, hs⟩ := findI_ex hR x.key
    have HF := Lib.hid hf
    have HG := Lib.hid hs
    have hrn : r ≤ n := by have := hf.le; rw [HN.out] at this; exact this
    have hsn : s ≤ n := by have := hs.le; rw [HN.out] at this; exact this
    clear ht hR hsum hf hs
    generalize hwc : wc = W0 at *
    clear hwc
    go_upto_block 0 with fail
    go_cut [7] from 48 to 62 (fun u7 wx => u7 = .int .i64 r ∧ wx = W0)
    case first =>
      go_wp2_with fail
      go_loopw [7] (fun u7 wr => ∃ k : Nat, k ≤ r ∧ u7 = .int .i64 k ∧ wr = W0) (fun u7 _ => r - (intOf u7).toNat)
      case atStart => exact ⟨0, by omega, rfl, rfl⟩
      case round =>
        obtain ⟨k, hk, rfl, rfl⟩ := hrel
        by_cases hkn : k < n
        · obtain ⟨bb, o, y, rfl, hbb, hy, q0, _, _⟩ := HR.out.item (k := k) (by have := HN.out; omega)
          have c0 := cell_bb BC hbb q0
          have hki : (k : Int) < (n : Int) := by omega
          by_cases hlt : k < r
          · have hcmp : Op.bytesLess y.key.toList key.toList = true := by rw [less_eq]; exact HF.out.lo k y hlt hy
            clear hy q0
            go_wp2
            go_roundw
            case rel => exact ⟨k + 1, by omega, by go_num, by first | rfl | trivial⟩
            case measure => simp [intOf]; omega
          · have hcmp : Op.bytesLess y.key.toList key.toList = false := by rw [less_eq]; exact HF.out.hi k y (by omega) hy
            obtain rfl : k = r := by omega
            clear hy q0
            go_wp2
            go_meet
            exact ⟨rfl, rfl⟩
        · obtain rfl : k = r := by omega
          have hki : (n : Int) ≤ (k : Int) := by omega
          go_wp2
          go_meet
          exact ⟨rfl, rfl⟩
    case rest =>
    obtain ⟨rfl, hw⟩ := hcut
    have hw' := hw.symm
    subst hw'
    clear hw
    go_upto_region 6 with fail
    go_cut [8] from 63 to 75 (fun u8 wx => u8 = .bool (hasI ks key r) ∧ wx = W0)
    case first =>
      by_cases hkn : r < n
      · obtain ⟨bb, o, y, rfl, hbb, hy, q0, _, _⟩ := HR.out.item (k := r) (by have := HN.out; omega)
        have c0 := cell_bb BC hbb q0
        have hki : (r : Int) < (n : Int) := by omega
        have HY := Lib.hid hy
        clear hy q0
        go_wp2
        go_meet
        exact ⟨by rw [hasI_at HY.out], rfl⟩
      · have hki : (n : Int) ≤ (r : Int) := by omega
        go_wp2
        go_meet
        exact ⟨by rw [hasI_no (by rw [HN.out]; omega)], rfl⟩
    case rest =>
    obtain ⟨rfl, hw⟩ := hcut
    have hw' := hw.symm
    subst hw'
    clear hw
    have hLent := Lib.hid fun w hr => lentI_any A n c ks w hr HN.out (by omega)
    have hStays := Lib.hid fun w g d ha hb hd => staysI_any A g n n d c ks w ha hb HN.out hd (by omega)
    have hFind := Lib.hid fun w A c hr => ifind_any A n c ks key w hr HN.out (by omega) HRI.out r HF.out
    have hPut := Lib.hid fun w A c hr => iput_any A n c ks x w hr HN.out (by omega) HRI.out s HG.out
    have hDrop := Lib.hid fun w A c hr => idrop_any A n c ks key w hr HN.out (by omega) HRI.out r HF.out
    obtain ⟨Lp, hLp⟩ : ∃ Lp, Lp = putL ks x s := ⟨_, rfl⟩
    obtain ⟨Ld, hLd⟩ : ∃ Ld, Ld = dropL ks key r := ⟨_, rfl⟩
    obtain ⟨t1, ht1⟩ : ∃ t1, t1 = hasI ks key r := ⟨_, rfl⟩
    rw [← hLp] at hPut
    rw [← hLd, ← ht1] at hDrop
    rw [← ht1] at hFind ⊢
    have HLp := Lib.hid hLp
    have HLd := Lib.hid hLd
    have HT1 := Lib.hid ht1
    clear hLp hLd ht1
    go_upto_block 2 with (first
      | (go_at_call 8; refine (hLent.out _ (HR.out.below BC)).mono ?_; rintro e w3 ⟨⟨g3, n3, c3, hn3, hc3, rfl, ho3⟩, b3⟩; obtain rfl : n3 = n := by rw [← hn3, HN.out]
         have B3 := below_of b3 BC BC.size; have M3 := Rd.of_own ho3; have L3 : Rd w3 (some ⟨g3, 0, none⟩) (flatI ks) := (by have h := M3; rw [flatI_app] at h; exact h.pre); have K4 := K3.below b3; have f0 := K4.cell 0; have f1 := K4.cell 1; have f2 := K4.cell 2; simp at f0 f1 f2)
      | (go_at_call 36; refine (hFind.out _ _ _ L3).mono ?_; rintro e w4 ⟨rfl, b4⟩; have B4 := below_of b4 B3 B3.size; have K5 := K4.below b4; have g0 := K5.cell 0; have g1 := K5.cell 1; have g2 := K5.cell 2; simp at g0 g1 g2)
      | (go_at_call 37; refine (hPut.out _ _ _ (L3.below b4)).mono ?_; rintro e w5 ⟨⟨A5, n5, c5, hn5, rfl, ho5⟩, b5⟩; have B5 := below_of b5 B4 B4.size; have D5 := below_of b5 b4 b4.size; have K6 := K5.below b5)
      | (go_at_call 38; refine (hDrop.out _ _ _ (L3.below D5)).mono ?_; rintro e w6 ⟨⟨A6, n6, c6, rfl, hn6, ho6⟩, b6⟩; have B6 := below_of b6 B5 B5.size; have D6 := below_of b6 D5 D5.size; have K7 := K6.below b6; have O5 := own_frm ho5 (S := no) (Frm.of_below b6) (fun _ _ h => h); have i0 := K7.cell 0; have i1 := K7.cell 1; have i2 := K7.cell 2; simp at i0 i1 i2))
    have BX0 : w.heap.size < w6.heap.size := K7.lt
    go_cut [15] from 93 to 108 (fun u15 wx => u15 = .int .i64 s ∧ Qt w6 wx)
    case first =>
      go_wp2_with fail
      go_loopw [15] (fun u15 wr => ∃ k : Nat, k ≤ s ∧ u15 = .int .i64 k ∧ Qt w6 wr) (fun u15 _ => s - (intOf u15).toNat)
      case atStart => exact ⟨0, by omega, rfl, Qt.refl _⟩
      case round =>
        obtain ⟨k, hk, rfl, hQ⟩ := hrel
        have hqc : ∀ p, wr.cell? p = w6.cell? p := fun p => by obtain ⟨m, rfl⟩ := hQ; rfl
        have j0 : wr.cell? ⟨w.heap.size, 0, none⟩ = some (.string x.key) := by rw [hqc]; exact K7.cell 0
        by_cases hkn : k < n3
        · obtain ⟨bb, o, y, rfl, hbb, hy, q0, _, _⟩ := HR.out.item (k := k) (by have := HN.out; omega)
          have c0 := cell_bb B6 hbb q0
          rw [← hqc] at c0
          have hki : (k : Int) < (n3 : Int) := by omega
          have hkd : decide (k < n3) = true := by simpa using hkn
          by_cases hlt : k < s
          · have hcmp : Op.bytesLess y.key.toList x.key.toList = true := by rw [less_eq]; exact HG.out.lo k y hlt hy
            clear hy q0 hqc
            go_wp2
            go_quiet (fail)
            go_wp2
            go_roundw
            case rel => exact ⟨k + 1, by omega, by go_num, hQ.trans (Qt.drewN _ _)⟩
            case measure => simp [intOf]; omega
          · have hcmp : Op.bytesLess y.key.toList x.key.toList = false := by rw [less_eq]; exact HG.out.hi k y (by omega) hy
            obtain rfl : k = s := by omega
            clear hy q0 hqc
            go_wp2
            go_quiet (fail)
            go_wp2
            go_meet
            exact ⟨rfl, hQ.trans (Qt.drewN _ _)⟩
        · obtain rfl : k = s := by omega
          obtain rfl : k = n3 := by omega
          have hq : decide (k < k) = false := by simp
          clear hqc
          go_wp2
          go_quiet (fail)
          go_wp2
          go_meet
          exact ⟨rfl, hQ.trans (Qt.drewN _ _)⟩
    case rest =>
    obtain ⟨rfl, hQ7⟩ := hcut
    have b7 := hQ7.below w6.heap.size
    have B7 := below_of b7 B6 B6.size
    have D7 := below_of b7 D6 D6.size
    have K8 := K7.below b7
    have O6 := own_frm ho6 (S := no) (Frm.of_below b7) (fun _ _ h => h)
    have P6 := own_frm O5 (S := no) (Frm.of_below b7) (fun _ _ h => h)
    have L0 := K8.cell 0
    have L1 := K8.cell 1
    have L2 := K8.cell 2
    simp at L0 L1 L2
    generalize hwc : wc = W7 at *
    clear hwc
    go_upto_region 14 with fail
    go_cut [16] from 109 to 111 (fun u16 wx => (∃ A', u16 = .slice A' (n3 - s) (c - s) ∧ Rd W7 A' (flatI (ks.drop s))) ∧ wx = W7)
    case first =>
      have hcc := HC.out
      have hsi : (s : Int) ≤ (n3 : Int) := by omega
      have hsc : s ≤ c := by omega
      have hsci : (s : Int) ≤ (c : Int) := by omega
      by_cases hs3 : s < n3
      · obtain ⟨bb, o, rfl, hbb, _⟩ := HR.out.flat (by rw [flatI_len, HN.out]; omega)
        have HRR : Hid (Rd W7 (some ⟨bb, o + s * 3, none⟩) (flatI (ks.drop s))) := Rd.rest' (HR.out.below B7) s
        have hcs : ¬ c = s := by omega
        clear hcc
        go_wp2
        go_meet
        exact ⟨⟨_, rfl, HRR.out⟩, rfl⟩
      · have hd : Hid (flatI (ks.drop s) = []) := by unfold Hid; rw [List.drop_of_length_le (by rw [HN.out]; omega)]; rfl
        by_cases hcs : c = s
        · have HCS := Lib.hid hcs
          clear hcc
          subst hcs
          go_wp2
          go_meet
          exact ⟨⟨A, by simp, by rw [hd.out]; exact Rd.nil _ _⟩, rfl⟩
        · clear hcc
          go_wp2
          go_meet
          exact ⟨⟨_, rfl, by rw [hd.out]; exact Rd.nil _ _⟩, rfl⟩
    case rest =>
    obtain ⟨⟨Ar, rfl, hRr⟩, hw⟩ := hcut
    have hw' := hw.symm
    subst hw'
    clear hw
    go_upto_region 15 with fail
    go_cut [125] from 112 to 125 (fun u wx => u = .bool (hasI ks x.key s) ∧ Qt W7 wx)
    case first =>
      by_cases hs3 : s < n3
      · obtain ⟨bb, o, y, rfl, hbb, hy, q0, _, _⟩ := HR.out.item (k := s) (by have := HN.out; omega)
        have c0 := cell_bb B7 hbb q0
        have hki : (s : Int) < (n3 : Int) := by omega
        have hkd : decide (s < n3) = true := by simpa using hs3
        have HY := Lib.hid hy
        clear hy q0
        cases hcmp : (y.key.toList == x.key.toList)
        all_goals
          go_wp2
          go_quiet (fail)
          go_wp2
          go_meet
          exact ⟨by rw [hasI_at HY.out, hcmp], Qt.drewN _ _⟩
      · have hkd : decide (s < n3) = false := by simpa using hs3
        go_wp2
        go_quiet (fail)
        go_wp2
        go_meet
        exact ⟨by rw [hasI_no (by rw [HN.out]; omega)], Qt.drewN _ _⟩
    case rest =>
    obtain ⟨rfl, hQ8⟩ := hcut
    have b8 := hQ8.below W7.heap.size
    have B8 := below_of b8 B7 B7.size
    have D8 := below_of b8 D7 D7.size
    have K9 := K8.below b8
    have O8 := own_frm O6 (S := no) (Frm.of_below b8) (fun _ _ h => h)
    have P8 := own_frm P6 (S := no) (Frm.of_below b8) (fun _ _ h => h)
    have hRr8 := hRr.below b8
    have N0 := K9.cell 0
    have N1 := K9.cell 1
    have N2 := K9.cell 2
    simp at N0 N1 N2
    generalize hwc : wc = W8 at *
    clear hwc
    go_upto_if 125 with fail
    go_cut [16] from 125 to 129 (fun u16 wx => (∃ A' m' c', u16 = .slice A' m' c' ∧ (restL ks x.key s).length = m' ∧ Rd W8 A' (flatI (restL ks x.key s))) ∧ wx = W8)
    case first =>
      cases hh : hasI ks x.key s
      · have HRS : Hid (restL ks x.key s = ks.drop s) := by unfold Hid restL; rw [hh, if_neg (by simp)]
        go_wp2
        go_meet
        exact ⟨⟨_, _, _, rfl, by rw [HRS.out, List.length_drop, HN.out], by rw [HRS.out]; exact hRr8⟩, rfl⟩
      · have HRS : Hid (restL ks x.key s = ks.drop (s + 1)) := by unfold Hid restL; rw [hh, if_pos rfl]
        have hlt := hasI_lt hh
        rw [HN.out] at hlt
        have hcc := HC.out
        have hsi : (s : Int) + 1 ≤ (n3 : Int) := by omega
        have hsci : (s : Int) + 1 ≤ (c : Int) := by omega
        obtain ⟨bb, o, rfl, hbb, _⟩ := HR.out.flat (by rw [flatI_len, HN.out]; omega)
        have HRR : Hid (Rd W8 (some ⟨bb, o + (s + 1) * 3, none⟩) (flatI (ks.drop (s + 1)))) := Rd.rest' (HR.out.below B8) (s + 1)
        have HLN : Hid ((ks.drop (s + 1)).length = n3 - (s + 1)) := by unfold Hid; rw [List.length_drop, HN.out]
        by_cases hcs : c = s + 1
        · have hd : Hid (flatI (ks.drop (s + 1)) = []) := by unfold Hid; rw [List.drop_of_length_le (by rw [HN.out]; omega)]; rfl
          have HCS := Lib.hid hcs
          clear hcc
          go_wp2
          go_meet
          exact ⟨⟨_, _, _, rfl, by rw [HRS.out]; exact HLN.out, by rw [HRS.out, hd.out]; exact Rd.nil _ _⟩, rfl⟩
        · clear hcc
          go_wp2
          go_meet
          exact ⟨⟨_, _, _, rfl, by rw [HRS.out]; exact HLN.out, by rw [HRS.out]; exact HRR.out⟩, rfl⟩
    case rest =>
    obtain ⟨⟨Ar, mr, cr, rfl, hmr, hRR⟩, hw⟩ := hcut
    have hw' := hw.symm
    subst hw'
    clear hw
    have HMR := Lib.hid hmr
    have hmr3 : mr ≤ n3 := by
      have h := HMR.out
      unfold restL at h
      split at h
      · rw [List.length_drop, HN.out] at h; omega
      · rw [List.length_drop, HN.out] at h; omega
    have HRR := Lib.hid hRR
    clear hmr hRR
    go_upto_region 17 with fail
    obtain ⟨i0, hi0, hz0, hz1, hz2⟩ := info_parts iteminfo
    have hF3 : ∀ W, Below W8.heap.size W8 W → W.cell? ⟨w.heap.size, 0, none⟩ = some (.string x.key) ∧ W.cell? ⟨w.heap.size, 1, none⟩ = some (.string x.val) ∧ W.cell? ⟨w.heap.size, 2, none⟩ = some (.int .i64 x.kind) := fun W hW => ⟨cell_b hW N0, cell_b hW N1, cell_b hW N2⟩
    have HF3 := Lib.hid hF3
    have hcc := HC.out
    have hsci : (s : Int) ≤ (c : Int) := by omega
    have hsc : s ≤ c := by omega
    have RT : ∀ W, Below W8.heap.size W8 W → Rd W A (flatI (ks.take s)) := fun W hW => by
      have h := ((HR.out.below B8).below hW).take (s * 3)
      rwa [flatI_take] at h
    have RS : ∀ W, Below W8.heap.size W8 W → Rd W Ar (flatI (restL ks x.key s)) := fun W hW => HRR.out.below hW
    have HRT := Lib.hid RT
    have HRS := Lib.hid RS
    have hfl1 := flatI_len (ks.take s)
    rw [List.length_take, HN.out, Nat.min_eq_left hsn] at hfl1
    have hfl2 := flatI_len (restL ks x.key s)
    rw [HMR.out] at hfl2
    have HL1 := Lib.hid hfl1
    have HL2 := Lib.hid hfl2
    have HO1 := Lib.hid (flatI_one (ks.take s))
    have HO2 := Lib.hid (flatI_one (restL ks x.key s))
    have hpl : flatI (ks.take s) ++ [.string x.key, .string x.val, .int .i64 x.kind] ++ flatI (restL ks x.key s) = flatI Lp := by rw [HLp.out, putL_rest, flatI_app, flatI_app]; rfl
    have HPL := Lib.hid hpl
    have hpn : Lp.length = s + 1 + mr := by rw [HLp.out, putL_rest, List.length_append, List.length_append, List.length_take, HN.out, HMR.out, Nat.min_eq_left hsn]; rfl
    have HPN := Lib.hid hpn
    have hsi3 : s ≤ 300 := by omega
    have hmr300 : mr ≤ 300 := by omega
    clear hF3 RT RS hfl1 hfl2 hpl hpn
    go_cut [17] from 130 to 138 (fun u17 wx => ∃ A' c', u17 = .slice A' (s + 1 + mr) c' ∧ Rd wx A' (flatI Lp) ∧ Below W8.heap.size W8 wx)
    case first =>
      have A0 := HF3.out _ ((Below.refl _ W8).drew)
      have A0a := HF3.out _ (((Below.refl _ W8).drew).alloc (Nat.le_refl _) (.cells #[.string x.key, .string x.val, .int .i64 x.kind] 50))
      go_region_held3 (fun W => W.cell? ⟨w.heap.size, 0, none⟩ = some (.string x.key) ∧ W.cell? ⟨w.heap.size, 1, none⟩ = some (.string x.val) ∧ W.cell? ⟨w.heap.size, 2, none⟩ = some (.int .i64 x.kind))
        (first | exact A0 | exact Q13 | exact Q12 | exact Q11 | with_reducible assumption | exact Q11a | exact A0a)
        (first
        | (refine step_app rfl (.const (.slice none 0 0)) (.tmp 132) 22 rfl _ 50 i0 _ 3 40 Tryz.underlying22 hi0 hz0 hz1 hz2 rfl (by omega) (.slice none 0 0) 0 [] rfl (World.ownsRow_nil _ _ _ _) A s c (flatI (ks.take s)) rfl (by first | exact HRT.out _ ((Below.refl _ W8).drew) | exact HRT.out _ (((Below.refl _ W8).drew).alloc (Nat.le_refl _) _)) HL1.out HO1.out (by unfold maxLen; omega) (by omega) (Nat.le_refl _) ?_
           intro v11 w11 ho11 hg11 hb11 hat11
           rw [Nat.zero_add, List.nil_append] at ho11
           obtain ⟨A11, c11, rfl, hc11⟩ := own_form ho11
           have b11 : Below W8.heap.size W8 w11 := by first | exact below_of hb11 ((Below.refl _ W8).drew) (Nat.le_refl _) | exact below_of hb11 (((Below.refl _ W8).drew).alloc (Nat.le_refl _) _) (by simp)
           have Q11 := HF3.out _ b11
           have Q11a := HF3.out _ (b11.alloc b11.size (.cells #[.string x.key, .string x.val, .int .i64 x.kind] 50))
           try (have RN := (Rd.new W8.drew #[.string x.key, .string x.val, .int .i64 x.kind] 50).below hb11))
        | (refine step_app rfl (.tmp 133) (.tmp 135) 22 rfl _ 50 i0 _ 3 40 Tryz.underlying22 hi0 hz0 hz1 hz2 rfl (by omega) (.slice A11 s c11) s (flatI (ks.take s)) rfl (by first | exact ho11 | exact ho11.alloc _) _ 1 1 [.string x.key, .string x.val, .int .i64 x.kind] rfl (by first | exact RN | exact Rd.new _ _ _) rfl (by simp [Value.oneCell']) (by unfold maxLen; omega) (by omega) (by have := hb11.size; simp at this ⊢; omega) ?_
           intro v12 w12 ho12 hg12 hb12 hat12
           obtain ⟨A12, c12, rfl, hc12⟩ := own_form ho12
           have b12 : Below W8.heap.size W8 w12 := by first | exact below_of hb12 b11 (by simp) | exact below_of hb12 (b11.alloc b11.size _) (by simp)
           have Q12 := HF3.out _ b12)
        | (refine step_app rfl (.tmp 136) (.tmp 137) 22 rfl _ 50 i0 _ 3 40 Tryz.underlying22 hi0 hz0 hz1 hz2 rfl (by omega) (.slice A12 (s + 1) c12) (s + 1) (flatI (ks.take s) ++ [.string x.key, .string x.val, .int .i64 x.kind]) rfl ho12 Ar mr cr (flatI (restL ks x.key s)) rfl (HRS.out _ b12) HL2.out HO2.out (by unfold maxLen; omega) (by omega) (by have := hb12.size; have := hb11.size; simp at *; omega) ?_
           intro v13 w13 ho13 hg13 hb13 hat13
           obtain ⟨A13, c13, rfl, hc13⟩ := own_form ho13
           have RF := Rd.of_own ho13
           rw [HPL.out] at RF
           have b13 : Below W8.heap.size W8 w13 := below_of hb13 b12 (by simp)
           have Q13 := HF3.out _ b13))
      all_goals
        go_wp2
        go_meet
        exact ⟨A13, c13, rfl, RF, b13⟩
    case rest =>
    obtain ⟨A17, c17, rfl, R17, b17⟩ := hcut
    generalize hwc : wc = W9 at *
    clear hwc
    have B9 := below_of b17 B8 B8.size
    have D9 := below_of b17 D8 D8.size
    have P9 := own_frm P8 (S := no) (Frm.of_below b17) (fun _ _ h => h)
    have O9 := own_frm O8 (S := no) (Frm.of_below b17) (fun _ _ h => h)
    go_upto_if 140 with fail
    go_cut [18] from 140 to 149 (fun u18 wx => ∃ A' m' c', u18 = .slice A' m' c' ∧ Ld.length = m' ∧ Rd wx A' (flatI Ld) ∧ Below W9.heap.size W9 wx)
    case first =>
      cases t1
      · have hLd : Ld = ks := by rw [HLd.out]; unfold dropL; rw [← HT1.out, if_neg (by simp)]
        have HLD := Lib.hid hLd
        clear hLd
        go_wp2
        go_meet
        exact ⟨A, n3, c, rfl, by rw [HLD.out, HN.out], by rw [HLD.out]; exact HR.out.below B9, Below.refl _ _⟩
      · have hLd : Ld = ks.take r ++ ks.drop (r + 1) := by rw [HLd.out]; unfold dropL; rw [← HT1.out, if_pos rfl]
        have hlt := hasI_lt HT1.out.symm
        rw [HN.out] at hlt
        have HLD := Lib.hid hLd
        have hri : (r : Int) + 1 ≤ (c : Int) := by omega
        have hrci : (r : Int) ≤ (c : Int) := by omega
        have hrc : r ≤ c := by omega
        have hr3i : (r : Int) + 1 ≤ (n3 : Int) := by omega
        obtain ⟨bb, o, rfl, hbb, _⟩ := HR.out.flat (by rw [flatI_len, HN.out]; omega)
        have RT : ∀ W, Below W9.heap.size W9 W → Rd W (some ⟨bb, o, none⟩) (flatI (ks.take r)) := fun W hW => by
          have h := ((HR.out.below B9).below hW).take (r * 3)
          rwa [flatI_take] at h
        have RD : ∀ W, Below W9.heap.size W9 W → Rd W (if c = r + 1 then some ⟨bb, o, none⟩ else some ⟨bb, o + (r + 1) * 3, none⟩) (flatI (ks.drop (r + 1))) := fun W hW => by
          by_cases h : c = r + 1
          · rw [List.drop_of_length_le (by rw [HN.out]; omega)]; exact Rd.nil _ _
          · rw [if_neg h]; exact Rd.rest' ((HR.out.below B9).below hW) (r + 1)
        have hfl1' := flatI_len (ks.take r)
        rw [List.length_take, HN.out, Nat.min_eq_left hrn] at hfl1'
        have hfl2' := flatI_len (ks.drop (r + 1))
        rw [List.length_drop, HN.out] at hfl2'
        have HFA := Lib.hid hfl1'
        have HFB := Lib.hid hfl2'
        have HOA := Lib.hid (flatI_one (ks.take r))
        have HOB := Lib.hid (flatI_one (ks.drop (r + 1)))
        have hfin : flatI (ks.take r) ++ flatI (ks.drop (r + 1)) = flatI Ld := by rw [hLd, flatI_app]
        have HFIN := Lib.hid hfin
        have hldl : Ld.length = r + (n3 - (r + 1)) := by rw [hLd, List.length_append, List.length_take, List.length_drop, HN.out, Nat.min_eq_left hrn]
        have HLDL := Lib.hid hldl
        have HRT2 := Lib.hid RT
        have HRD2 := Lib.hid RD
        clear hLd RT RD hfl1' hfl2' hfin hldl
        have hwr : IntKind.i64.wrap ((r : Int) + 1) = (r : Int) + 1 := IntWalk.i64_in _ (by omega)
        have hrn1 : ((r : Int) + 1).toNat = r + 1 := by omega
        have hr0 : (0 : Int) ≤ (r : Int) + 1 := by omega
        have hr1 : (r : Int) ≤ (r : Int) + 1 := by omega
        by_cases hcr : c = r + 1
        · obtain rfl : c = r + 1 := hcr
          have hn3r : n3 = r + 1 := by omega
          have hdn : flatI (ks.drop (r + 1)) = [] := by rw [List.drop_of_length_le (by rw [HN.out]; omega)]; rfl
          have HFIN1 : Hid (flatI (ks.take r) ++ [] = flatI Ld) := by unfold Hid; rw [← HFIN.out, hdn]
          have HN3 := Lib.hid hn3r
          clear hn3r hdn
          go_wp2
          go_region_held3 (fun _ => True) (first | trivial) (first
            | (refine step_app rfl (.const (.slice none 0 0)) (.tmp 143) 22 rfl _ 50 i0 _ 3 40 Tryz.underlying22 hi0 hz0 hz1 hz2 rfl (by omega) (.slice none 0 0) 0 [] rfl (World.ownsRow_nil _ _ _ _) (some ⟨bb, o, none⟩) r (r + 1) (flatI (ks.take r)) rfl (HRT2.out _ ((Below.refl _ W9).drew)) HFA.out HOA.out (by unfold maxLen; omega) (by omega) (Nat.le_refl _) ?_
               intro v11 w11 ho11 hg11 hb11 hat11
               rw [Nat.zero_add, List.nil_append] at ho11
               obtain ⟨A11, c11, rfl, hc11⟩ := own_form ho11
               have b11 : Below W9.heap.size W9 w11 := below_of hb11 ((Below.refl _ W9).drew) (Nat.le_refl _))
            | (refine step_app rfl (.tmp 144) (.tmp 148) 22 rfl _ 50 i0 _ 3 40 Tryz.underlying22 hi0 hz0 hz1 hz2 rfl (by omega) (.slice A11 r c11) r (flatI (ks.take r)) rfl ho11 _ _ _ [] rfl (Rd.nil _ _) (by have := HN3.out; simp <;> omega) (by simp) (by have := HN3.out; unfold maxLen; omega) (by have := HN3.out; omega) (by have := hb11.size; simp at this ⊢; omega) ?_
               intro v12 w12 ho12 hg12 hb12 hat12
               obtain ⟨A12, c12, rfl, hc12⟩ := own_form ho12
               have RF := Rd.of_own ho12
               rw [HFIN1.out] at RF
               have b12 : Below W9.heap.size W9 w12 := below_of hb12 b11 (by simp)))
          all_goals
            go_wp2
            go_meet
            exact ⟨A12, _, c12, rfl, by rw [HLDL.out]; have := HN3.out; omega, RF, b12⟩
        · have RD' : ∀ W, Below W9.heap.size W9 W → Rd W (some ⟨bb, o + (r + 1) * 3, none⟩) (flatI (ks.drop (r + 1))) := fun W hW => by have := HRD2.out W hW; rwa [if_neg hcr] at this
          have HRD3 := Lib.hid RD'
          clear RD'
          go_wp2
          go_region_held3 (fun _ => True) (first | trivial) (first
            | (refine step_app rfl (.const (.slice none 0 0)) (.tmp 143) 22 rfl _ 50 i0 _ 3 40 Tryz.underlying22 hi0 hz0 hz1 hz2 rfl (by omega) (.slice none 0 0) 0 [] rfl (World.ownsRow_nil _ _ _ _) (some ⟨bb, o, none⟩) r c (flatI (ks.take r)) rfl (HRT2.out _ ((Below.refl _ W9).drew)) HFA.out HOA.out (by unfold maxLen; omega) (by omega) (Nat.le_refl _) ?_
               intro v11 w11 ho11 hg11 hb11 hat11
               rw [Nat.zero_add, List.nil_append] at ho11
               obtain ⟨A11, c11, rfl, hc11⟩ := own_form ho11
               have b11 : Below W9.heap.size W9 w11 := below_of hb11 ((Below.refl _ W9).drew) (Nat.le_refl _))
            | (refine step_app rfl (.tmp 144) (.tmp 148) 22 rfl _ 50 i0 _ 3 40 Tryz.underlying22 hi0 hz0 hz1 hz2 rfl (by omega) (.slice A11 r c11) r (flatI (ks.take r)) rfl ho11 (some ⟨bb, o + (r + 1) * 3, none⟩) (n3 - (r + 1)) _ (flatI (ks.drop (r + 1))) rfl (HRD3.out _ b11) HFB.out HOB.out (by unfold maxLen; omega) (by omega) (by have := hb11.size; simp at this ⊢; omega) ?_
               intro v12 w12 ho12 hg12 hb12 hat12
               obtain ⟨A12, c12, rfl, hc12⟩ := own_form ho12
               have RF := Rd.of_own ho12
               rw [HFIN.out] at RF
               have b12 : Below W9.heap.size W9 w12 := below_of hb12 b11 (by simp)))
          all_goals
            go_wp2
            go_meet
            exact ⟨A12, _, c12, rfl, HLDL.out, RF, b12⟩
    case rest =>
    obtain ⟨A18, m18, c18, rfl, hm18, R18, b18⟩ := hcut
    generalize hwc : wc = W10 at *
    clear hwc
    have B10 := below_of b18 B9 B9.size
    have D10 := below_of b18 D9 D9.size
    have P10 := own_frm P9 (S := no) (Frm.of_below b18) (fun _ _ h => h)
    have O10 := own_frm O9 (S := no) (Frm.of_below b18) (fun _ _ h => h)
    have R17' := R17.below b18
    have M10 := M3.below D10
    have HM18 := Lib.hid hm18
    have hn6' : n5 = s + 1 + mr := by rw [← hn5]; exact HPN.out
    have hn7' : n6 = m18 := by rw [← hn6]; exact hm18
    subst hn6' hn7'
    have hb3 := b3.size
    have hb4 := b4.size
    have hb5 := b5.size
    have hb6 := b6.size
    have hB3 := B3.size
    have hD10 := D10.size
    have hB10 := B10.size
    have hg3 := (ho3.lt g3 rfl).2
    have hLd400 : n6 ≤ 1000 := by
      rw [← hn6, HLd.out]; unfold dropL
      split
      · rw [List.length_append, List.length_take, List.length_drop, HN.out]; omega
      · rw [HN.out]; omega
    have HN5 := Lib.hid hn5
    have HN6 := Lib.hid hn6
    obtain ⟨f0', hf0⟩ : ∃ f : Nat → List Im, f = fun _ => [] := ⟨_, rfl⟩
    have hK0 := BookI.start w.heap.size W10 hB10 f0'
    have BA : Below W10.heap.size W10 (W10.alloc (.cells (bookI (.slice none 0 0) (.slice none 0 0)) 36)) := (Below.refl _ _).alloc (Nat.le_refl _) _
    have PA := own_frm P10 (S := no) (Frm.of_below BA) (fun _ _ h => h)
    have OA := own_frm O10 (S := no) (Frm.of_below BA) (fun _ _ h => h)
    have hA1 := addI_any w.heap.size W10.heap.size 0 f0' (.slice none 0 0) (.slice none 0 0) [] [] A5 (s + 1 + mr) c5 Lp _ hK0 (by omega) (by have := BA.size; omega) hn5 (by omega) (own_base PA (by omega)) (fun i x b h => by simp at h)
    unfold bookI at hA1
    have hBAs := BA.size
    unfold bookI at hBAs
    have HA1 := Lib.hid hA1
    have hbl5 : ∀ b, (Value.slice A5 (s + 1 + mr) c5).ownBlock = some b → w4.heap.size ≤ b ∧ b < w5.heap.size := fun b hb => ⟨(P10.lt b hb).1, (ho5.lt b hb).2⟩
    have hbl6 : ∀ b, (Value.slice A6 n6 c6).ownBlock = some b → w5.heap.size ≤ b ∧ b < W10.heap.size := fun b hb => O10.lt b hb
    have htt : (t1 == t1) = true := by simp
    have hrr : ((r : Int) == (r : Int)) = true := by simp
    clear hA1 hm18 hn5 hn6
    go_wp2_with (first
      | (go_at_call 13; (with_reducible refine HA1.out.mono ?_); rintro e w21 ⟨rfl, ⟨v1, v2, Wc, K21, hv1, hv2⟩, F21⟩
         have G21 : Below W10.heap.size W10 w21 := BA.trans (F21.below BA.size (fun i hi => by
           rcases hi with h | h | h
           · omega
           · simp [Value.ownBlock] at h
           · simp [Value.ownBlock] at h))
         have O21 := own_frm O10 (S := no) (Frm.of_below G21) (fun _ _ h => h))
      | (go_at_call 13; refine (addI_any w.heap.size W10.heap.size 1 _ v1 v2 ([] ++ [.slice A5 (s + 1 + mr) c5]) Wc A6 n6 c6 Ld _ K21 (by omega) (by have := G21.size; omega) HN6.out (by omega) (own_base O21 (by omega)) (fun i y b hy hb hb2 => by
           have h1 := hbl6 b hb2
           have hy2 : y = .slice A5 (s + 1 + mr) c5 := by
             rw [List.nil_append] at hy
             cases i with
             | zero => rw [List.getElem?_cons_zero] at hy; injection hy with hy; exact hy.symm
             | succ i => simp at hy
           subst hy2
           have h2 := hbl5 b hb
           omega)).mono ?_; rintro e w22 ⟨rfl, ⟨v1', v2', Wc', K22, hv1', hv2'⟩, F22⟩
         have G22 : Below W10.heap.size W10 w22 := G21.trans (F22.below G21.size (fun i hi => by
           rcases hi with h | h | h
           · omega
           · rcases hv1 i h with h | h
             · simp [Value.ownBlock] at h
             · omega
           · rcases hv2 i h with h | h
             · simp [Value.ownBlock] at h
             · omega))
         have B22 := below_of G22 B10 B10.size
         have RP := (Rd.of_own P10).below G22
         have RO := (Rd.of_own O10).below G22
         have R22 := R17'.below G22
         have S22 := R18.below G22
         have M22 := M10.below G22)
      | (go_at_call 14; ((with_reducible refine (sameI_yes A5 A17 (s + 1 + mr) c5 c17 Lp _ RP R22 HN5.out (by omega)).mono ?_); rintro e w23 ⟨rfl, q23⟩; have B23 := B22.trans (q23.below _); have E23 : Below w22.heap.size w22 w23 := q23.below _))
      | (go_at_call 14; ((with_reducible refine (sameI_yes A6 A18 n6 c6 c18 Ld _ (RO.below E23) (S22.below E23) HN6.out (by omega)).mono ?_); rintro e w24 ⟨rfl, q24⟩; have B24 := B23.trans (q24.below _); have E24 : Below w22.heap.size w22 w24 := below_of (q24.below _) E23 E23.size))
      | (go_at_call 17; ((with_reducible refine (hStays.out _ _ _ (M22.below E24) (HR.out.below B24) hc3).mono ?_); rintro e w25 ⟨rfl, q25⟩; have B25 := B24.trans (q25.below _); have E25 : Below w22.heap.size w22 w25 := below_of (q25.below _) E24 E24.size; have K25 := K22.below E25))
      | (go_at_call 20; refine (apartI_any w.heap.size W10.heap.size 2 _ _ v1' v2' _ Wc' _ K25 (by omega) (fun _ => rfl) (fun i => by
           show (if i = 1 then Ld else if i = 0 then Lp else f0' i).length ≤ 1000
           split
           · rw [HN6.out]; exact hLd400
           · split
             · rw [HN5.out]; omega
             · rw [hf0]; simp) B25.size).mono ?_; rintro e w26 ⟨rfl, F26⟩
         have B26 := B25.trans (F26.below B25.size (fun i hi => by obtain ⟨j, y, hy, hq⟩ := hi; exact (K25.rV.lt j y i hy hq).1))
         have M26 : Rd w26 (some ⟨g3, 0, none⟩) (flatI (ks ++ [lentMarkI])) := (M22.below E25).frm F26 (fun ad had hs => by
           injection had with had
           subst had
           obtain ⟨j, y, hy, hq⟩ := hs
           have hcase : y = .slice A5 (s + 1 + mr) c5 ∨ y = .slice A6 n6 c6 := by
             match j, hy with
             | 0, hy => simp at hy; exact .inl hy.symm
             | 1, hy => simp at hy; exact .inr hy.symm
             | j + 2, hy => simp at hy
           rcases hcase with rfl | rfl
           · have h2 := hbl5 g3 hq; omega
           · have h2 := hbl6 g3 hq; omega))
      | (go_at_call 17; ((with_reducible refine (hStays.out _ _ _ M26 (HR.out.below B26) hc3).mono ?_); rintro e w27 ⟨rfl, q27⟩; have B27 := B26.trans (q27.below _))))
    go_ret
    exact ⟨rfl, B27⟩
  · go_wp2_with (go_at_call 7; refine (alive9_any _).mono ?_; rintro e w2 ⟨rfl, b2⟩)
    go_ret
    exact ⟨rfl, below_of b2 BC BC.size⟩
end Go.Proofs.YtldkhhipfoeckaaGreat
