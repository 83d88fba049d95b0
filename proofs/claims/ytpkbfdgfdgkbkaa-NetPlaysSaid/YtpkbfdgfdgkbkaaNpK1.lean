/-
  NetPlays: a round of its loop, act 1. Conditions: as the loop's head has it.
-/
import Derived.Test.YtpkbfdgfdgkbkaaNpD
namespace Go.Proofs.Ytpkbfdgfdgkbkaa
open Go Go.RowKit
attribute [local go_sem] cell_set_if

set_option maxRecDepth 1000000 in
set_option maxHeartbeats 16000000 in
theorem np_case1 (A0 : Option Addr) (n0 c0 : Nat) (os : List OpN) (w : World) (R0 : Hid (Rd w A0 (flatN os))) (E0 : Hid (os.length = n0)) (HFT : Hid (∀ o ∈ os, o.fits w)) (h0' : (n0 : Int) ≤ 80) (g : Nat) (f : Nat → Value) (Q0 : Exit → Act → World → Prop)
    (hret : ∀ (a' : Act) (w'' : World), bodyPost Try.prog Try.f4 (fun e w' => e = Ending.returned (Value.bool true) ∧ Below w.heap.size w w') .ret a' w'' → Q0 .ret a' w'')
    (wr : World) (i : Nat) (l : List Pk) (c : List Ct) (v1 v2 u4 u5 : Value) (_hi : i ≤ n0) (hl : l.length ≤ 2000) (hc : c.length ≤ i) (HS : Hid (NetS w wr g l c l c v1 v2 u4 u5)) (hlt : i < n0) (HKD : Hid (∀ x, os[i]? = some x → x.kind = 1)) :
    Code.wp Try.prog npBody (Exit.then (fun a' w' => NpWI A0 n0 c0 w g a' w' ∧ NpMu n0 a' < NpMu n0 ⟨#[.slice A0 n0 c0, f 1, f 2, .pointer (some ⟨g, 0, none⟩), u4, u5, .int .i64 i, f 7, f 8, f 9, f 10, f 11, f 12, f 13, f 14, f 15, f 16, f 17, f 18, f 19, f 20, f 21, f 22, f 23, f 24, f 25, f 26, f 27, f 28, f 29, f 30, f 31, f 32, f 33, f 34, f 35, f 36, f 37, f 38, f 39, f 40, f 41, f 42, f 43, f 44, f 45, f 46, f 47, f 48, f 49, f 50, f 51, f 52, f 53, f 54, f 55, f 56, f 57, f 58, f 59, f 60, f 61, f 62, f 63, f 64, f 65, f 66, f 67, f 68, f 69, f 70, f 71, f 72, f 73, f 74, f 75, f 76, f 77, f 78, f 79, f 80, f 81, f 82, f 83, f 84, f 85, f 86, f 87, f 88, f 89, f 90, f 91, f 92, f 93, f 94, f 95, f 96, f 97, f 98, f 99, f 100, f 101, f 102, f 103, f 104, f 105, f 106, f 107, f 108, f 109, f 110, f 111, f 112, f 113, f 114, f 115, f 116, f 117, f 118, f 119, f 120, f 121, f 122, f 123, f 124, f 125, f 126, f 127, f 128, f 129, f 130, f 131, f 132, f 133, f 134, f 135, f 136, f 137, f 138, f 139, f 140, f 141, f 142, f 143, f 144, f 145, f 146, f 147, f 148, f 149, f 150, f 151, f 152, f 153, f 154, f 155, f 156, f 157, f 158, f 159, f 160, f 161, f 162, f 163, f 164, f 165, f 166, f 167, f 168, f 169, f 170, f 171, f 172, f 173, f 174, f 175, f 176, f 177, f 178, f 179, f 180, f 181, f 182, f 183, f 184, f 185, f 186, f 187, f 188, f 189, f 190, f 191, f 192, f 193, f 194, f 195, f 196, f 197, f 198, f 199, f 200, f 201, f 202, f 203, f 204, f 205, f 206, f 207, f 208, f 209, f 210, f 211, f 212, f 213, f 214, f 215, f 216, f 217, f 218, f 219, f 220, f 221, f 222, f 223, f 224, f 225, f 226, f 227, f 228, f 229, f 230, f 231, f 232, f 233, f 234, f 235, f 236, f 237, f 238, f 239, f 240, f 241, f 242, f 243, f 244, f 245, f 246, f 247, f 248, f 249, f 250, f 251, f 252, f 253, f 254, f 255, f 256, f 257, f 258, f 259, f 260, f 261, f 262, f 263, f 264, f 265, f 266, f 267, f 268, f 269, f 270, f 271, f 272, f 273, f 274, f 275, f 276, f 277, f 278, f 279, f 280, f 281, f 282, f 283, f 284, f 285, f 286, f 287, f 288, f 289, f 290, f 291, f 292, f 293, f 294, f 295, f 296, f 297, f 298, f 299, f 300, f 301, f 302, f 303, f 304, f 305, f 306, f 307, f 308, f 309, f 310, f 311, f 312, f 313, f 314, f 315, f 316, f 317, f 318, f 319, f 320, f 321, f 322, f 323, f 324, f 325, f 326, f 327, f 328, f 329, f 330, f 331, f 332, f 333, f 334, f 335, f 336, f 337, f 338, f 339, f 340, f 341, f 342, f 343, f 344, f 345, f 346, f 347, f 348, f 349, f 350, f 351, f 352, f 353, f 354, f 355, f 356, f 357, f 358, f 359, f 360, f 361, f 362, f 363, f 364, f 365, f 366, f 367, f 368, f 369, f 370, f 371, f 372, f 373, f 374, f 375, f 376, f 377, f 378, f 379, f 380, f 381, f 382, f 383, f 384, f 385, f 386, f 387, f 388, f 389, f 390, f 391, f 392, f 393, f 394, f 395, f 396, f 397, f 398, f 399, f 400, f 401, f 402, f 403, f 404, f 405, f 406, f 407], []⟩) Q0) ⟨#[.slice A0 n0 c0, f 1, f 2, .pointer (some ⟨g, 0, none⟩), u4, u5, .int .i64 i, f 7, f 8, f 9, f 10, f 11, f 12, f 13, f 14, f 15, f 16, f 17, f 18, f 19, f 20, f 21, f 22, f 23, f 24, f 25, f 26, f 27, f 28, f 29, f 30, f 31, f 32, f 33, f 34, f 35, f 36, f 37, f 38, f 39, f 40, f 41, f 42, f 43, f 44, f 45, f 46, f 47, f 48, f 49, f 50, f 51, f 52, f 53, f 54, f 55, f 56, f 57, f 58, f 59, f 60, f 61, f 62, f 63, f 64, f 65, f 66, f 67, f 68, f 69, f 70, f 71, f 72, f 73, f 74, f 75, f 76, f 77, f 78, f 79, f 80, f 81, f 82, f 83, f 84, f 85, f 86, f 87, f 88, f 89, f 90, f 91, f 92, f 93, f 94, f 95, f 96, f 97, f 98, f 99, f 100, f 101, f 102, f 103, f 104, f 105, f 106, f 107, f 108, f 109, f 110, f 111, f 112, f 113, f 114, f 115, f 116, f 117, f 118, f 119, f 120, f 121, f 122, f 123, f 124, f 125, f 126, f 127, f 128, f 129, f 130, f 131, f 132, f 133, f 134, f 135, f 136, f 137, f 138, f 139, f 140, f 141, f 142, f 143, f 144, f 145, f 146, f 147, f 148, f 149, f 150, f 151, f 152, f 153, f 154, f 155, f 156, f 157, f 158, f 159, f 160, f 161, f 162, f 163, f 164, f 165, f 166, f 167, f 168, f 169, f 170, f 171, f 172, f 173, f 174, f 175, f 176, f 177, f 178, f 179, f 180, f 181, f 182, f 183, f 184, f 185, f 186, f 187, f 188, f 189, f 190, f 191, f 192, f 193, f 194, f 195, f 196, f 197, f 198, f 199, f 200, f 201, f 202, f 203, f 204, f 205, f 206, f 207, f 208, f 209, f 210, f 211, f 212, f 213, f 214, f 215, f 216, f 217, f 218, f 219, f 220, f 221, f 222, f 223, f 224, f 225, f 226, f 227, f 228, f 229, f 230, f 231, f 232, f 233, f 234, f 235, f 236, f 237, f 238, f 239, f 240, f 241, f 242, f 243, f 244, f 245, f 246, f 247, f 248, f 249, f 250, f 251, f 252, f 253, f 254, f 255, f 256, f 257, f 258, f 259, f 260, f 261, f 262, f 263, f 264, f 265, f 266, f 267, f 268, f 269, f 270, f 271, f 272, f 273, f 274, f 275, f 276, f 277, f 278, f 279, f 280, f 281, f 282, f 283, f 284, f 285, f 286, f 287, f 288, f 289, f 290, f 291, f 292, f 293, f 294, f 295, f 296, f 297, f 298, f 299, f 300, f 301, f 302, f 303, f 304, f 305, f 306, f 307, f 308, f 309, f 310, f 311, f 312, f 313, f 314, f 315, f 316, f 317, f 318, f 319, f 320, f 321, f 322, f 323, f 324, f 325, f 326, f 327, f 328, f 329, f 330, f 331, f 332, f 333, f 334, f 335, f 336, f 337, f 338, f 339, f 340, f 341, f 342, f 343, f 344, f 345, f 346, f 347, f 348, f 349, f 350, f 351, f 352, f 353, f 354, f 355, f 356, f 357, f 358, f 359, f 360, f 361, f 362, f 363, f 364, f 365, f 366, f 367, f 368, f 369, f 370, f 371, f 372, f 373, f 374, f 375, f 376, f 377, f 378, f 379, f 380, f 381, f 382, f 383, f 384, f 385, f 386, f 387, f 388, f 389, f 390, f 391, f 392, f 393, f 394, f 395, f 396, f 397, f 398, f 399, f 400, f 401, f 402, f 403, f 404, f 405, f 406, f 407], []⟩ wr := by
  obtain ⟨ik, hik, hkz0, hkz1, hkz2⟩ := info_parts pkInfo
  obtain ⟨it, hit, htz0, htz1, htz2⟩ := info_parts ctInfo
  conv => arg 2; whnf
  have hlti : (i : Int) < (n0 : Int) := by omega
  obtain ⟨bk, oo, x, rfl, hbl, hx, d0, d1, d2, d3, d4⟩ := R0.out.opn (k := i) (by have := E0.out; omega)
  have hfx := HFT.out x (List.mem_of_getElem? hx)
  have hkd := HKD.out x hx
  obtain ⟨kind, a, b, Ap, np, cp, ps, own⟩ := x
  obtain ⟨hrp, hnp, hmp⟩ := hfx
  simp only at d0 d1 d2 d3 d4 hrp hnp hmp hkd
  have e0 : wr.cell? ⟨bk, oo + i * 5, none⟩ = some (.int .i64 kind) := (HS.out.below.cell (p := ⟨bk, oo + i * 5, none⟩) hbl).trans d0
  have e1 : wr.cell? ⟨bk, oo + i * 5 + 1, none⟩ = some (.int .i64 a) := (HS.out.below.cell (p := ⟨bk, oo + i * 5 + 1, none⟩) hbl).trans d1
  have e2 : wr.cell? ⟨bk, oo + i * 5 + 2, none⟩ = some (.int .i64 b) := (HS.out.below.cell (p := ⟨bk, oo + i * 5 + 2, none⟩) hbl).trans d2
  have e3 : wr.cell? ⟨bk, oo + i * 5 + 3, none⟩ = some (.slice Ap np cp) := (HS.out.below.cell (p := ⟨bk, oo + i * 5 + 3, none⟩) hbl).trans d3
  have e4 : wr.cell? ⟨bk, oo + i * 5 + 4, none⟩ = some (.bool own) := (HS.out.below.cell (p := ⟨bk, oo + i * 5 + 4, none⟩) hbl).trans d4
  have ba : Below wr.heap.size wr (wr.alloc (.cells #[.int .i64 kind, .int .i64 a, .int .i64 b, .slice Ap np cp, .bool own] 38)) := (Below.refl _ _).alloc (Nat.le_refl _) _
  have KO := Blk.new wr 38 #[.int .i64 kind, .int .i64 a, .int .i64 b, .slice Ap np cp, .bool own]
  have S2 := HS.out.step ba
  have HRP := Lib.hid hrp
  have HNP := Lib.hid hnp
  have hnpi : (np : Int) ≤ 9223372036854775807 := by unfold maxLen at hmp; omega
  have HKX := Lib.hid hkd
  clear hx d0 d1 d2 d3 d4 hrp hnp hmp hkd
  go_upto_if 53 with fail
  obtain ⟨gb, hgb⟩ : ∃ gb, gb = wr.heap.size := ⟨_, rfl⟩
  generalize wr.alloc (.cells #[.int .i64 kind, .int .i64 a, .int .i64 b, .slice Ap np cp, .bool own] 38) = W at ba KO S2 ⊢
  rw [← hgb] at KO ⊢
  have k0 : W.cell? ⟨gb, 0, none⟩ = some (.int .i64 kind) := KO.cell 0
  have HKO := Lib.hid KO
  have HS2 := Lib.hid S2
  clear hgb ba KO S2 HS e0 e1 e2 e3 e4
  by_cases hbig : 20 < np
  · have hbi : 20 < (np : Int) := by omega
    go_wp2
    go_ret
    exact ⟨rfl, HS2.out.below⟩
  have hnp20 : (np : Int) ≤ 20 := by omega
  have hnp20n : np ≤ 20 := by omega
  clear hbig
  obtain ⟨n, hn⟩ : ∃ n, n = l.length := ⟨_, rfl⟩
  obtain ⟨m, hm⟩ : ∃ m, m = c.length := ⟨_, rfl⟩
  obtain ⟨A4, c4, hu4, hc4⟩ := own_form HS2.out.hv
  obtain ⟨A5, c5, hu5, hc5⟩ := own_form HS2.out.ct
  rw [← hn] at hu4 hc4
  rw [← hm] at hu5 hc5
  subst hu4
  subst hu5
  have HN := Lib.hid hn
  have HM := Lib.hid hm
  have hn2k : (n : Int) ≤ 2000 := by omega
  have hm80 : (m : Int) ≤ 80 := by omega
  clear hn hm
  go_upto_block 2 with fail
  go_cut [4, 5, 8] from 56 to 325 (fun u4 u5 u8 wx => ∃ (l' : List Pk) (c' : List Ct) (v1' v2' : Value), u8 = .bool true ∧ l'.length ≤ 2000 ∧ c'.length ≤ i + 1 ∧ Hid (NetS w wx g l' c' l' c' v1' v2' u4 u5) ∧ Hid (Blk wx gb 38 #[.int .i64 kind, .int .i64 a, .int .i64 b, .slice Ap np cp, .bool own]))
  case first =>
    have hkd := HKX.out
    subst hkd
    have k3 : W.cell? ⟨gb, 3, none⟩ = some (.slice Ap np cp) := HKO.out.cell 3
    have HRW := Lib.hid (HRP.out.below HS2.out.below)
    go_wp2
    go_loopw [2, 9] (fun _ u9 wr => ∃ k : Nat, k ≤ np ∧ u9 = .int .i64 k ∧ wr = W ∧ Hid (∀ (j : Nat) p, j < k → ps[j]? = some p → p.data.size ≤ 200)) (fun _ u9 _ => np - (intOf u9).toNat)
    case atStart => exact ⟨0, by omega, rfl, rfl, fun j p h => by omega⟩
    case round =>
      obtain ⟨k, hk, rfl, rfl, HSZ⟩ := hrel
      by_cases hlt2 : k < np
      · have hki : (k : Int) < (np : Int) := by omega
        obtain ⟨bp, op, x, rfl, hbp, hxk, e0, e1, e2⟩ := HRW.out.pk (k := k) (by have := HNP.out; omega)
        by_cases hbg : 200 < x.data.size
        · have hbi : 200 < (x.data.size : Int) := by omega
          go_wp2
          go_ret
          exact ⟨rfl, HS2.out.below⟩
        · have hbi : (x.data.size : Int) ≤ 200 := by omega
          have HSZ2 : Hid (∀ (j : Nat) p, j < k + 1 → ps[j]? = some p → p.data.size ≤ 200) := fun j p hj hp => by
            by_cases e : j = k
            · subst e; rw [hxk] at hp; rw [← Option.some.inj hp]; omega
            · exact HSZ.out j p (by omega) hp
          clear hxk
          go_wp2
          go_roundw
          case rel => exact ⟨k + 1, by omega, by go_num, by first | rfl | trivial, HSZ2⟩
          case measure => simp [intOf]; omega
      · obtain rfl : np = k := by omega
        have HSA : Hid (∀ p ∈ ps, p.data.size ≤ 200) := fun p hp => by
          obtain ⟨j, hj⟩ := List.mem_iff_getElem?.1 hp
          exact HSZ.out j p (by have := (List.getElem?_eq_some_iff.1 hj).1; have := HNP.out; omega) hj
        clear HSZ hlt2 hk
        go_wp2
        clear k3
        go_loopw [4, 10, 11] (fun u4 u10 u11 wr => ∃ (k st : Nat), k ≤ np ∧ u11 = .int .i64 k ∧ u10 = .int .i64 st ∧ st ≤ k ∧ Hid (st = (sendN c l ps k).2) ∧ Hid (NetS w wr g l c (sendN c l ps k).1 c v1 v2 u4 (.slice A5 m c5)) ∧ Hid (Blk wr gb 38 #[.int .i64 1, .int .i64 a, .int .i64 b, .slice Ap np cp, .bool own])) (fun _ _ u11 _ => np - (intOf u11).toNat)
        case atStart => exact ⟨0, 0, by omega, rfl, rfl, by omega, rfl, HS2.out, HKO.out⟩
        case round =>
          obtain ⟨k, st, hk, rfl, rfl, hst, HST, HSS, HKK⟩ := hrel
          have k3 : wr.cell? ⟨gb, 3, none⟩ = some (.slice Ap np cp) := HKK.out.cell 3
          by_cases hlt3 : k < np
          · have hki : (k : Int) < (np : Int) := by omega
            obtain ⟨bp, op, x, rfl, hbp, hxk, e0, e1, e2⟩ := (HRP.out.below HSS.out.below).pk (k := k) (by have := HNP.out; omega)
            obtain ⟨x1, x2, x3⟩ := x
            simp only at e0 e1 e2
            obtain ⟨ta, hta⟩ : ∃ ta, min x1 x2 = ta := ⟨_, rfl⟩
            obtain ⟨tb, htb⟩ : ∃ tb, max x1 x2 = tb := ⟨_, rfl⟩
            obtain ⟨mk, hmk⟩ : ∃ mk, mk = (sendN c l ps k).1.length := ⟨_, rfl⟩
            obtain ⟨B4, d4, hw4, _⟩ := own_form HSS.out.hv
            rw [← hmk] at hw4
            subst hw4
            have hmk2 : mk ≤ 2000 := by rw [hmk]; exact sendN_few k hl
            have hlk : ∀ z : Bool, z = c.any (isT ta tb) → lostK (sendN c l ps k).1 c ⟨x1, x2, x3⟩ = (decide (2000 ≤ mk) || z) := fun z hz => by
              unfold lostK
              rw [hmk, hz, ← hta, ← htb]
            have bax : Below wr.heap.size wr (wr.alloc (.cells #[.int .i64 x1, .int .i64 x2, .string x3] 29)) := (Below.refl _ _).alloc (Nat.le_refl _) _
            have KX := Blk.new wr 29 #[.int .i64 x1, .int .i64 x2, .string x3]
            have S3 := HSS.out.step bax
            have K3 := HKK.out.below bax
            have HXK := Lib.hid hxk
            have HLK := Lib.hid hlk
            have HMK := Lib.hid hmk
            clear hxk hlk hmk
            go_upto_region 29 with fail
            obtain ⟨gx, hgx⟩ : ∃ gx, gx = wr.heap.size := ⟨_, rfl⟩
            generalize wr.alloc (.cells #[.int .i64 x1, .int .i64 x2, .string x3] 29) = V at bax KX S3 K3 ⊢
            rw [← hgx] at KX ⊢
            have HKX := Lib.hid KX
            have HS3 := Lib.hid S3
            have HK3 := Lib.hid K3
            clear hgx bax KX S3 K3 HSS HKK k3 e0 e1 e2
            go_wp2
            go_loopw [13, 14] (fun u13 u14 wr => ∃ (j : Nat) (z : Bool), j ≤ m ∧ u14 = .int .i64 j ∧ u13 = .bool z ∧ Hid (z = (c.take j).any (isT ta tb)) ∧ Hid (Below V.heap.size V wr)) (fun _ u14 _ => m - (intOf u14).toNat)
            case atStart => exact ⟨0, false, by omega, rfl, rfl, rfl, Below.refl _ _⟩
            case round =>
              obtain ⟨j, z, hj, rfl, rfl, HZ, HBX⟩ := hrel
              have x0 : wr.cell? ⟨gx, 0, none⟩ = some (.int .i64 x1) := (HKX.out.below HBX.out).cell 0
              have x1' : wr.cell? ⟨gx, 1, none⟩ = some (.int .i64 x2) := (HKX.out.below HBX.out).cell 1
              have x2' : wr.cell? ⟨gx, 2, none⟩ = some (.string x3) := (HKX.out.below HBX.out).cell 2
              by_cases hlt4 : j < m
              · have hji : (j : Int) < (m : Int) := by omega
                have hct := (HS3.out.step HBX.out).ct
                rw [← HM.out] at hct
                obtain ⟨bc, oc, t, rfl, hbc, htj, e0, e1⟩ := (Rd.of_own hct).ct (k := j) (by have := HM.out; omega)
                obtain ⟨xa, xb⟩ := t
                simp only at e0 e1
                have htk : c.take (j + 1) = c.take j ++ [⟨xa, xb⟩] := by rw [List.take_add_one, htj]; rfl
                obtain ⟨y, hy⟩ : ∃ y : Bool, y = isT ta tb ⟨xa, xb⟩ := ⟨_, rfl⟩
                have he : ∀ W : World, (Op.equalIn 10000 39 (.agg #[.int .i64 xa, .int .i64 xb]) (.agg #[.int .i64 ta, .int .i64 tb])).run Try.prog W = .ok y W := fun W => by rw [run_eqin_two, hy]; rfl
                have HNX : Hid ((c.take (j + 1)).any (isT ta tb) = (z || y)) := by unfold Hid; rw [htk, List.any_append, ← HZ.out, hy]; simp
                clear htk hy htj hct
                cases z
                · go_wp2
                  go_quiet (fail)
                  go_wp2
                  go_roundw
                  case rel => exact ⟨j + 1, y, by omega, by go_num, rfl, by unfold Hid; rw [HNX.out]; rfl, below_drewN HBX.out _⟩
                  case measure => simp [intOf]; omega
                · go_wp2
                  go_quiet (fail)
                  go_wp2
                  go_roundw
                  case rel => exact ⟨j + 1, true, by omega, by go_num, rfl, by unfold Hid; rw [HNX.out]; rfl, below_drewN HBX.out _⟩
                  case measure => simp [intOf]; omega
              · obtain rfl : m = j := by omega
                have htm : c.take m = c := by rw [HM.out, List.take_length]
                have hz := HZ.out
                rw [htm] at hz
                have HLZ := Lib.hid (HLK.out z hz)
                have S4 := HS3.out.step HBX.out
                have K4 := HK3.out.below HBX.out
                have HS4 := Lib.hid S4
                have HK4 := Lib.hid K4
                clear htm hz hlt4 hj HZ S4 K4
                cases z
                · by_cases hfu : mk < 2000
                  · have hfi : (mk : Int) < 2000 := by omega
                    have HSN : Hid (sendN c l ps (k + 1) = ((sendN c l ps k).1 ++ [⟨x1, x2, x3⟩], (sendN c l ps k).2 + 1)) := sendN_sent HXK.out (by rw [HLZ.out, decide_eq_false (by omega)]; rfl)
                    have ho4 := HS4.out.hv
                    rw [← HMK.out] at ho4
                    have O6 := ho4.alloc (.cells #[.int .i64 x1, .int .i64 x2, .string x3] 29)
                    have RN : Rd (wr.alloc (.cells #[.int .i64 x1, .int .i64 x2, .string x3] 29)) (some ⟨wr.heap.size, 0, none⟩) [.int .i64 x1, .int .i64 x2, .string x3] := Rd.new wr #[.int .i64 x1, .int .i64 x2, .string x3] 29
                    have ba4 : Below wr.heap.size wr (wr.alloc (.cells #[.int .i64 x1, .int .i64 x2, .string x3] 29)) := (Below.refl _ _).alloc (Nat.le_refl _) _
                    have HS5 := Lib.hid (HS4.out.step ba4)
                    have HK5 := Lib.hid (HK4.out.below ba4)
                    have hwl : w.heap.size ≤ wr.heap.size := HS4.out.below.size
                    clear ho4 ba4
                    go_wp2_with (at_builtin
                                 refine wpList_app rfl (.tmp 122) (.tmp 124) 35 rfl w.heap.size 29 ik _ 3 32 Try.underlying35 hik hkz0 hkz1 hkz2 rfl (by omega) (.slice B4 mk d4) mk _ rfl O6 (some ⟨wr.heap.size, 0, none⟩) 1 1 [.int .i64 x1, .int .i64 x2, .string x3] rfl RN rfl (by simp [Value.oneCell']) (by unfold maxLen; omega) (by omega) (by simp; omega) ?_
                                 intro v8 w8 hown8 hg8 hb8 hat8)
                    go_roundw
                    case rel =>
                      refine ⟨k + 1, st + 1, by omega, by go_num, by go_num, by omega, by unfold Hid; rw [HSN.out, HST.out], ?_, HS5.out.keepg HK5.out hg8 (by decide)⟩
                      unfold Hid
                      rw [HSN.out]
                      refine HS5.out.grew hg8 ?_ hat8
                      show World.ownsRow _ _ _ _ _ ((sendN c l ps k).1 ++ [(⟨x1, x2, x3⟩ : Pk)]).length (flatK ((sendN c l ps k).1 ++ [(⟨x1, x2, x3⟩ : Pk)]))
                      rw [List.length_append, ← HMK.out, flatK_app]; exact hown8
                    case measure => simp [intOf]; omega
                  · have hfi : ¬ (mk : Int) < 2000 := by omega
                    have hfd : decide ((mk : Int) < 2000) = false := decide_eq_false hfi
                    have HSN : Hid (sendN c l ps (k + 1) = sendN c l ps k) := sendN_lost HXK.out (by rw [HLZ.out, decide_eq_true (by omega)]; rfl)
                    go_wp2
                    go_roundw
                    case rel => exact ⟨k + 1, st, by omega, by go_num, rfl, by omega, by unfold Hid; rw [HSN.out, HST.out], by unfold Hid; rw [HSN.out]; exact HS4.out, HK4.out⟩
                    case measure => simp [intOf]; omega
                · have HSN : Hid (sendN c l ps (k + 1) = sendN c l ps k) := sendN_lost HXK.out (by rw [HLZ.out, Bool.or_true])
                  go_wp2
                  go_roundw
                  case rel => exact ⟨k + 1, st, by omega, by go_num, rfl, by omega, by unfold Hid; rw [HSN.out, HST.out], by unfold Hid; rw [HSN.out]; exact HS4.out, HK4.out⟩
                  case measure => simp [intOf]; omega
          · obtain rfl : np = k := by omega
            have hap : 0 < np → ∀ ad, Ap = some ad → ¬ mineN g v1 v2 ad.block := fun h0 ad had hm => by
              obtain ⟨bq, oq, e1, e2, _⟩ := HRP.out.flat (by rw [flatK_len, HNP.out]; omega)
              rw [e1] at had
              obtain rfl := Option.some.inj had
              have h3 := (HSS.out.net.mine_lt _ hm).1
              have h4 := HSS.out.low
              simp only at h3
              omega
            have hsd := nsend_any Ap np cp ps HSS.out.net (by have := HSS.out.net.blk.lt; omega) hl (by omega) (HRP.out.below HSS.out.below) HNP.out (by omega) hap (fun p hp => by have := HSA.out p hp; omega)
            rw [← HST.out] at hsd
            have HSD := Lib.hid hsd
            have HLF : Hid ((sendN c l ps np).1.length ≤ 2000) := sendN_few np hl
            have hss : ((st : Int) == (st : Int)) = true := by simp
            clear hsd hap hlt3 hk
            go_wp2_with (go_at_call 8; with_reducible refine HSD.out.mono ?_; rintro e w9 ⟨rfl, v9, N9, T9⟩)
            have S9 := HSS.out.turn N9 T9
            have K9 := HSS.out.keeps HKK.out T9 (by decide)
            go_meet
            case rel => exact ⟨(sendN c l ps np).1, c, v9, v2, rfl, HLF.out, by omega, S9, K9⟩
  case rest =>
    obtain ⟨l', c', v1', v2', rfl, hl', hc', HS3, HK3⟩ := hcut
    clear HS2 HKO k0 hl hc
    have k2 : wc.cell? ⟨gb, 2, none⟩ = some (.int .i64 b) := HK3.out.cell 2
    obtain ⟨n', hn'⟩ : ∃ n', n' = l'.length := ⟨_, rfl⟩
    obtain ⟨B4, d4, hw4, _⟩ := own_form HS3.out.hv
    rw [← hn'] at hw4
    subst hw4
    have HN' := Lib.hid hn'
    have hn2k' : (n' : Int) ≤ 2000 := by omega
    obtain ⟨q, hq⟩ : ∃ q, q = isAt l' b := ⟨_, rfl⟩
    obtain ⟨⟨x1, x2, x3⟩, hx⟩ : ∃ x, x = peekK l' b := ⟨_, rfl⟩
    have hpk := npeek_any b HS3.out.net
    rw [← hx, ← hq] at hpk
    unfold pkV at hpk
    simp only at hpk
    have HPK := Lib.hid hpk
    have HQ := Lib.hid hq
    have HX := Lib.hid hx
    clear hn' hq hx hpk
    go_upto_region 68 with (go_at_call 14; with_reducible refine HPK.out.mono ?_; rintro e w5 ⟨rfl, b5⟩)
    have ba5 : Below w5.heap.size w5 (w5.alloc (.cells #[.int .i64 x1, .int .i64 x2, .string x3] 29)) := (Below.refl _ _).alloc (Nat.le_refl _) _
    have X5 := Blk.new w5 29 #[.int .i64 x1, .int .i64 x2, .string x3]
    have S5 := (HS3.out.step b5).step ba5
    have K5 := (HK3.out.below b5).below ba5
    generalize w5.alloc (.cells #[.int .i64 x1, .int .i64 x2, .string x3] 29) = V at ba5 X5 S5 K5 ⊢
    have k25 : V.cell? ⟨gb, 2, none⟩ = some (.int .i64 b) := K5.cell 2
    have HS5 := Lib.hid S5
    have HX5 := Lib.hid X5
    clear S5 K5 X5 ba5 b5 k2 HS3 HK3
    go_cut [25] from 333 to 342 (fun u25 wx => u25 = .bool q ∧ wx = V)
    case first =>
      by_cases ha0 : 0 ≤ b
      · by_cases han : b < (n' : Int)
        · have hd1 : decide (0 ≤ b) = true := decide_eq_true ha0
          have hd2 : decide (b < (n' : Int)) = true := decide_eq_true han
          have HQQ : Hid (q = true) := by unfold Hid; rw [HQ.out]; unfold isAt; rw [← HN'.out, hd1, hd2]; rfl
          go_wp2
          go_meet
          case rel => exact ⟨by rw [HQQ.out], rfl⟩
        · have hd1 : decide (0 ≤ b) = true := decide_eq_true ha0
          have hd2 : decide (b < (n' : Int)) = false := decide_eq_false han
          have HQQ : Hid (q = false) := by unfold Hid; rw [HQ.out]; unfold isAt; rw [← HN'.out, hd1, hd2]; rfl
          go_wp2
          go_meet
          case rel => exact ⟨by rw [HQQ.out], rfl⟩
      · have hd1 : decide (0 ≤ b) = false := decide_eq_false ha0
        have HQQ : Hid (q = false) := by unfold Hid; rw [HQ.out]; unfold isAt; rw [hd1]; rfl
        go_wp2
        go_meet
        case rel => exact ⟨by rw [HQQ.out], rfl⟩
    case rest =>
    obtain ⟨rfl, rfl⟩ := hcut
    have hlen : ∀ r : NewM wc, Calls Try.prog 10 #[.pointer (some ⟨g, 0, none⟩)] r.w' fun e w' => e = .returned (.int .i64 n') ∧ w' = r.w' := fun r => by
      have := nlen_any (HS5.out.step r.h).net
      rwa [← HN'.out] at this
    have HLEN := Lib.hid hlen
    have p0 := NewM.cell (show wc.cell? ⟨w5.heap.size, 0, none⟩ = some (.int .i64 x1) from HX5.out.cell 0)
    have p1 := NewM.cell (show wc.cell? ⟨w5.heap.size, 1, none⟩ = some (.int .i64 x2) from HX5.out.cell 1)
    have p2 := NewM.cell (show wc.cell? ⟨w5.heap.size, 2, none⟩ = some (.string x3) from HX5.out.cell 2)
    have o2 := NewM.cell k25
    have hnn : ((n' : Int) == (n' : Int)) = true := by simp
    clear hlen
    cases q
    · have hno : peekK l' b = noPk := by unfold peekK; rw [← HQ.out]; rfl
      obtain ⟨rfl, rfl, rfl⟩ : x1 = 0 ∧ x2 = 0 ∧ x3 = ⟨#[]⟩ := by
        have := HX.out.trans hno
        unfold noPk at this
        injection this with h1 h2 h3
        exact ⟨h1, h2, h3⟩
      have hee : ((⟨#[]⟩ : ByteArray).toList == (⟨#[]⟩ : ByteArray).toList) = true := by simp
      clear hno
      go_upto_region 69 with fail
      refine wp_region_quiet_new (by kernel_rfl) (by kernel_rfl) ?_
      repeat (go_big_quiet_step (first | (go_at_call 10; with_reducible exact NewM.call_same (HLEN.out _))))
      refine wpQuiet_nil ?_
      rintro _ ⟨r, rfl⟩
      clear p0 p1 p2 o2 k25
      go_wp2
      refine ⟨⟨rfl, rfl, rfl, rfl, _, _, i + 1, l', c', v1', v2', rfl, rfl, by rw [show ((i + 1 : Nat) : Int) = (i : Int) + 1 by omega]; rfl, by omega, hl', hc', HS5.out.step r.h⟩, ?_⟩
      show n0 - (intOf (.int .i64 ((i : Int) + 1))).toNat < n0 - (intOf (.int .i64 (i : Int))).toNat
      simp [intOf]; omega
    · obtain ⟨j, rfl, hjl⟩ := isAt_nat HQ.out.symm
      have hxj := HX.out
      rw [peek_nat hjl] at hxj
      have hgx : l'[j]? = some ⟨x1, x2, x3⟩ := by rw [List.getElem?_eq_getElem hjl, hxj]
      have hv5 := HS5.out.hv
      rw [← HN'.out] at hv5
      obtain ⟨bh, oh, y, hB4, hbh, hy, f0, f1, f2⟩ := (Rd.of_own hv5).pk (k := j) hjl
      rw [hgx] at hy
      obtain rfl := Option.some.inj hy
      subst hB4
      simp only at f0 f1 f2
      have f0 := NewM.cell f0
      have f1 := NewM.cell f1
      have f2 := NewM.cell f2
      have hjn : (j : Int) < (n' : Int) := by have := HN'.out; omega
      have ex1 : (x1 == x1) = true := by simp
      have ex2 : (x2 == x2) = true := by simp
      have ex3 : (x3.toList == x3.toList) = true := by simp
      clear hxj hgx hv5 hy hjl
      go_upto_region 69 with fail
      refine wp_region_quiet_new (by kernel_rfl) (by kernel_rfl) ?_
      repeat (go_big_quiet_step (first | (go_at_call 10; with_reducible exact NewM.call_same (HLEN.out _))))
      refine wpQuiet_nil ?_
      rintro _ ⟨r, rfl⟩
      clear p0 p1 p2 o2 k25 f0 f1 f2
      go_wp2
      refine ⟨⟨rfl, rfl, rfl, rfl, _, _, i + 1, l', c', v1', v2', rfl, rfl, by rw [show ((i + 1 : Nat) : Int) = (i : Int) + 1 by omega]; rfl, by omega, hl', hc', HS5.out.step r.h⟩, ?_⟩
      show n0 - (intOf (.int .i64 ((i : Int) + 1))).toNat < n0 - (intOf (.int .i64 (i : Int))).toNat
      simp [intOf]; omega
end Go.Proofs.Ytpkbfdgfdgkbkaa
