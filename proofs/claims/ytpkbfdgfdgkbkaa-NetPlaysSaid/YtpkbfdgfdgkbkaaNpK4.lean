/-
  NetPlays: a round of its loop, act 4. Conditions: as the loop's head has it.
-/
import Derived.Test.YtpkbfdgfdgkbkaaNpD
import Derived.Test.YtpkbfdgfdgkbkaaRegTwo
namespace Go.Proofs.Ytpkbfdgfdgkbkaa
open Go Go.RowKit
attribute [local go_sem] cell_set_if

set_option maxRecDepth 1000000 in
set_option maxHeartbeats 16000000 in
theorem np_case4 (A0 : Option Addr) (n0 c0 : Nat) (os : List OpN) (w : World) (R0 : Hid (Rd w A0 (flatN os))) (E0 : Hid (os.length = n0)) (HFT : Hid (∀ o ∈ os, o.fits w)) (h0' : (n0 : Int) ≤ 80) (g : Nat) (f : Nat → Value) (Q0 : Exit → Act → World → Prop)
    (hret : ∀ (a' : Act) (w'' : World), bodyPost Try.prog Try.f4 (fun e w' => e = Ending.returned (Value.bool true) ∧ Below w.heap.size w w') .ret a' w'' → Q0 .ret a' w'')
    (wr : World) (i : Nat) (l : List Pk) (c : List Ct) (v1 v2 u4 u5 : Value) (_hi : i ≤ n0) (hl : l.length ≤ 2000) (hc : c.length ≤ i) (HS : Hid (NetS w wr g l c l c v1 v2 u4 u5)) (hlt : i < n0) (HKD : Hid (∀ x, os[i]? = some x → x.kind = 4)) :
    Code.wp Try.prog npBody (Exit.then (fun a' w' => NpWI A0 n0 c0 w g a' w' ∧ NpMu n0 a' < NpMu n0 ⟨#[.slice A0 n0 c0, f 1, f 2, .pointer (some ⟨g, 0, none⟩), u4, u5, .int .i64 i, f 7, f 8, f 9, f 10, f 11, f 12, f 13, f 14, f 15, f 16, f 17, f 18, f 19, f 20, f 21, f 22, f 23, f 24, f 25, f 26, f 27, f 28, f 29, f 30, f 31, f 32, f 33, f 34, f 35, f 36, f 37, f 38, f 39, f 40, f 41, f 42, f 43, f 44, f 45, f 46, f 47, f 48, f 49, f 50, f 51, f 52, f 53, f 54, f 55, f 56, f 57, f 58, f 59, f 60, f 61, f 62, f 63, f 64, f 65, f 66, f 67, f 68, f 69, f 70, f 71, f 72, f 73, f 74, f 75, f 76, f 77, f 78, f 79, f 80, f 81, f 82, f 83, f 84, f 85, f 86, f 87, f 88, f 89, f 90, f 91, f 92, f 93, f 94, f 95, f 96, f 97, f 98, f 99, f 100, f 101, f 102, f 103, f 104, f 105, f 106, f 107, f 108, f 109, f 110, f 111, f 112, f 113, f 114, f 115, f 116, f 117, f 118, f 119, f 120, f 121, f 122, f 123, f 124, f 125, f 126, f 127, f 128, f 129, f 130, f 131, f 132, f 133, f 134, f 135, f 136, f 137, f 138, f 139, f 140, f 141, f 142, f 143, f 144, f 145, f 146, f 147, f 148, f 149, f 150, f 151, f 152, f 153, f 154, f 155, f 156, f 157, f 158, f 159, f 160, f 161, f 162, f 163, f 164, f 165, f 166, f 167, f 168, f 169, f 170, f 171, f 172, f 173, f 174, f 175, f 176, f 177, f 178, f 179, f 180, f 181, f 182, f 183, f 184, f 185, f 186, f 187, f 188, f 189, f 190, f 191, f 192, f 193, f 194, f 195, f 196, f 197, f 198, f 199, f 200, f 201, f 202, f 203, f 204, f 205, f 206, f 207, f 208, f 209, f 210, f 211, f 212, f 213, f 214, f 215, f 216, f 217, f 218, f 219, f 220, f 221, f 222, f 223, f 224, f 225, f 226, f 227, f 228, f 229, f 230, f 231, f 232, f 233, f 234, f 235, f 236, f 237, f 238, f 239, f 240, f 241, f 242, f 243, f 244, f 245, f 246, f 247, f 248, f 249, f 250, f 251, f 252, f 253, f 254, f 255, f 256, f 257, f 258, f 259, f 260, f 261, f 262, f 263, f 264, f 265, f 266, f 267, f 268, f 269, f 270, f 271, f 272, f 273, f 274, f 275, f 276, f 277, f 278, f 279, f 280, f 281, f 282, f 283, f 284, f 285, f 286, f 287, f 288, f 289, f 290, f 291, f 292, f 293, f 294, f 295, f 296, f 297, f 298, f 299, f 300, f 301, f 302, f 303, f 304, f 305, f 306, f 307, f 308, f 309, f 310, f 311, f 312, f 313, f 314, f 315, f 316, f 317, f 318, f 319, f 320, f 321, f 322, f 323, f 324, f 325, f 326, f 327, f 328, f 329, f 330, f 331, f 332, f 333, f 334, f 335, f 336, f 337, f 338, f 339, f 340, f 341, f 342, f 343, f 344, f 345, f 346, f 347, f 348, f 349, f 350, f 351, f 352, f 353, f 354, f 355, f 356, f 357, f 358, f 359, f 360, f 361, f 362, f 363, f 364, f 365, f 366, f 367, f 368, f 369, f 370, f 371, f 372, f 373, f 374, f 375, f 376, f 377, f 378, f 379, f 380, f 381, f 382, f 383, f 384, f 385, f 386, f 387, f 388, f 389, f 390, f 391, f 392, f 393, f 394, f 395, f 396, f 397, f 398, f 399, f 400, f 401, f 402, f 403, f 404, f 405, f 406, f 407], []⟩) Q0) ⟨#[.slice A0 n0 c0, f 1, f 2, .pointer (some ⟨g, 0, none⟩), u4, u5, .int .i64 i, f 7, f 8, f 9, f 10, f 11, f 12, f 13, f 14, f 15, f 16, f 17, f 18, f 19, f 20, f 21, f 22, f 23, f 24, f 25, f 26, f 27, f 28, f 29, f 30, f 31, f 32, f 33, f 34, f 35, f 36, f 37, f 38, f 39, f 40, f 41, f 42, f 43, f 44, f 45, f 46, f 47, f 48, f 49, f 50, f 51, f 52, f 53, f 54, f 55, f 56, f 57, f 58, f 59, f 60, f 61, f 62, f 63, f 64, f 65, f 66, f 67, f 68, f 69, f 70, f 71, f 72, f 73, f 74, f 75, f 76, f 77, f 78, f 79, f 80, f 81, f 82, f 83, f 84, f 85, f 86, f 87, f 88, f 89, f 90, f 91, f 92, f 93, f 94, f 95, f 96, f 97, f 98, f 99, f 100, f 101, f 102, f 103, f 104, f 105, f 106, f 107, f 108, f 109, f 110, f 111, f 112, f 113, f 114, f 115, f 116, f 117, f 118, f 119, f 120, f 121, f 122, f 123, f 124, f 125, f 126, f 127, f 128, f 129, f 130, f 131, f 132, f 133, f 134, f 135, f 136, f 137, f 138, f 139, f 140, f 141, f 142, f 143, f 144, f 145, f 146, f 147, f 148, f 149, f 150, f 151, f 152, f 153, f 154, f 155, f 156, f 157, f 158, f 159, f 160, f 161, f 162, f 163, f 164, f 165, f 166, f 167, f 168, f 169, f 170, f 171, f 172, f 173, f 174, f 175, f 176, f 177, f 178, f 179, f 180, f 181, f 182, f 183, f 184, f 185, f 186, f 187, f 188, f 189, f 190, f 191, f 192, f 193, f 194, f 195, f 196, f 197, f 198, f 199, f 200, f 201, f 202, f 203, f 204, f 205, f 206, f 207, f 208, f 209, f 210, f 211, f 212, f 213, f 214, f 215, f 216, f 217, f 218, f 219, f 220, f 221, f 222, f 223, f 224, f 225, f 226, f 227, f 228, f 229, f 230, f 231, f 232, f 233, f 234, f 235, f 236, f 237, f 238, f 239, f 240, f 241, f 242, f 243, f 244, f 245, f 246, f 247, f 248, f 249, f 250, f 251, f 252, f 253, f 254, f 255, f 256, f 257, f 258, f 259, f 260, f 261, f 262, f 263, f 264, f 265, f 266, f 267, f 268, f 269, f 270, f 271, f 272, f 273, f 274, f 275, f 276, f 277, f 278, f 279, f 280, f 281, f 282, f 283, f 284, f 285, f 286, f 287, f 288, f 289, f 290, f 291, f 292, f 293, f 294, f 295, f 296, f 297, f 298, f 299, f 300, f 301, f 302, f 303, f 304, f 305, f 306, f 307, f 308, f 309, f 310, f 311, f 312, f 313, f 314, f 315, f 316, f 317, f 318, f 319, f 320, f 321, f 322, f 323, f 324, f 325, f 326, f 327, f 328, f 329, f 330, f 331, f 332, f 333, f 334, f 335, f 336, f 337, f 338, f 339, f 340, f 341, f 342, f 343, f 344, f 345, f 346, f 347, f 348, f 349, f 350, f 351, f 352, f 353, f 354, f 355, f 356, f 357, f 358, f 359, f 360, f 361, f 362, f 363, f 364, f 365, f 366, f 367, f 368, f 369, f 370, f 371, f 372, f 373, f 374, f 375, f 376, f 377, f 378, f 379, f 380, f 381, f 382, f 383, f 384, f 385, f 386, f 387, f 388, f 389, f 390, f 391, f 392, f 393, f 394, f 395, f 396, f 397, f 398, f 399, f 400, f 401, f 402, f 403, f 404, f 405, f 406, f 407], []⟩ wr := by
  obtain ⟨ik, hik, hkz0, hkz1, hkz2⟩ := info_parts pkInfo
  obtain ⟨it, hit, htz0, htz1, htz2⟩ := info_parts ctInfo
  conv => arg 2; whnf
  have hlti : (i : Int) < (n0 : Int) := by omega
  obtain ⟨bk, oo, x, rfl, hbl, hx, d0, d1, d2, d3, d4⟩ := R0.out.opn (k := i) (by have := E0.out; omega)
  have hfx := HFT.out x (List.mem_of_getElem? hx)
  have hkd := HKD.out x hx
  obtain ⟨kind, a, b, Ap, np, cp, ps, own⟩ := x
  obtain ⟨hrp, hnp, hmp⟩ := hfx
  simp only at d0 d1 d2 d3 d4 hrp hnp hmp hkd
  have e0 : wr.cell? ⟨bk, oo + i * 5, none⟩ = some (.int .i64 kind) := (HS.out.below.cell (p := ⟨bk, oo + i * 5, none⟩) hbl).trans d0
  have e1 : wr.cell? ⟨bk, oo + i * 5 + 1, none⟩ = some (.int .i64 a) := (HS.out.below.cell (p := ⟨bk, oo + i * 5 + 1, none⟩) hbl).trans d1
  have e2 : wr.cell? ⟨bk, oo + i * 5 + 2, none⟩ = some (.int .i64 b) := (HS.out.below.cell (p := ⟨bk, oo + i * 5 + 2, none⟩) hbl).trans d2
  have e3 : wr.cell? ⟨bk, oo + i * 5 + 3, none⟩ = some (.slice Ap np cp) := (HS.out.below.cell (p := ⟨bk, oo + i * 5 + 3, none⟩) hbl).trans d3
  have e4 : wr.cell? ⟨bk, oo + i * 5 + 4, none⟩ = some (.bool own) := (HS.out.below.cell (p := ⟨bk, oo + i * 5 + 4, none⟩) hbl).trans d4
  have ba : Below wr.heap.size wr (wr.alloc (.cells #[.int .i64 kind, .int .i64 a, .int .i64 b, .slice Ap np cp, .bool own] 38)) := (Below.refl _ _).alloc (Nat.le_refl _) _
  have KO := Blk.new wr 38 #[.int .i64 kind, .int .i64 a, .int .i64 b, .slice Ap np cp, .bool own]
  have S2 := HS.out.step ba
  have HRP := Lib.hid hrp
  have HNP := Lib.hid hnp
  have hnpi : (np : Int) ≤ 9223372036854775807 := by unfold maxLen at hmp; omega
  have HKX := Lib.hid hkd
  clear hx d0 d1 d2 d3 d4 hrp hnp hmp hkd
  go_upto_if 53 with fail
  obtain ⟨gb, hgb⟩ : ∃ gb, gb = wr.heap.size := ⟨_, rfl⟩
  generalize wr.alloc (.cells #[.int .i64 kind, .int .i64 a, .int .i64 b, .slice Ap np cp, .bool own] 38) = W at ba KO S2 ⊢
  rw [← hgb] at KO ⊢
  have k0 : W.cell? ⟨gb, 0, none⟩ = some (.int .i64 kind) := KO.cell 0
  have HKO := Lib.hid KO
  have HS2 := Lib.hid S2
  clear hgb ba KO S2 HS e0 e1 e2 e3 e4
  by_cases hbig : 20 < np
  · have hbi : 20 < (np : Int) := by omega
    go_wp2
    go_ret
    exact ⟨rfl, HS2.out.below⟩
  have hnp20 : (np : Int) ≤ 20 := by omega
  have hnp20n : np ≤ 20 := by omega
  clear hbig
  obtain ⟨n, hn⟩ : ∃ n, n = l.length := ⟨_, rfl⟩
  obtain ⟨m, hm⟩ : ∃ m, m = c.length := ⟨_, rfl⟩
  obtain ⟨A4, c4, hu4, hc4⟩ := own_form HS2.out.hv
  obtain ⟨A5, c5, hu5, hc5⟩ := own_form HS2.out.ct
  rw [← hn] at hu4 hc4
  rw [← hm] at hu5 hc5
  subst hu4
  subst hu5
  have HN := Lib.hid hn
  have HM := Lib.hid hm
  have hn2k : (n : Int) ≤ 2000 := by omega
  have hm80 : (m : Int) ≤ 80 := by omega
  clear hn hm
  go_upto_block 2 with fail
  go_cut [4, 5, 8] from 56 to 325 (fun u4 u5 u8 wx => ∃ (l' : List Pk) (c' : List Ct) (v1' v2' : Value), u8 = .bool true ∧ l'.length ≤ 2000 ∧ c'.length ≤ i + 1 ∧ Hid (NetS w wx g l' c' l' c' v1' v2' u4 u5) ∧ Hid (Blk wx gb 38 #[.int .i64 kind, .int .i64 a, .int .i64 b, .slice Ap np cp, .bool own]))
  case first =>
    have hkd := HKX.out
    subst hkd
    obtain ⟨q, hq⟩ : ∃ q, q = (isAt l a && isAt l b) := ⟨_, rfl⟩
    have HQ := Lib.hid hq
    clear hq
    have k1 : W.cell? ⟨gb, 1, none⟩ = some (.int .i64 a) := HKO.out.cell 1
    have k2 : W.cell? ⟨gb, 2, none⟩ = some (.int .i64 b) := HKO.out.cell 2
    go_upto_region 50 with fail
    go_cut [19] from 228 to 249 (fun u19 wx => u19 = .bool q ∧ wx = W)
    case first =>
      by_cases ha0 : 0 ≤ a
      · by_cases han : a < (n : Int)
        · by_cases hb0 : 0 ≤ b
          · by_cases hbn : b < (n : Int)
            · have hd1 : decide (0 ≤ a) = true := decide_eq_true ha0
              have hd2 : decide (a < (n : Int)) = true := decide_eq_true han
              have hd3 : decide (0 ≤ b) = true := decide_eq_true hb0
              have hd4 : decide (b < (n : Int)) = true := decide_eq_true hbn
              have HQQ : Hid (q = true) := by unfold Hid; rw [HQ.out]; unfold isAt; rw [← HN.out, hd1, hd2, hd3, hd4]; rfl
              go_wp2
              go_meet
              case rel => exact ⟨by rw [HQQ.out], rfl⟩
            · have hd1 : decide (0 ≤ a) = true := decide_eq_true ha0
              have hd2 : decide (a < (n : Int)) = true := decide_eq_true han
              have hd3 : decide (0 ≤ b) = true := decide_eq_true hb0
              have hd4 : decide (b < (n : Int)) = false := decide_eq_false hbn
              have HQQ : Hid (q = false) := by unfold Hid; rw [HQ.out]; unfold isAt; rw [← HN.out, hd1, hd2, hd3, hd4]; rfl
              go_wp2
              go_meet
              case rel => exact ⟨by rw [HQQ.out], rfl⟩
          · have hd1 : decide (0 ≤ a) = true := decide_eq_true ha0
            have hd2 : decide (a < (n : Int)) = true := decide_eq_true han
            have hd3 : decide (0 ≤ b) = false := decide_eq_false hb0
            have HQQ : Hid (q = false) := by unfold Hid; rw [HQ.out]; unfold isAt; rw [← HN.out, hd1, hd2, hd3]; rfl
            go_wp2
            go_meet
            case rel => exact ⟨by rw [HQQ.out], rfl⟩
        · have hd1 : decide (0 ≤ a) = true := decide_eq_true ha0
          have hd2 : decide (a < (n : Int)) = false := decide_eq_false han
          have HQQ : Hid (q = false) := by unfold Hid; rw [HQ.out]; unfold isAt; rw [← HN.out, hd1, hd2]; rfl
          go_wp2
          go_meet
          case rel => exact ⟨by rw [HQQ.out], rfl⟩
      · have hd1 : decide (0 ≤ a) = false := decide_eq_false ha0
        have HQQ : Hid (q = false) := by unfold Hid; rw [HQ.out]; unfold isAt; rw [hd1]; rfl
        go_wp2
        go_meet
        case rel => exact ⟨by rw [HQQ.out], rfl⟩
    case rest =>
    obtain ⟨rfl, rfl⟩ := hcut
    have hsw := nswap_any a b HS2.out.net
    rw [← HQ.out] at hsw
    have HSW := Lib.hid hsw
    clear hsw
    cases q
    · go_wp2_with (go_at_call 12; with_reducible refine HSW.out.mono ?_; rintro e w5 ⟨rfl, N5, T5⟩)
      have hdk : swapK l a b = l := by unfold swapK; rw [← HQ.out]; rfl
      rw [hdk] at N5
      go_meet
      case rel => exact ⟨l, c, _, _, rfl, hl, by omega, HS2.out.turn N5 T5, HS2.out.keeps HKO.out T5 (by decide)⟩
    · have hqc := HQ.out
      have hat : isAt l a = true ∧ isAt l b = true := by
        have := hqc.symm
        rwa [Bool.and_eq_true] at this
      obtain ⟨ia, rfl, hia⟩ := isAt_nat hat.1
      obtain ⟨ib, rfl, hib⟩ := isAt_nat hat.2
      obtain ⟨x, hxe⟩ : ∃ x, x = l[ia] := ⟨_, rfl⟩
      obtain ⟨y, hye⟩ : ∃ y, y = l[ib] := ⟨_, rfl⟩
      have hdk : swapK l (ia : Int) (ib : Int) = (l.set ia y).set ib x := by
        unfold swapK
        rw [hat.1, hat.2, peek_nat hia, peek_nat hib, ← hxe, ← hye]; rfl
      have hgx : l[ia]? = some x := by rw [List.getElem?_eq_getElem hia, hxe]
      have hgy : l[ib]? = some y := by rw [List.getElem?_eq_getElem hib, hye]
      have HDK := Lib.hid hdk
      have HGX := Lib.hid hgx
      have HGY := Lib.hid hgy
      have han : (ia : Int) < (n : Int) := by have := HN.out; omega
      have hbn : (ib : Int) < (n : Int) := by have := HN.out; omega
      have HAB : Hid (ia < n ∧ ib < n) := ⟨by omega, by omega⟩
      clear hqc hat hxe hye hdk hgx hgy hia hib
      go_upto_region 53 with (go_at_call 12; with_reducible refine HSW.out.mono ?_; rintro e w5 ⟨rfl, N5, T5⟩)
      rw [HDK.out] at N5
      have S5 := HS2.out.turn N5 T5
      have K5 := HS2.out.keeps HKO.out T5 (by decide)
      have hv5 := S5.hv
      rw [← HN.out] at hv5
      have hfl : (flatK l).length = n * 3 := by rw [flatK_len, HN.out]
      have HFL := Lib.hid hfl
      have RD5 := Rd.of_own hv5
      have HS5 := Lib.hid S5
      have HK5 := Lib.hid K5
      clear S5 K5 hv5 hfl N5 T5
      go_upto_region 54 with (at_builtin; refine wpList_app rfl (.const (.slice none 0 0)) (.tmp 259) 35 rfl w5.heap.size 29 ik _ 3 32 Try.underlying35 hik hkz0 hkz1 hkz2 rfl (by omega) (.slice none 0 0) 0 [] rfl (World.ownsRow_nil _ _ _ _) A4 n c4 (flatK l) rfl RD5 HFL.out (flatK_one l) (by unfold maxLen; omega) (by omega) (Nat.le_refl _) ?_; intro v8 w8 hown8 hg8 hb8 hat8; rw [Nat.zero_add, List.nil_append] at hown8)
      obtain ⟨g8, c8, hv8, hg8lo, hg8lt⟩ := hown8.form (by have := HAB.out; omega)
      subst hv8
      have S8 : NetS w w8 g ((l.set ia y).set ib x) c l c v1 v2 (.slice (some ⟨g8, 0, none⟩) n c8) (.slice A5 m c5) := HS5.out.fresh hb8 (by rw [← HN.out]; exact hown8)
      have K8 := HK5.out.below hb8
      have hcell : ∀ (t : Nat) (v : Value), (flatK l)[t]? = some v → w8.cell? ⟨g8, t, none⟩ = some v := fun t v hv => by
        have := hown8.cells (g := g8) rfl t v hv
        rwa [add_flat, Nat.zero_add] at this
      have a0 : w8.cell? ⟨g8, ia * 3, none⟩ = some (.int .i64 x.src) := hcell _ _ (flatK_at l ia x HGX.out 0 _ rfl)
      have a1 : w8.cell? ⟨g8, ia * 3 + 1, none⟩ = some (.int .i64 x.dst) := hcell _ _ (flatK_at l ia x HGX.out 1 _ rfl)
      have a2 : w8.cell? ⟨g8, ia * 3 + 2, none⟩ = some (.string x.data) := hcell _ _ (flatK_at l ia x HGX.out 2 _ rfl)
      have b0 : w8.cell? ⟨g8, ib * 3, none⟩ = some (.int .i64 y.src) := hcell _ _ (flatK_at l ib y HGY.out 0 _ rfl)
      have b1 : w8.cell? ⟨g8, ib * 3 + 1, none⟩ = some (.int .i64 y.dst) := hcell _ _ (flatK_at l ib y HGY.out 1 _ rfl)
      have b2 : w8.cell? ⟨g8, ib * 3 + 2, none⟩ = some (.string y.data) := hcell _ _ (flatK_at l ib y HGY.out 2 _ rfl)
      have fz : ∀ t, w8.frozen? ⟨g8, t, none⟩ = false := fun t => own_free hown8 t
      have k81 : w8.cell? ⟨gb, 1, none⟩ = some (.int .i64 ia) := K8.cell 1
      have k82 : w8.cell? ⟨gb, 2, none⟩ = some (.int .i64 ib) := K8.cell 2
      have hgne : g8 ≠ gb := fun e => by
        have h1 := own_ty hown8 (q := g8) rfl
        rw [e] at h1
        exact absurd (h1.eq K8.ty) (by decide)
      have hgne2 : gb ≠ g8 := fun e => hgne e.symm
      have hfk : ∀ (W' : World) (o1 o2 o3 t : Nat) (v1 v2 v3 u : Value), W'.cell? ⟨gb, t, none⟩ = some u → (((W'.setCell ⟨g8, o1, none⟩ v1).setCell ⟨g8, o2, none⟩ v2).setCell ⟨g8, o3, none⟩ v3).cell? ⟨gb, t, none⟩ = some u := fun W' o1 o2 o3 t v1 v2 v3 u h => by
        rw [World.cell?_setCell_far _ _ _ _ hgne, World.cell?_setCell_far _ _ _ _ hgne, World.cell?_setCell_far _ _ _ _ hgne]; exact h
      have hdr : ∀ (W' : World) (ad : Addr) (u : Value), W'.cell? ad = some u → W'.drew.cell? ad = some u := fun _ _ _ h => h
      have HS8 := Lib.hid S8
      have HK8 := Lib.hid K8
      have HO8 := Lib.hid hown8
      clear S8 K8 hcell hown8 hb8 hg8 hat8 RD5
      have H12 : Hid (∀ W : World, W = w8.drew → (W.cell? ⟨gb, 1, none⟩ = some (.int .i64 ia) ∧ W.cell? ⟨gb, 2, none⟩ = some (.int .i64 ib))) := fun W h => by subst h; exact ⟨k81, k82⟩
      refine wp_region_noPanic ?_
      refine wp_region_two (fun W => W = w8.drew) (fun W => W.cell? ⟨gb, 1, none⟩ = some (.int .i64 ia) ∧ W.cell? ⟨gb, 2, none⟩ = some (.int .i64 ib)) [10, 15] (by kernel_rfl) ?_
      refine wpAnyS_takew (i := 0) (v := ?v1) (fun _ h => H12.out _ h) (by simp only [List.getElem?_toArray, List.getElem?_cons_zero]; rfl) (by kernel_rfl) (by kernel_rfl) (by kernel_rfl) (by kernel_rfl) (fun _ _ _ h => h) (Or.inl ⟨by rfl, ?hy1⟩) rfl ?r1
      case hy1 => (intro W hW; (try dsimp only at hW); go_simp; try with_reducible rfl)
      try simp only [Act.put, List.setIfInBounds_toArray, List.set_cons_zero, List.set_cons_succ]
      refine wpAnyS_takew (i := 1) (v := ?v2) (fun _ h => H12.out _ h) (by simp only [List.getElem?_toArray, List.getElem?_cons_succ, List.getElem?_cons_zero]; rfl) (by kernel_rfl) (by kernel_rfl) (by kernel_rfl) (by kernel_rfl) (fun _ _ _ h => h) (Or.inl ⟨by rfl, ?hy2⟩) rfl ?r2
      case hy2 => (intro W hW; (try dsimp only at hW); go_simp; try with_reducible rfl)
      try simp only [Act.put, List.setIfInBounds_toArray, List.set_cons_zero, List.set_cons_succ]
      refine wpAnyS_takew (i := 2) (v := ?v3) (fun _ h => H12.out _ h) (by simp only [List.getElem?_toArray, List.getElem?_cons_succ, List.getElem?_cons_zero]; rfl) (by kernel_rfl) (by kernel_rfl) (by kernel_rfl) (by kernel_rfl) (fun _ _ _ h => h) (Or.inl ⟨by rfl, ?hy3⟩) rfl ?r3
      case hy3 => (intro W hW; (try dsimp only at hW); go_simp; try with_reducible rfl)
      try simp only [Act.put, List.setIfInBounds_toArray, List.set_cons_zero, List.set_cons_succ]
      refine wpAnyS_takew (i := 3) (v := ?v4) (fun _ h => H12.out _ h) (by simp only [List.getElem?_toArray, List.getElem?_cons_succ, List.getElem?_cons_zero]; rfl) (by kernel_rfl) (by kernel_rfl) (by kernel_rfl) (by kernel_rfl) (fun _ _ _ h => h) (Or.inl ⟨by rfl, ?hy4⟩) rfl ?r4
      case hy4 => (intro W hW; (try dsimp only at hW); go_simp; try with_reducible rfl)
      try simp only [Act.put, List.setIfInBounds_toArray, List.set_cons_zero, List.set_cons_succ]
      refine wpAnyS_takew (i := 4) (v := ?v5) (fun _ h => H12.out _ h) (by simp only [List.getElem?_toArray, List.getElem?_cons_succ, List.getElem?_cons_zero]; rfl) (by kernel_rfl) (by kernel_rfl) (by kernel_rfl) (by kernel_rfl) (fun _ _ _ h => h) (Or.inl ⟨by rfl, ?hy5⟩) rfl ?r5
      case hy5 => (intro W hW; (try dsimp only at hW); go_simp; try with_reducible rfl)
      try simp only [Act.put, List.setIfInBounds_toArray, List.set_cons_zero, List.set_cons_succ]
      refine wpAnyS_takew (i := 5) (v := ?v6) (fun _ h => H12.out _ h) (by simp only [List.getElem?_toArray, List.getElem?_cons_succ, List.getElem?_cons_zero]; rfl) (by kernel_rfl) (by kernel_rfl) (by kernel_rfl) (by kernel_rfl) (fun _ _ _ h => h) (Or.inl ⟨by rfl, ?hy6⟩) rfl ?r6
      case hy6 => (intro W hW; (try dsimp only at hW); go_simp; try with_reducible rfl)
      try simp only [Act.put, List.setIfInBounds_toArray, List.set_cons_zero, List.set_cons_succ]
      refine wpAnyS_takew (i := 6) (v := ?v7) (fun _ h => H12.out _ h) (by simp only [List.getElem?_toArray, List.getElem?_cons_succ, List.getElem?_cons_zero]; rfl) (by kernel_rfl) (by kernel_rfl) (by kernel_rfl) (by kernel_rfl) (fun _ _ _ h => h) (Or.inl ⟨by rfl, ?hy7⟩) rfl ?r7
      case hy7 => (intro W hW; (try dsimp only at hW); go_simp; try with_reducible rfl)
      try simp only [Act.put, List.setIfInBounds_toArray, List.set_cons_zero, List.set_cons_succ]
      refine wpAnyS_takew (i := 7) (v := ?v8) (fun _ h => H12.out _ h) (by simp only [List.getElem?_toArray, List.getElem?_cons_succ, List.getElem?_cons_zero]; rfl) (by kernel_rfl) (by kernel_rfl) (by kernel_rfl) (by kernel_rfl) (fun _ _ _ h => h) (Or.inl ⟨by rfl, ?hy8⟩) rfl ?r8
      case hy8 => (intro W hW; (try dsimp only at hW); go_simp; try with_reducible rfl)
      try simp only [Act.put, List.setIfInBounds_toArray, List.set_cons_zero, List.set_cons_succ]
      refine wpAnyS_takew (i := 8) (v := ?v9) (fun _ h => H12.out _ h) (by simp only [List.getElem?_toArray, List.getElem?_cons_succ, List.getElem?_cons_zero]; rfl) (by kernel_rfl) (by kernel_rfl) (by kernel_rfl) (by kernel_rfl) (fun _ _ _ h => h) (Or.inl ⟨by rfl, ?hy9⟩) rfl ?r9
      case hy9 => (intro W hW; (try dsimp only at hW); go_simp; try with_reducible rfl)
      try simp only [Act.put, List.setIfInBounds_toArray, List.set_cons_zero, List.set_cons_succ]
      refine wpAnyS_takew (i := 9) (v := ?v10) (fun _ h => H12.out _ h) (by simp only [List.getElem?_toArray, List.getElem?_cons_succ, List.getElem?_cons_zero]; rfl) (by kernel_rfl) (by kernel_rfl) (by kernel_rfl) (by kernel_rfl) (fun _ _ _ h => h) (Or.inl ⟨by rfl, ?hy10⟩) rfl ?r10
      case hy10 => (intro W hW; (try dsimp only at hW); go_simp; try with_reducible rfl)
      try simp only [Act.put, List.setIfInBounds_toArray, List.set_cons_zero, List.set_cons_succ]
      refine wpAnyS_takew (i := 11) (v := ?v11) (fun _ h => H12.out _ h) (by simp only [List.getElem?_toArray, List.getElem?_cons_succ, List.getElem?_cons_zero]; rfl) (by kernel_rfl) (by kernel_rfl) (by kernel_rfl) (by kernel_rfl) (fun _ _ _ h => h) (Or.inl ⟨by rfl, ?hy11⟩) rfl ?r11
      case hy11 => (intro W hW; (try dsimp only at hW); go_simp; try with_reducible rfl)
      try simp only [Act.put, List.setIfInBounds_toArray, List.set_cons_zero, List.set_cons_succ]
      refine wpAnyS_takew (i := 12) (v := ?v12) (fun _ h => H12.out _ h) (by simp only [List.getElem?_toArray, List.getElem?_cons_succ, List.getElem?_cons_zero]; rfl) (by kernel_rfl) (by kernel_rfl) (by kernel_rfl) (by kernel_rfl) (fun _ _ _ h => h) (Or.inl ⟨by rfl, ?hy12⟩) rfl ?r12
      case hy12 => (intro W hW; (try dsimp only at hW); go_simp; try with_reducible rfl)
      try simp only [Act.put, List.setIfInBounds_toArray, List.set_cons_zero, List.set_cons_succ]
      refine wpAnyS_takew (i := 13) (v := ?v13) (fun _ h => H12.out _ h) (by simp only [List.getElem?_toArray, List.getElem?_cons_succ, List.getElem?_cons_zero]; rfl) (by kernel_rfl) (by kernel_rfl) (by kernel_rfl) (by kernel_rfl) (fun _ _ _ h => h) (Or.inl ⟨by rfl, ?hy13⟩) rfl ?r13
      case hy13 => (intro W hW; (try dsimp only at hW); go_simp; try with_reducible rfl)
      try simp only [Act.put, List.setIfInBounds_toArray, List.set_cons_zero, List.set_cons_succ]
      refine wpAnyS_takew (i := 14) (v := ?v14) (fun _ h => H12.out _ h) (by simp only [List.getElem?_toArray, List.getElem?_cons_succ, List.getElem?_cons_zero]; rfl) (by kernel_rfl) (by kernel_rfl) (by kernel_rfl) (by kernel_rfl) (fun _ _ _ h => h) (Or.inl ⟨by rfl, ?hy14⟩) rfl ?r14
      case hy14 => (intro W hW; (try dsimp only at hW); go_simp; try with_reducible rfl)
      try simp only [Act.put, List.setIfInBounds_toArray, List.set_cons_zero, List.set_cons_succ]
      refine wpAnyS_take (i := 10) (v := ?v15) (by simp only [List.getElem?_toArray, List.getElem?_cons_succ, List.getElem?_cons_zero]; rfl) (by kernel_rfl) (by kernel_rfl) (by kernel_rfl) (by kernel_rfl) (by kernel_rfl) (fun _ _ _ h => h) (Or.inl ⟨by rfl, ?hy15⟩) rfl ?r15
      case hy15 => (intro W hW; (try dsimp only at hW); subst hW; go_simp; try with_reducible rfl)
      try simp only [Act.put, List.setIfInBounds_toArray, List.set_cons_zero, List.set_cons_succ]
      refine wpAnyS_take (i := 15) (v := ?v16) (by simp only [List.getElem?_toArray, List.getElem?_cons_succ, List.getElem?_cons_zero]; rfl) (by kernel_rfl) (by kernel_rfl) (by kernel_rfl) (by kernel_rfl) (by kernel_rfl) (fun _ _ _ h => h) (Or.inl ⟨by rfl, ?hy16⟩) rfl ?r16
      case hy16 => (intro W hW; (try dsimp only at hW); subst hW; go_simp; try with_reducible rfl)
      try simp only [Act.put, List.setIfInBounds_toArray, List.set_cons_zero, List.set_cons_succ]
      refine wpAnyS_rest (by kernel_rfl) ?_
      refine wpAnyH_take (i := 16) (v := ?v17) (by simp only [List.getElem?_toArray, List.getElem?_cons_succ, List.getElem?_cons_zero]; rfl) (by kernel_rfl) (by kernel_rfl) (by kernel_rfl) (fun _ _ _ h => h) (Or.inl ⟨by rfl, ?hy17⟩) (H12.out _ rfl) ?r17
      case hy17 => (intro W hW; (try dsimp only at hW); go_simp; try with_reducible rfl)
      try simp only [Act.put, List.setIfInBounds_toArray, List.set_cons_zero, List.set_cons_succ]
      refine wpAnyH_ready (rs := [17]) (by kernel_rfl) (by simp) ?_
      refine AllReadyH.cons (by simp only [List.getElem?_toArray, List.getElem?_cons_succ, List.getElem?_cons_zero]; rfl) (fun K hK => ?_) AllReadyH.nil
      go_simp
      refine hK.out _ _ ?hS19 (fun hHeld => ?_)
      case hS19 => (first | with_reducible exact ⟨hdr _ _ _ (hfk _ _ _ _ _ _ _ _ _ k81), hdr _ _ _ (hfk _ _ _ _ _ _ _ _ _ k82)⟩ | exact ⟨hdr _ _ _ (hfk _ _ _ _ _ _ _ _ _ k81), hdr _ _ _ (hfk _ _ _ _ _ _ _ _ _ k82)⟩)
      clear hK K
      try simp only [Act.put, List.setIfInBounds_toArray, List.set_cons_zero, List.set_cons_succ]
      refine wpAnyH_take (i := 18) (v := ?v18) (by simp only [List.getElem?_toArray, List.getElem?_cons_succ, List.getElem?_cons_zero]; rfl) (by kernel_rfl) (by kernel_rfl) (by kernel_rfl) (fun _ _ _ h => h) (Or.inl ⟨by rfl, ?hy18⟩) hHeld ?r18
      case hy18 => (intro W hW; (try dsimp only at hW); go_simp; try with_reducible rfl)
      try simp only [Act.put, List.setIfInBounds_toArray, List.set_cons_zero, List.set_cons_succ]
      clear hHeld
      refine wpAnyH_ready (rs := [19]) (by kernel_rfl) (by simp) ?_
      refine AllReadyH.cons (by simp only [List.getElem?_toArray, List.getElem?_cons_succ, List.getElem?_cons_zero]; rfl) (fun K hK => ?_) AllReadyH.nil
      go_simp
      refine hK.out _ _ ?hS20 (fun hHeld => ?_)
      case hS20 => (first | with_reducible exact ⟨hdr _ _ _ (hfk _ _ _ _ _ _ _ _ _ (hfk _ _ _ _ _ _ _ _ _ k81)), hdr _ _ _ (hfk _ _ _ _ _ _ _ _ _ (hfk _ _ _ _ _ _ _ _ _ k82))⟩ | exact ⟨hdr _ _ _ (hfk _ _ _ _ _ _ _ _ _ (hfk _ _ _ _ _ _ _ _ _ k81)), hdr _ _ _ (hfk _ _ _ _ _ _ _ _ _ (hfk _ _ _ _ _ _ _ _ _ k82))⟩)
      clear hK K hHeld
      try simp only [Act.put, List.setIfInBounds_toArray, List.set_cons_zero, List.set_cons_succ]
      refine wpAnyH_done (by kernel_rfl) ?_ _
      refine NoPanic.normal ?_
      have FX : Frm (at1 g8) w8 ((((((w8.setCell ⟨g8, ia * 3, none⟩ (.int .i64 y.src)).setCell ⟨g8, ia * 3 + 1, none⟩ (.int .i64 y.dst)).setCell ⟨g8, ia * 3 + 2, none⟩ (.string y.data)).setCell ⟨g8, ib * 3, none⟩ (.int .i64 x.src)).setCell ⟨g8, ib * 3 + 1, none⟩ (.int .i64 x.dst)).setCell ⟨g8, ib * 3 + 2, none⟩ (.string x.data)) :=
        ((((((Frm.refl (at1 g8) w8).setCell (p := ⟨g8, ia * 3, none⟩) (fun _ => rfl) _).setCell (p := ⟨g8, ia * 3 + 1, none⟩) (fun _ => rfl) _).setCell (p := ⟨g8, ia * 3 + 2, none⟩) (fun _ => rfl) _).setCell (p := ⟨g8, ib * 3, none⟩) (fun _ => rfl) _).setCell (p := ⟨g8, ib * 3 + 1, none⟩) (fun _ => rfl) _).setCell (p := ⟨g8, ib * 3 + 2, none⟩) (fun _ => rfl) _
      have hO := own_swap (x := x) (y := y) HO8.out HAB.out.1 HAB.out.2
      have FY : Frm (fun k => (Value.slice (some ⟨g8, 0, none⟩) n c8).ownBlock = some k) w8 (((((((w8.setCell ⟨g8, ia * 3, none⟩ (.int .i64 y.src)).setCell ⟨g8, ia * 3 + 1, none⟩ (.int .i64 y.dst)).setCell ⟨g8, ia * 3 + 2, none⟩ (.string y.data)).setCell ⟨g8, ib * 3, none⟩ (.int .i64 x.src)).setCell ⟨g8, ib * 3 + 1, none⟩ (.int .i64 x.dst)).setCell ⟨g8, ib * 3 + 2, none⟩ (.string x.data)).drew) := (FX.drew).mono fun q _ e => by rw [show q = g8 from e]; rfl
      have hlen : ((l.set ia y).set ib x).length = n := by rw [List.length_set, List.length_set, HN.out]
      have S9 : NetS w (((((((w8.setCell ⟨g8, ia * 3, none⟩ (.int .i64 y.src)).setCell ⟨g8, ia * 3 + 1, none⟩ (.int .i64 y.dst)).setCell ⟨g8, ia * 3 + 2, none⟩ (.string y.data)).setCell ⟨g8, ib * 3, none⟩ (.int .i64 x.src)).setCell ⟨g8, ib * 3 + 1, none⟩ (.int .i64 x.dst)).setCell ⟨g8, ib * 3 + 2, none⟩ (.string x.data)).drew) g ((l.set ia y).set ib x) c ((l.set ia y).set ib x) c v1 v2 (.slice (some ⟨g8, 0, none⟩) n c8) (.slice A5 m c5) := HS8.out.wrote FY (by rw [hlen]; exact own_base (own_frm (S := no) hO ((Frm.refl no _).drew) (fun _ _ h => h)) HS5.out.below.size)
      have K9 := HS8.out.keepw HK8.out FY (by decide)
      have HS9 := Lib.hid S9
      have HK9 := Lib.hid K9
      clear FX hO FY S9 K9
      go_wp2
      go_meet
      case rel => exact ⟨(l.set ia y).set ib x, c, v1, v2, rfl, by rw [hlen]; omega, by omega, HS9.out, HK9.out⟩
  case rest =>
    obtain ⟨l', c', v1', v2', rfl, hl', hc', HS3, HK3⟩ := hcut
    clear HS2 HKO k0 hl hc
    have k2 : wc.cell? ⟨gb, 2, none⟩ = some (.int .i64 b) := HK3.out.cell 2
    obtain ⟨n', hn'⟩ : ∃ n', n' = l'.length := ⟨_, rfl⟩
    obtain ⟨B4, d4, hw4, _⟩ := own_form HS3.out.hv
    rw [← hn'] at hw4
    subst hw4
    have HN' := Lib.hid hn'
    have hn2k' : (n' : Int) ≤ 2000 := by omega
    obtain ⟨q, hq⟩ : ∃ q, q = isAt l' b := ⟨_, rfl⟩
    obtain ⟨⟨x1, x2, x3⟩, hx⟩ : ∃ x, x = peekK l' b := ⟨_, rfl⟩
    have hpk := npeek_any b HS3.out.net
    rw [← hx, ← hq] at hpk
    unfold pkV at hpk
    simp only at hpk
    have HPK := Lib.hid hpk
    have HQ := Lib.hid hq
    have HX := Lib.hid hx
    clear hn' hq hx hpk
    go_upto_region 68 with (go_at_call 14; with_reducible refine HPK.out.mono ?_; rintro e w5 ⟨rfl, b5⟩)
    have ba5 : Below w5.heap.size w5 (w5.alloc (.cells #[.int .i64 x1, .int .i64 x2, .string x3] 29)) := (Below.refl _ _).alloc (Nat.le_refl _) _
    have X5 := Blk.new w5 29 #[.int .i64 x1, .int .i64 x2, .string x3]
    have S5 := (HS3.out.step b5).step ba5
    have K5 := (HK3.out.below b5).below ba5
    generalize w5.alloc (.cells #[.int .i64 x1, .int .i64 x2, .string x3] 29) = V at ba5 X5 S5 K5 ⊢
    have k25 : V.cell? ⟨gb, 2, none⟩ = some (.int .i64 b) := K5.cell 2
    have HS5 := Lib.hid S5
    have HX5 := Lib.hid X5
    clear S5 K5 X5 ba5 b5 k2 HS3 HK3
    go_cut [25] from 333 to 342 (fun u25 wx => u25 = .bool q ∧ wx = V)
    case first =>
      by_cases ha0 : 0 ≤ b
      · by_cases han : b < (n' : Int)
        · have hd1 : decide (0 ≤ b) = true := decide_eq_true ha0
          have hd2 : decide (b < (n' : Int)) = true := decide_eq_true han
          have HQQ : Hid (q = true) := by unfold Hid; rw [HQ.out]; unfold isAt; rw [← HN'.out, hd1, hd2]; rfl
          go_wp2
          go_meet
          case rel => exact ⟨by rw [HQQ.out], rfl⟩
        · have hd1 : decide (0 ≤ b) = true := decide_eq_true ha0
          have hd2 : decide (b < (n' : Int)) = false := decide_eq_false han
          have HQQ : Hid (q = false) := by unfold Hid; rw [HQ.out]; unfold isAt; rw [← HN'.out, hd1, hd2]; rfl
          go_wp2
          go_meet
          case rel => exact ⟨by rw [HQQ.out], rfl⟩
      · have hd1 : decide (0 ≤ b) = false := decide_eq_false ha0
        have HQQ : Hid (q = false) := by unfold Hid; rw [HQ.out]; unfold isAt; rw [hd1]; rfl
        go_wp2
        go_meet
        case rel => exact ⟨by rw [HQQ.out], rfl⟩
    case rest =>
    obtain ⟨rfl, rfl⟩ := hcut
    have hlen : ∀ r : NewM wc, Calls Try.prog 10 #[.pointer (some ⟨g, 0, none⟩)] r.w' fun e w' => e = .returned (.int .i64 n') ∧ w' = r.w' := fun r => by
      have := nlen_any (HS5.out.step r.h).net
      rwa [← HN'.out] at this
    have HLEN := Lib.hid hlen
    have p0 := NewM.cell (show wc.cell? ⟨w5.heap.size, 0, none⟩ = some (.int .i64 x1) from HX5.out.cell 0)
    have p1 := NewM.cell (show wc.cell? ⟨w5.heap.size, 1, none⟩ = some (.int .i64 x2) from HX5.out.cell 1)
    have p2 := NewM.cell (show wc.cell? ⟨w5.heap.size, 2, none⟩ = some (.string x3) from HX5.out.cell 2)
    have o2 := NewM.cell k25
    have hnn : ((n' : Int) == (n' : Int)) = true := by simp
    clear hlen
    cases q
    · have hno : peekK l' b = noPk := by unfold peekK; rw [← HQ.out]; rfl
      obtain ⟨rfl, rfl, rfl⟩ : x1 = 0 ∧ x2 = 0 ∧ x3 = ⟨#[]⟩ := by
        have := HX.out.trans hno
        unfold noPk at this
        injection this with h1 h2 h3
        exact ⟨h1, h2, h3⟩
      have hee : ((⟨#[]⟩ : ByteArray).toList == (⟨#[]⟩ : ByteArray).toList) = true := by simp
      clear hno
      go_upto_region 69 with fail
      refine wp_region_quiet_new (by kernel_rfl) (by kernel_rfl) ?_
      repeat (go_big_quiet_step (first | (go_at_call 10; with_reducible exact NewM.call_same (HLEN.out _))))
      refine wpQuiet_nil ?_
      rintro _ ⟨r, rfl⟩
      clear p0 p1 p2 o2 k25
      go_wp2
      refine ⟨⟨rfl, rfl, rfl, rfl, _, _, i + 1, l', c', v1', v2', rfl, rfl, by rw [show ((i + 1 : Nat) : Int) = (i : Int) + 1 by omega]; rfl, by omega, hl', hc', HS5.out.step r.h⟩, ?_⟩
      show n0 - (intOf (.int .i64 ((i : Int) + 1))).toNat < n0 - (intOf (.int .i64 (i : Int))).toNat
      simp [intOf]; omega
    · obtain ⟨j, rfl, hjl⟩ := isAt_nat HQ.out.symm
      have hxj := HX.out
      rw [peek_nat hjl] at hxj
      have hgx : l'[j]? = some ⟨x1, x2, x3⟩ := by rw [List.getElem?_eq_getElem hjl, hxj]
      have hv5 := HS5.out.hv
      rw [← HN'.out] at hv5
      obtain ⟨bh, oh, y, hB4, hbh, hy, f0, f1, f2⟩ := (Rd.of_own hv5).pk (k := j) hjl
      rw [hgx] at hy
      obtain rfl := Option.some.inj hy
      subst hB4
      simp only at f0 f1 f2
      have f0 := NewM.cell f0
      have f1 := NewM.cell f1
      have f2 := NewM.cell f2
      have hjn : (j : Int) < (n' : Int) := by have := HN'.out; omega
      have ex1 : (x1 == x1) = true := by simp
      have ex2 : (x2 == x2) = true := by simp
      have ex3 : (x3.toList == x3.toList) = true := by simp
      clear hxj hgx hv5 hy hjl
      go_upto_region 69 with fail
      refine wp_region_quiet_new (by kernel_rfl) (by kernel_rfl) ?_
      repeat (go_big_quiet_step (first | (go_at_call 10; with_reducible exact NewM.call_same (HLEN.out _))))
      refine wpQuiet_nil ?_
      rintro _ ⟨r, rfl⟩
      clear p0 p1 p2 o2 k25 f0 f1 f2
      go_wp2
      refine ⟨⟨rfl, rfl, rfl, rfl, _, _, i + 1, l', c', v1', v2', rfl, rfl, by rw [show ((i + 1 : Nat) : Int) = (i : Int) + 1 by omega]; rfl, by omega, hl', hc', HS5.out.step r.h⟩, ?_⟩
      show n0 - (intOf (.int .i64 ((i : Int) + 1))).toNat < n0 - (intOf (.int .i64 (i : Int))).toNat
      simp [intOf]; omega
end Go.Proofs.Ytpkbfdgfdgkbkaa
