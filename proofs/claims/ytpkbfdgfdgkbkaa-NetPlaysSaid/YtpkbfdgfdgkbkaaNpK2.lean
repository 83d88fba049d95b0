/-
  NetPlays: a round of its loop, act 2. Conditions: as the loop's head has it.
-/
import Derived.Test.YtpkbfdgfdgkbkaaNpD
namespace Go.Proofs.Ytpkbfdgfdgkbkaa
open Go Go.RowKit
attribute [local go_sem] cell_set_if

set_option maxRecDepth 1000000 in
set_option maxHeartbeats 16000000 in
theorem np_case2 (A0 : Option Addr) (n0 c0 : Nat) (os : List OpN) (w : World) (R0 : Hid (Rd w A0 (flatN os))) (E0 : Hid (os.length = n0)) (HFT : Hid (∀ o ∈ os, o.fits w)) (h0' : (n0 : Int) ≤ 80) (g : Nat) (f : Nat → Value) (Q0 : Exit → Act → World → Prop)
    (hret : ∀ (a' : Act) (w'' : World), bodyPost Try.prog Try.f4 (fun e w' => e = Ending.returned (Value.bool true) ∧ Below w.heap.size w w') .ret a' w'' → Q0 .ret a' w'')
    (wr : World) (i : Nat) (l : List Pk) (c : List Ct) (v1 v2 u4 u5 : Value) (_hi : i ≤ n0) (hl : l.length ≤ 2000) (hc : c.length ≤ i) (HS : Hid (NetS w wr g l c l c v1 v2 u4 u5)) (hlt : i < n0) (HKD : Hid (∀ x, os[i]? = some x → x.kind = 2)) :
    Code.wp Try.prog npBody (Exit.then (fun a' w' => NpWI A0 n0 c0 w g a' w' ∧ NpMu n0 a' < NpMu n0 ⟨#[.slice A0 n0 c0, f 1, f 2, .pointer (some ⟨g, 0, none⟩), u4, u5, .int .i64 i, f 7, f 8, f 9, f 10, f 11, f 12, f 13, f 14, f 15, f 16, f 17, f 18, f 19, f 20, f 21, f 22, f 23, f 24, f 25, f 26, f 27, f 28, f 29, f 30, f 31, f 32, f 33, f 34, f 35, f 36, f 37, f 38, f 39, f 40, f 41, f 42, f 43, f 44, f 45, f 46, f 47, f 48, f 49, f 50, f 51, f 52, f 53, f 54, f 55, f 56, f 57, f 58, f 59, f 60, f 61, f 62, f 63, f 64, f 65, f 66, f 67, f 68, f 69, f 70, f 71, f 72, f 73, f 74, f 75, f 76, f 77, f 78, f 79, f 80, f 81, f 82, f 83, f 84, f 85, f 86, f 87, f 88, f 89, f 90, f 91, f 92, f 93, f 94, f 95, f 96, f 97, f 98, f 99, f 100, f 101, f 102, f 103, f 104, f 105, f 106, f 107, f 108, f 109, f 110, f 111, f 112, f 113, f 114, f 115, f 116, f 117, f 118, f 119, f 120, f 121, f 122, f 123, f 124, f 125, f 126, f 127, f 128, f 129, f 130, f 131, f 132, f 133, f 134, f 135, f 136, f 137, f 138, f 139, f 140, f 141, f 142, f 143, f 144, f 145, f 146, f 147, f 148, f 149, f 150, f 151, f 152, f 153, f 154, f 155, f 156, f 157, f 158, f 159, f 160, f 161, f 162, f 163, f 164, f 165, f 166, f 167, f 168, f 169, f 170, f 171, f 172, f 173, f 174, f 175, f 176, f 177, f 178, f 179, f 180, f 181, f 182, f 183, f 184, f 185, f 186, f 187, f 188, f 189, f 190, f 191, f 192, f 193, f 194, f 195, f 196, f 197, f 198, f 199, f 200, f 201, f 202, f 203, f 204, f 205, f 206, f 207, f 208, f 209, f 210, f 211, f 212, f 213, f 214, f 215, f 216, f 217, f 218, f 219, f 220, f 221, f 222, f 223, f 224, f 225, f 226, f 227, f 228, f 229, f 230, f 231, f 232, f 233, f 234, f 235, f 236, f 237, f 238, f 239, f 240, f 241, f 242, f 243, f 244, f 245, f 246, f 247, f 248, f 249, f 250, f 251, f 252, f 253, f 254, f 255, f 256, f 257, f 258, f 259, f 260, f 261, f 262, f 263, f 264, f 265, f 266, f 267, f 268, f 269, f 270, f 271, f 272, f 273, f 274, f 275, f 276, f 277, f 278, f 279, f 280, f 281, f 282, f 283, f 284, f 285, f 286, f 287, f 288, f 289, f 290, f 291, f 292, f 293, f 294, f 295, f 296, f 297, f 298, f 299, f 300, f 301, f 302, f 303, f 304, f 305, f 306, f 307, f 308, f 309, f 310, f 311, f 312, f 313, f 314, f 315, f 316, f 317, f 318, f 319, f 320, f 321, f 322, f 323, f 324, f 325, f 326, f 327, f 328, f 329, f 330, f 331, f 332, f 333, f 334, f 335, f 336, f 337, f 338, f 339, f 340, f 341, f 342, f 343, f 344, f 345, f 346, f 347, f 348, f 349, f 350, f 351, f 352, f 353, f 354, f 355, f 356, f 357, f 358, f 359, f 360, f 361, f 362, f 363, f 364, f 365, f 366, f 367, f 368, f 369, f 370, f 371, f 372, f 373, f 374, f 375, f 376, f 377, f 378, f 379, f 380, f 381, f 382, f 383, f 384, f 385, f 386, f 387, f 388, f 389, f 390, f 391, f 392, f 393, f 394, f 395, f 396, f 397, f 398, f 399, f 400, f 401, f 402, f 403, f 404, f 405, f 406, f 407], []⟩) Q0) ⟨#[.slice A0 n0 c0, f 1, f 2, .pointer (some ⟨g, 0, none⟩), u4, u5, .int .i64 i, f 7, f 8, f 9, f 10, f 11, f 12, f 13, f 14, f 15, f 16, f 17, f 18, f 19, f 20, f 21, f 22, f 23, f 24, f 25, f 26, f 27, f 28, f 29, f 30, f 31, f 32, f 33, f 34, f 35, f 36, f 37, f 38, f 39, f 40, f 41, f 42, f 43, f 44, f 45, f 46, f 47, f 48, f 49, f 50, f 51, f 52, f 53, f 54, f 55, f 56, f 57, f 58, f 59, f 60, f 61, f 62, f 63, f 64, f 65, f 66, f 67, f 68, f 69, f 70, f 71, f 72, f 73, f 74, f 75, f 76, f 77, f 78, f 79, f 80, f 81, f 82, f 83, f 84, f 85, f 86, f 87, f 88, f 89, f 90, f 91, f 92, f 93, f 94, f 95, f 96, f 97, f 98, f 99, f 100, f 101, f 102, f 103, f 104, f 105, f 106, f 107, f 108, f 109, f 110, f 111, f 112, f 113, f 114, f 115, f 116, f 117, f 118, f 119, f 120, f 121, f 122, f 123, f 124, f 125, f 126, f 127, f 128, f 129, f 130, f 131, f 132, f 133, f 134, f 135, f 136, f 137, f 138, f 139, f 140, f 141, f 142, f 143, f 144, f 145, f 146, f 147, f 148, f 149, f 150, f 151, f 152, f 153, f 154, f 155, f 156, f 157, f 158, f 159, f 160, f 161, f 162, f 163, f 164, f 165, f 166, f 167, f 168, f 169, f 170, f 171, f 172, f 173, f 174, f 175, f 176, f 177, f 178, f 179, f 180, f 181, f 182, f 183, f 184, f 185, f 186, f 187, f 188, f 189, f 190, f 191, f 192, f 193, f 194, f 195, f 196, f 197, f 198, f 199, f 200, f 201, f 202, f 203, f 204, f 205, f 206, f 207, f 208, f 209, f 210, f 211, f 212, f 213, f 214, f 215, f 216, f 217, f 218, f 219, f 220, f 221, f 222, f 223, f 224, f 225, f 226, f 227, f 228, f 229, f 230, f 231, f 232, f 233, f 234, f 235, f 236, f 237, f 238, f 239, f 240, f 241, f 242, f 243, f 244, f 245, f 246, f 247, f 248, f 249, f 250, f 251, f 252, f 253, f 254, f 255, f 256, f 257, f 258, f 259, f 260, f 261, f 262, f 263, f 264, f 265, f 266, f 267, f 268, f 269, f 270, f 271, f 272, f 273, f 274, f 275, f 276, f 277, f 278, f 279, f 280, f 281, f 282, f 283, f 284, f 285, f 286, f 287, f 288, f 289, f 290, f 291, f 292, f 293, f 294, f 295, f 296, f 297, f 298, f 299, f 300, f 301, f 302, f 303, f 304, f 305, f 306, f 307, f 308, f 309, f 310, f 311, f 312, f 313, f 314, f 315, f 316, f 317, f 318, f 319, f 320, f 321, f 322, f 323, f 324, f 325, f 326, f 327, f 328, f 329, f 330, f 331, f 332, f 333, f 334, f 335, f 336, f 337, f 338, f 339, f 340, f 341, f 342, f 343, f 344, f 345, f 346, f 347, f 348, f 349, f 350, f 351, f 352, f 353, f 354, f 355, f 356, f 357, f 358, f 359, f 360, f 361, f 362, f 363, f 364, f 365, f 366, f 367, f 368, f 369, f 370, f 371, f 372, f 373, f 374, f 375, f 376, f 377, f 378, f 379, f 380, f 381, f 382, f 383, f 384, f 385, f 386, f 387, f 388, f 389, f 390, f 391, f 392, f 393, f 394, f 395, f 396, f 397, f 398, f 399, f 400, f 401, f 402, f 403, f 404, f 405, f 406, f 407], []⟩ wr := by
  obtain ⟨ik, hik, hkz0, hkz1, hkz2⟩ := info_parts pkInfo
  obtain ⟨it, hit, htz0, htz1, htz2⟩ := info_parts ctInfo
  conv => arg 2; whnf
  have hlti : (i : Int) < (n0 : Int) := by omega
  obtain ⟨bk, oo, x, rfl, hbl, hx, d0, d1, d2, d3, d4⟩ := R0.out.opn (k := i) (by have := E0.out; omega)
  have hfx := HFT.out x (List.mem_of_getElem? hx)
  have hkd := HKD.out x hx
  obtain ⟨kind, a, b, Ap, np, cp, ps, own⟩ := x
  obtain ⟨hrp, hnp, hmp⟩ := hfx
  simp only at d0 d1 d2 d3 d4 hrp hnp hmp hkd
  have e0 : wr.cell? ⟨bk, oo + i * 5, none⟩ = some (.int .i64 kind) := (HS.out.below.cell (p := ⟨bk, oo + i * 5, none⟩) hbl).trans d0
  have e1 : wr.cell? ⟨bk, oo + i * 5 + 1, none⟩ = some (.int .i64 a) := (HS.out.below.cell (p := ⟨bk, oo + i * 5 + 1, none⟩) hbl).trans d1
  have e2 : wr.cell? ⟨bk, oo + i * 5 + 2, none⟩ = some (.int .i64 b) := (HS.out.below.cell (p := ⟨bk, oo + i * 5 + 2, none⟩) hbl).trans d2
  have e3 : wr.cell? ⟨bk, oo + i * 5 + 3, none⟩ = some (.slice Ap np cp) := (HS.out.below.cell (p := ⟨bk, oo + i * 5 + 3, none⟩) hbl).trans d3
  have e4 : wr.cell? ⟨bk, oo + i * 5 + 4, none⟩ = some (.bool own) := (HS.out.below.cell (p := ⟨bk, oo + i * 5 + 4, none⟩) hbl).trans d4
  have ba : Below wr.heap.size wr (wr.alloc (.cells #[.int .i64 kind, .int .i64 a, .int .i64 b, .slice Ap np cp, .bool own] 38)) := (Below.refl _ _).alloc (Nat.le_refl _) _
  have KO := Blk.new wr 38 #[.int .i64 kind, .int .i64 a, .int .i64 b, .slice Ap np cp, .bool own]
  have S2 := HS.out.step ba
  have HRP := Lib.hid hrp
  have HNP := Lib.hid hnp
  have hnpi : (np : Int) ≤ 9223372036854775807 := by unfold maxLen at hmp; omega
  have HKX := Lib.hid hkd
  clear hx d0 d1 d2 d3 d4 hrp hnp hmp hkd
  go_upto_if 53 with fail
  obtain ⟨gb, hgb⟩ : ∃ gb, gb = wr.heap.size := ⟨_, rfl⟩
  generalize wr.alloc (.cells #[.int .i64 kind, .int .i64 a, .int .i64 b, .slice Ap np cp, .bool own] 38) = W at ba KO S2 ⊢
  rw [← hgb] at KO ⊢
  have k0 : W.cell? ⟨gb, 0, none⟩ = some (.int .i64 kind) := KO.cell 0
  have HKO := Lib.hid KO
  have HS2 := Lib.hid S2
  clear hgb ba KO S2 HS e0 e1 e2 e3 e4
  by_cases hbig : 20 < np
  · have hbi : 20 < (np : Int) := by omega
    go_wp2
    go_ret
    exact ⟨rfl, HS2.out.below⟩
  have hnp20 : (np : Int) ≤ 20 := by omega
  have hnp20n : np ≤ 20 := by omega
  clear hbig
  obtain ⟨n, hn⟩ : ∃ n, n = l.length := ⟨_, rfl⟩
  obtain ⟨m, hm⟩ : ∃ m, m = c.length := ⟨_, rfl⟩
  obtain ⟨A4, c4, hu4, hc4⟩ := own_form HS2.out.hv
  obtain ⟨A5, c5, hu5, hc5⟩ := own_form HS2.out.ct
  rw [← hn] at hu4 hc4
  rw [← hm] at hu5 hc5
  subst hu4
  subst hu5
  have HN := Lib.hid hn
  have HM := Lib.hid hm
  have hn2k : (n : Int) ≤ 2000 := by omega
  have hm80 : (m : Int) ≤ 80 := by omega
  clear hn hm
  go_upto_block 2 with fail
  go_cut [4, 5, 8] from 56 to 325 (fun u4 u5 u8 wx => ∃ (l' : List Pk) (c' : List Ct) (v1' v2' : Value), u8 = .bool true ∧ l'.length ≤ 2000 ∧ c'.length ≤ i + 1 ∧ Hid (NetS w wx g l' c' l' c' v1' v2' u4 u5) ∧ Hid (Blk wx gb 38 #[.int .i64 kind, .int .i64 a, .int .i64 b, .slice Ap np cp, .bool own]))
  case first =>
    have hkd := HKX.out
    subst hkd
    obtain ⟨q, hq⟩ : ∃ q, q = isAt l a := ⟨_, rfl⟩
    obtain ⟨⟨x1, x2, x3⟩, hx⟩ : ∃ x, x = peekK l a := ⟨_, rfl⟩
    have htk := ntake_any a HS2.out.net hl
    rw [← hx, ← hq] at htk
    unfold pkV at htk
    simp only at htk
    have HTK := Lib.hid htk
    have HQ := Lib.hid hq
    have HX := Lib.hid hx
    clear hq hx htk
    have k1 : W.cell? ⟨gb, 1, none⟩ = some (.int .i64 a) := HKO.out.cell 1
    go_upto_region 40 with (go_at_call 9; with_reducible refine HTK.out.mono ?_; rintro e w5 ⟨rfl, v5, N5, T5⟩)
    have ba5 : Below w5.heap.size w5 (w5.alloc (.cells #[.int .i64 x1, .int .i64 x2, .string x3] 29)) := (Below.refl _ _).alloc (Nat.le_refl _) _
    have X5 := Blk.new w5 29 #[.int .i64 x1, .int .i64 x2, .string x3]
    have S5 := (HS2.out.turn N5 T5).step ba5
    have K5 := (HS2.out.keeps HKO.out T5 (by decide)).below ba5
    generalize w5.alloc (.cells #[.int .i64 x1, .int .i64 x2, .string x3] 29) = V at ba5 X5 S5 K5 ⊢
    have k15 : V.cell? ⟨gb, 1, none⟩ = some (.int .i64 a) := K5.cell 1
    have p0 : V.cell? ⟨w5.heap.size, 0, none⟩ = some (.int .i64 x1) := X5.cell 0
    have p1 : V.cell? ⟨w5.heap.size, 1, none⟩ = some (.int .i64 x2) := X5.cell 1
    have p2 : V.cell? ⟨w5.heap.size, 2, none⟩ = some (.string x3) := X5.cell 2
    have HS5 := Lib.hid S5
    have HK5 := Lib.hid K5
    clear S5 K5 X5 ba5 N5 T5 k1
    go_cut [17] from 143 to 152 (fun u17 wx => u17 = .bool q ∧ wx = V)
    case first =>
      by_cases ha0 : 0 ≤ a
      · by_cases han : a < (n : Int)
        · have hd1 : decide (0 ≤ a) = true := decide_eq_true ha0
          have hd2 : decide (a < (n : Int)) = true := decide_eq_true han
          have HQQ : Hid (q = true) := by unfold Hid; rw [HQ.out]; unfold isAt; rw [← HN.out, hd1, hd2]; rfl
          go_wp2
          go_meet
          case rel => exact ⟨by rw [HQQ.out], rfl⟩
        · have hd1 : decide (0 ≤ a) = true := decide_eq_true ha0
          have hd2 : decide (a < (n : Int)) = false := decide_eq_false han
          have HQQ : Hid (q = false) := by unfold Hid; rw [HQ.out]; unfold isAt; rw [← HN.out, hd1, hd2]; rfl
          go_wp2
          go_meet
          case rel => exact ⟨by rw [HQQ.out], rfl⟩
      · have hd1 : decide (0 ≤ a) = false := decide_eq_false ha0
        have HQQ : Hid (q = false) := by unfold Hid; rw [HQ.out]; unfold isAt; rw [hd1]; rfl
        go_wp2
        go_meet
        case rel => exact ⟨by rw [HQQ.out], rfl⟩
    case rest =>
    obtain ⟨rfl, rfl⟩ := hcut
    cases q
    · have hno : peekK l a = noPk := by unfold peekK; rw [← HQ.out]; rfl
      obtain ⟨rfl, rfl, rfl⟩ : x1 = 0 ∧ x2 = 0 ∧ x3 = ⟨#[]⟩ := by
        have := HX.out.trans hno
        unfold noPk at this
        injection this with h1 h2 h3
        exact ⟨h1, h2, h3⟩
      have hee : ((⟨#[]⟩ : ByteArray).toList == (⟨#[]⟩ : ByteArray).toList) = true := by simp
      have htl : Hid (takeK l a = l) := by unfold Hid takeK; rw [← HQ.out]; rfl
      clear hno
      go_wp2
      go_quiet (fail)
      go_wp2
      go_meet
      case rel =>
        have S6 := HS5.out.step (below_drewN (Below.refl _ _) nq)
        rw [htl.out] at S6
        exact ⟨l, c, v5, v2, rfl, hl, by omega, S6, HK5.out.drewN nq⟩
    · obtain ⟨j, rfl, hjl⟩ := isAt_nat HQ.out.symm
      have hxj := HX.out
      rw [peek_nat hjl] at hxj
      have hgx : l[j]? = some ⟨x1, x2, x3⟩ := by rw [List.getElem?_eq_getElem hjl, hxj]
      have hv5 := HS5.out.hv
      rw [← HN.out] at hv5
      have hjn0 : j < n := by have := HN.out; omega
      obtain ⟨g4, cc4, e4, hg4lo, hg4lt⟩ := hv5.form (by omega)
      have hA4 : A4 = some ⟨g4, 0, none⟩ := by injection e4
      subst hA4
      obtain ⟨bh, oh, y, hB4, hbh, hy, f0, f1, f2⟩ := (Rd.of_own hv5).pk (k := j) hjl
      injection hB4 with hB4
      injection hB4 with hB4 hO4
      subst hB4 hO4
      rw [hgx] at hy
      obtain rfl := Option.some.inj hy
      simp only [Nat.zero_add] at f0 f1 f2
      have hjn : (j : Int) < (n : Int) := by omega
      have hmin : min (j : Int) ((n : Int) - 1) = (j : Int) := by omega
      have hmax : max (j : Int) 0 = (j : Int) := by omega
      have ex1 : (x1 == x1) = true := by simp
      have ex2 : (x2 == x2) = true := by simp
      have ex3 : (x3.toList == x3.toList) = true := by simp
      have htl : Hid (takeK l (j : Int) = l.take j ++ l.drop (j + 1)) := by unfold Hid takeK; rw [← HQ.out, if_pos rfl, Int.toNat_natCast]
      have HRD := Lib.hid (Rd.of_own hv5)
      clear hxj hgx hy hv5 e4
      go_wp2
      go_quiet (fail)
      obtain ⟨jj, hjj⟩ : ∃ jj : Nat, jj = j + 1 := ⟨_, rfl⟩
      have hji : (j : Int) + 1 = (jj : Int) := by omega
      have hjjn : (jj : Int) ≤ (n : Int) := by omega
      have hjjw : IntKind.i64.wrap (jj : Int) = (jj : Int) := IntWalk.i64_in _ (by omega)
      have hjjw2 : IntKind.i64.wrap ((j : Int) + 1) = (jj : Int) := by rw [hji]; exact hjjw
      have hjj0 : 0 ≤ (jj : Int) := by omega
      have hjjN : (jj : Int).toNat = jj := by omega
      have hc4n : n ≤ c4 := hc4
      have hc4i : (n : Int) ≤ (c4 : Int) := by omega
      have S6 := HS5.out.step (below_drewN (Below.refl _ _) nq)
      have K6 : Blk (wc.drewN nq) gb 38 #[.int .i64 2, .int .i64 j, .int .i64 b, .slice Ap np cp, .bool own] := HK5.out.drewN nq
      have RD6 : Rd (wc.drewN nq) (some ⟨g4, 0, none⟩) (flatK l) := HRD.out
      obtain ⟨As, hAs, hRs⟩ : ∃ As : Option Addr, (if c4 = jj then (some (⟨g4, 0, none⟩ : Addr)) else some ⟨g4, jj * 3, none⟩) = As ∧ Rd (wc.drewN nq).drew As (flatK (l.drop jj)) := by
        by_cases h : c4 = jj
        · refine ⟨some ⟨g4, 0, none⟩, by simp [h], ?_⟩
          have h0 : l.drop jj = [] := List.drop_eq_nil_of_le (by have := HN.out; omega)
          rw [h0]; exact Rd.nil _ _
        · refine ⟨some ⟨g4, jj * 3, none⟩, by simp [h], Rd.row fun t u hu => ?_⟩
          rw [← flatK_drop, List.getElem?_drop] at hu
          obtain ⟨ad, e, hc⟩ := RD6 (jj * 3 + t) u hu
          injection e with e; subst e
          rw [add_flat, Nat.zero_add] at hc; exact hc
      have hRt : Rd (wc.drewN nq).drew (some ⟨g4, 0, none⟩) (flatK (l.take j)) := by
        rw [← flatK_take]; exact RD6.take _
      have hlt1 : (flatK (l.take j)).length = j * 3 := by rw [flatK_len, List.length_take]; have := HN.out; omega
      have hld1 : (flatK (l.drop jj)).length = (n - jj) * 3 := by rw [flatK_len, List.length_drop]; have := HN.out; omega
      have A0 : (wc.drewN nq).drew.cell? ⟨gb, 1, none⟩ = some (.int .i64 j) := K6.cell 1
      have HJJ := Lib.hid hjj
      have HL1 := Lib.hid hlt1
      have HL2 := Lib.hid hld1
      have HS6 := Lib.hid S6
      have HK6 := Lib.hid K6
      have HRs := Lib.hid hRs
      have HRt := Lib.hid hRt
      have hjc : j ≤ c4 := by omega
      have hjjc : jj ≤ c4 := by omega
      have hjjn2 : jj ≤ n := by omega
      have hbd : Below (wc.drewN nq).heap.size (wc.drewN nq) (wc.drewN nq).drew := (Below.refl _ _).drew
      have HBD := Lib.hid hbd
      clear hjj S6 K6 RD6 hRs hRt hlt1 hld1 hbd HRD k15 p0 p1 p2 hmin hmax f0 f1 f2
      go_upto_region 43 with fail
      go_region_held3 (fun W => W.cell? ⟨gb, 1, none⟩ = some (.int .i64 j)) (first | exact A0 | exact Q8 | exact Q7 | with_reducible assumption)
        (first
          | (refine step_app_g (by rfl) (.const (.slice none 0 0)) (.tmp 186) 35 rfl (wc.drewN nq).heap.size 29 ik _ 3 32 Try.underlying35 hik hkz0 hkz1 hkz2 rfl (by omega) (.slice none 0 0) 0 [] rfl (World.ownsRow_nil _ _ _ _) (some ⟨g4, 0, none⟩) j c4 (flatK (l.take j)) rfl HRt.out HL1.out (flatK_one _) (by unfold maxLen; omega) (by omega) (Nat.le_refl _) ?_
             intro v7 w7 ho7 hg7 hb7 hat7
             rw [Nat.zero_add, List.nil_append] at ho7
             obtain ⟨A7, c7, rfl, hc7⟩ := own_form ho7
             have Q7 : w7.cell? ⟨gb, 1, none⟩ = some (.int .i64 j) := cell_b hb7 A0
             have HB7 := Lib.hid (HBD.out.trans hb7)
             have RS7 := HRs.out.below hb7)
          | (refine step_app_g (by rfl) (.tmp 187) (.tmp 192) 35 rfl (wc.drewN nq).heap.size 29 ik _ 3 32 Try.underlying35 hik hkz0 hkz1 hkz2 rfl (by omega) (.slice A7 j c7) j (flatK (l.take j)) rfl ho7 As (n - jj) (c4 - jj) (flatK (l.drop jj)) rfl RS7 HL2.out (flatK_one _) (by unfold maxLen; omega) (by omega) (by exact HB7.out.size) ?_
             intro v8 w8 ho8 hg8 hb8 hat8
             have Q8 : w8.cell? ⟨gb, 1, none⟩ = some (.int .i64 j) := by
               have h1 := HK6.out.below (HB7.out.trans hb8)
               exact h1.cell 1
             have HB8 := Lib.hid (HB7.out.trans hb8)
             have HO8 := Lib.hid ho8))
      all_goals
        go_wp2
        go_meet
        case rel =>
          have hlen : (l.take j ++ l.drop (j + 1)).length = j + (n - jj) := by rw [List.length_append, List.length_take, List.length_drop]; have := HN.out; have := HJJ.out; omega
          have S8 : NetS w w8 g (takeK l (j : Int)) c (l.take j ++ l.drop (j + 1)) c v5 v2 v8 (.slice A5 m c5) := HS6.out.fresh HB8.out (by
            rw [hlen, flatK_app, ← HJJ.out]; exact HO8.out)
          rw [htl.out] at S8
          exact ⟨l.take j ++ l.drop (j + 1), c, v5, v2, rfl, by rw [hlen]; omega, by omega, S8, HK6.out.below HB8.out⟩
  case rest =>
    obtain ⟨l', c', v1', v2', rfl, hl', hc', HS3, HK3⟩ := hcut
    clear HS2 HKO k0 hl hc
    have k2 : wc.cell? ⟨gb, 2, none⟩ = some (.int .i64 b) := HK3.out.cell 2
    obtain ⟨n', hn'⟩ : ∃ n', n' = l'.length := ⟨_, rfl⟩
    obtain ⟨B4, d4, hw4, _⟩ := own_form HS3.out.hv
    rw [← hn'] at hw4
    subst hw4
    have HN' := Lib.hid hn'
    have hn2k' : (n' : Int) ≤ 2000 := by omega
    obtain ⟨q, hq⟩ : ∃ q, q = isAt l' b := ⟨_, rfl⟩
    obtain ⟨⟨x1, x2, x3⟩, hx⟩ : ∃ x, x = peekK l' b := ⟨_, rfl⟩
    have hpk := npeek_any b HS3.out.net
    rw [← hx, ← hq] at hpk
    unfold pkV at hpk
    simp only at hpk
    have HPK := Lib.hid hpk
    have HQ := Lib.hid hq
    have HX := Lib.hid hx
    clear hn' hq hx hpk
    go_upto_region 68 with (go_at_call 14; with_reducible refine HPK.out.mono ?_; rintro e w5 ⟨rfl, b5⟩)
    have ba5 : Below w5.heap.size w5 (w5.alloc (.cells #[.int .i64 x1, .int .i64 x2, .string x3] 29)) := (Below.refl _ _).alloc (Nat.le_refl _) _
    have X5 := Blk.new w5 29 #[.int .i64 x1, .int .i64 x2, .string x3]
    have S5 := (HS3.out.step b5).step ba5
    have K5 := (HK3.out.below b5).below ba5
    generalize w5.alloc (.cells #[.int .i64 x1, .int .i64 x2, .string x3] 29) = V at ba5 X5 S5 K5 ⊢
    have k25 : V.cell? ⟨gb, 2, none⟩ = some (.int .i64 b) := K5.cell 2
    have HS5 := Lib.hid S5
    have HX5 := Lib.hid X5
    clear S5 K5 X5 ba5 b5 k2 HS3 HK3
    go_cut [25] from 333 to 342 (fun u25 wx => u25 = .bool q ∧ wx = V)
    case first =>
      by_cases ha0 : 0 ≤ b
      · by_cases han : b < (n' : Int)
        · have hd1 : decide (0 ≤ b) = true := decide_eq_true ha0
          have hd2 : decide (b < (n' : Int)) = true := decide_eq_true han
          have HQQ : Hid (q = true) := by unfold Hid; rw [HQ.out]; unfold isAt; rw [← HN'.out, hd1, hd2]; rfl
          go_wp2
          go_meet
          case rel => exact ⟨by rw [HQQ.out], rfl⟩
        · have hd1 : decide (0 ≤ b) = true := decide_eq_true ha0
          have hd2 : decide (b < (n' : Int)) = false := decide_eq_false han
          have HQQ : Hid (q = false) := by unfold Hid; rw [HQ.out]; unfold isAt; rw [← HN'.out, hd1, hd2]; rfl
          go_wp2
          go_meet
          case rel => exact ⟨by rw [HQQ.out], rfl⟩
      · have hd1 : decide (0 ≤ b) = false := decide_eq_false ha0
        have HQQ : Hid (q = false) := by unfold Hid; rw [HQ.out]; unfold isAt; rw [hd1]; rfl
        go_wp2
        go_meet
        case rel => exact ⟨by rw [HQQ.out], rfl⟩
    case rest =>
    obtain ⟨rfl, rfl⟩ := hcut
    have hlen : ∀ r : NewM wc, Calls Try.prog 10 #[.pointer (some ⟨g, 0, none⟩)] r.w' fun e w' => e = .returned (.int .i64 n') ∧ w' = r.w' := fun r => by
      have := nlen_any (HS5.out.step r.h).net
      rwa [← HN'.out] at this
    have HLEN := Lib.hid hlen
    have p0 := NewM.cell (show wc.cell? ⟨w5.heap.size, 0, none⟩ = some (.int .i64 x1) from HX5.out.cell 0)
    have p1 := NewM.cell (show wc.cell? ⟨w5.heap.size, 1, none⟩ = some (.int .i64 x2) from HX5.out.cell 1)
    have p2 := NewM.cell (show wc.cell? ⟨w5.heap.size, 2, none⟩ = some (.string x3) from HX5.out.cell 2)
    have o2 := NewM.cell k25
    have hnn : ((n' : Int) == (n' : Int)) = true := by simp
    clear hlen
    cases q
    · have hno : peekK l' b = noPk := by unfold peekK; rw [← HQ.out]; rfl
      obtain ⟨rfl, rfl, rfl⟩ : x1 = 0 ∧ x2 = 0 ∧ x3 = ⟨#[]⟩ := by
        have := HX.out.trans hno
        unfold noPk at this
        injection this with h1 h2 h3
        exact ⟨h1, h2, h3⟩
      have hee : ((⟨#[]⟩ : ByteArray).toList == (⟨#[]⟩ : ByteArray).toList) = true := by simp
      clear hno
      go_upto_region 69 with fail
      refine wp_region_quiet_new (by kernel_rfl) (by kernel_rfl) ?_
      repeat (go_big_quiet_step (first | (go_at_call 10; with_reducible exact NewM.call_same (HLEN.out _))))
      refine wpQuiet_nil ?_
      rintro _ ⟨r, rfl⟩
      clear p0 p1 p2 o2 k25
      go_wp2
      refine ⟨⟨rfl, rfl, rfl, rfl, _, _, i + 1, l', c', v1', v2', rfl, rfl, by rw [show ((i + 1 : Nat) : Int) = (i : Int) + 1 by omega]; rfl, by omega, hl', hc', HS5.out.step r.h⟩, ?_⟩
      show n0 - (intOf (.int .i64 ((i : Int) + 1))).toNat < n0 - (intOf (.int .i64 (i : Int))).toNat
      simp [intOf]; omega
    · obtain ⟨j, rfl, hjl⟩ := isAt_nat HQ.out.symm
      have hxj := HX.out
      rw [peek_nat hjl] at hxj
      have hgx : l'[j]? = some ⟨x1, x2, x3⟩ := by rw [List.getElem?_eq_getElem hjl, hxj]
      have hv5 := HS5.out.hv
      rw [← HN'.out] at hv5
      obtain ⟨bh, oh, y, hB4, hbh, hy, f0, f1, f2⟩ := (Rd.of_own hv5).pk (k := j) hjl
      rw [hgx] at hy
      obtain rfl := Option.some.inj hy
      subst hB4
      simp only at f0 f1 f2
      have f0 := NewM.cell f0
      have f1 := NewM.cell f1
      have f2 := NewM.cell f2
      have hjn : (j : Int) < (n' : Int) := by have := HN'.out; omega
      have ex1 : (x1 == x1) = true := by simp
      have ex2 : (x2 == x2) = true := by simp
      have ex3 : (x3.toList == x3.toList) = true := by simp
      clear hxj hgx hv5 hy hjl
      go_upto_region 69 with fail
      refine wp_region_quiet_new (by kernel_rfl) (by kernel_rfl) ?_
      repeat (go_big_quiet_step (first | (go_at_call 10; with_reducible exact NewM.call_same (HLEN.out _))))
      refine wpQuiet_nil ?_
      rintro _ ⟨r, rfl⟩
      clear p0 p1 p2 o2 k25 f0 f1 f2
      go_wp2
      refine ⟨⟨rfl, rfl, rfl, rfl, _, _, i + 1, l', c', v1', v2', rfl, rfl, by rw [show ((i + 1 : Nat) : Int) = (i : Int) + 1 by omega]; rfl, by omega, hl', hc', HS5.out.step r.h⟩, ?_⟩
      show n0 - (intOf (.int .i64 ((i : Int) + 1))).toNat < n0 - (intOf (.int .i64 (i : Int))).toNat
      simp [intOf]; omega
end Go.Proofs.Ytpkbfdgfdgkbkaa
