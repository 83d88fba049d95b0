/-
  NetPlays: a round of its loop, act 5. Conditions: as the loop's head has it.
-/
import Derived.Test.YtpkbfdgfdgkbkaaNpD
namespace Go.Proofs.Ytpkbfdgfdgkbkaa
open Go Go.RowKit
attribute [local go_sem] cell_set_if

set_option maxRecDepth 1000000 in
set_option maxHeartbeats 16000000 in
theorem np_case5 (A0 : Option Addr) (n0 c0 : Nat) (os : List OpN) (w : World) (R0 : Hid (Rd w A0 (flatN os))) (E0 : Hid (os.length = n0)) (HFT : Hid (∀ o ∈ os, o.fits w)) (h0' : (n0 : Int) ≤ 80) (g : Nat) (f : Nat → Value) (Q0 : Exit → Act → World → Prop)
    (hret : ∀ (a' : Act) (w'' : World), bodyPost Try.prog Try.f4 (fun e w' => e = Ending.returned (Value.bool true) ∧ Below w.heap.size w w') .ret a' w'' → Q0 .ret a' w'')
    (wr : World) (i : Nat) (l : List Pk) (c : List Ct) (v1 v2 u4 u5 : Value) (_hi : i ≤ n0) (hl : l.length ≤ 2000) (hc : c.length ≤ i) (HS : Hid (NetS w wr g l c l c v1 v2 u4 u5)) (hlt : i < n0) (HKD : Hid (∀ x, os[i]? = some x → x.kind = 5)) :
    Code.wp Try.prog npBody (Exit.then (fun a' w' => NpWI A0 n0 c0 w g a' w' ∧ NpMu n0 a' < NpMu n0 ⟨#[.slice A0 n0 c0, f 1, f 2, .pointer (some ⟨g, 0, none⟩), u4, u5, .int .i64 i, f 7, f 8, f 9, f 10, f 11, f 12, f 13, f 14, f 15, f 16, f 17, f 18, f 19, f 20, f 21, f 22, f 23, f 24, f 25, f 26, f 27, f 28, f 29, f 30, f 31, f 32, f 33, f 34, f 35, f 36, f 37, f 38, f 39, f 40, f 41, f 42, f 43, f 44, f 45, f 46, f 47, f 48, f 49, f 50, f 51, f 52, f 53, f 54, f 55, f 56, f 57, f 58, f 59, f 60, f 61, f 62, f 63, f 64, f 65, f 66, f 67, f 68, f 69, f 70, f 71, f 72, f 73, f 74, f 75, f 76, f 77, f 78, f 79, f 80, f 81, f 82, f 83, f 84, f 85, f 86, f 87, f 88, f 89, f 90, f 91, f 92, f 93, f 94, f 95, f 96, f 97, f 98, f 99, f 100, f 101, f 102, f 103, f 104, f 105, f 106, f 107, f 108, f 109, f 110, f 111, f 112, f 113, f 114, f 115, f 116, f 117, f 118, f 119, f 120, f 121, f 122, f 123, f 124, f 125, f 126, f 127, f 128, f 129, f 130, f 131, f 132, f 133, f 134, f 135, f 136, f 137, f 138, f 139, f 140, f 141, f 142, f 143, f 144, f 145, f 146, f 147, f 148, f 149, f 150, f 151, f 152, f 153, f 154, f 155, f 156, f 157, f 158, f 159, f 160, f 161, f 162, f 163, f 164, f 165, f 166, f 167, f 168, f 169, f 170, f 171, f 172, f 173, f 174, f 175, f 176, f 177, f 178, f 179, f 180, f 181, f 182, f 183, f 184, f 185, f 186, f 187, f 188, f 189, f 190, f 191, f 192, f 193, f 194, f 195, f 196, f 197, f 198, f 199, f 200, f 201, f 202, f 203, f 204, f 205, f 206, f 207, f 208, f 209, f 210, f 211, f 212, f 213, f 214, f 215, f 216, f 217, f 218, f 219, f 220, f 221, f 222, f 223, f 224, f 225, f 226, f 227, f 228, f 229, f 230, f 231, f 232, f 233, f 234, f 235, f 236, f 237, f 238, f 239, f 240, f 241, f 242, f 243, f 244, f 245, f 246, f 247, f 248, f 249, f 250, f 251, f 252, f 253, f 254, f 255, f 256, f 257, f 258, f 259, f 260, f 261, f 262, f 263, f 264, f 265, f 266, f 267, f 268, f 269, f 270, f 271, f 272, f 273, f 274, f 275, f 276, f 277, f 278, f 279, f 280, f 281, f 282, f 283, f 284, f 285, f 286, f 287, f 288, f 289, f 290, f 291, f 292, f 293, f 294, f 295, f 296, f 297, f 298, f 299, f 300, f 301, f 302, f 303, f 304, f 305, f 306, f 307, f 308, f 309, f 310, f 311, f 312, f 313, f 314, f 315, f 316, f 317, f 318, f 319, f 320, f 321, f 322, f 323, f 324, f 325, f 326, f 327, f 328, f 329, f 330, f 331, f 332, f 333, f 334, f 335, f 336, f 337, f 338, f 339, f 340, f 341, f 342, f 343, f 344, f 345, f 346, f 347, f 348, f 349, f 350, f 351, f 352, f 353, f 354, f 355, f 356, f 357, f 358, f 359, f 360, f 361, f 362, f 363, f 364, f 365, f 366, f 367, f 368, f 369, f 370, f 371, f 372, f 373, f 374, f 375, f 376, f 377, f 378, f 379, f 380, f 381, f 382, f 383, f 384, f 385, f 386, f 387, f 388, f 389, f 390, f 391, f 392, f 393, f 394, f 395, f 396, f 397, f 398, f 399, f 400, f 401, f 402, f 403, f 404, f 405, f 406, f 407], []⟩) Q0) ⟨#[.slice A0 n0 c0, f 1, f 2, .pointer (some ⟨g, 0, none⟩), u4, u5, .int .i64 i, f 7, f 8, f 9, f 10, f 11, f 12, f 13, f 14, f 15, f 16, f 17, f 18, f 19, f 20, f 21, f 22, f 23, f 24, f 25, f 26, f 27, f 28, f 29, f 30, f 31, f 32, f 33, f 34, f 35, f 36, f 37, f 38, f 39, f 40, f 41, f 42, f 43, f 44, f 45, f 46, f 47, f 48, f 49, f 50, f 51, f 52, f 53, f 54, f 55, f 56, f 57, f 58, f 59, f 60, f 61, f 62, f 63, f 64, f 65, f 66, f 67, f 68, f 69, f 70, f 71, f 72, f 73, f 74, f 75, f 76, f 77, f 78, f 79, f 80, f 81, f 82, f 83, f 84, f 85, f 86, f 87, f 88, f 89, f 90, f 91, f 92, f 93, f 94, f 95, f 96, f 97, f 98, f 99, f 100, f 101, f 102, f 103, f 104, f 105, f 106, f 107, f 108, f 109, f 110, f 111, f 112, f 113, f 114, f 115, f 116, f 117, f 118, f 119, f 120, f 121, f 122, f 123, f 124, f 125, f 126, f 127, f 128, f 129, f 130, f 131, f 132, f 133, f 134, f 135, f 136, f 137, f 138, f 139, f 140, f 141, f 142, f 143, f 144, f 145, f 146, f 147, f 148, f 149, f 150, f 151, f 152, f 153, f 154, f 155, f 156, f 157, f 158, f 159, f 160, f 161, f 162, f 163, f 164, f 165, f 166, f 167, f 168, f 169, f 170, f 171, f 172, f 173, f 174, f 175, f 176, f 177, f 178, f 179, f 180, f 181, f 182, f 183, f 184, f 185, f 186, f 187, f 188, f 189, f 190, f 191, f 192, f 193, f 194, f 195, f 196, f 197, f 198, f 199, f 200, f 201, f 202, f 203, f 204, f 205, f 206, f 207, f 208, f 209, f 210, f 211, f 212, f 213, f 214, f 215, f 216, f 217, f 218, f 219, f 220, f 221, f 222, f 223, f 224, f 225, f 226, f 227, f 228, f 229, f 230, f 231, f 232, f 233, f 234, f 235, f 236, f 237, f 238, f 239, f 240, f 241, f 242, f 243, f 244, f 245, f 246, f 247, f 248, f 249, f 250, f 251, f 252, f 253, f 254, f 255, f 256, f 257, f 258, f 259, f 260, f 261, f 262, f 263, f 264, f 265, f 266, f 267, f 268, f 269, f 270, f 271, f 272, f 273, f 274, f 275, f 276, f 277, f 278, f 279, f 280, f 281, f 282, f 283, f 284, f 285, f 286, f 287, f 288, f 289, f 290, f 291, f 292, f 293, f 294, f 295, f 296, f 297, f 298, f 299, f 300, f 301, f 302, f 303, f 304, f 305, f 306, f 307, f 308, f 309, f 310, f 311, f 312, f 313, f 314, f 315, f 316, f 317, f 318, f 319, f 320, f 321, f 322, f 323, f 324, f 325, f 326, f 327, f 328, f 329, f 330, f 331, f 332, f 333, f 334, f 335, f 336, f 337, f 338, f 339, f 340, f 341, f 342, f 343, f 344, f 345, f 346, f 347, f 348, f 349, f 350, f 351, f 352, f 353, f 354, f 355, f 356, f 357, f 358, f 359, f 360, f 361, f 362, f 363, f 364, f 365, f 366, f 367, f 368, f 369, f 370, f 371, f 372, f 373, f 374, f 375, f 376, f 377, f 378, f 379, f 380, f 381, f 382, f 383, f 384, f 385, f 386, f 387, f 388, f 389, f 390, f 391, f 392, f 393, f 394, f 395, f 396, f 397, f 398, f 399, f 400, f 401, f 402, f 403, f 404, f 405, f 406, f 407], []⟩ wr := by
  obtain ⟨ik, hik, hkz0, hkz1, hkz2⟩ := info_parts pkInfo
  obtain ⟨it, hit, htz0, htz1, htz2⟩ := info_parts ctInfo
  conv => arg 2; whnf
  have hlti : (i : Int) < (n0 : Int) := by omega
  obtain ⟨bk, oo, x, rfl, hbl, hx, d0, d1, d2, d3, d4⟩ := R0.out.opn (k := i) (by have := E0.out; omega)
  have hfx := HFT.out x (List.mem_of_getElem? hx)
  have hkd := HKD.out x hx
  obtain ⟨kind, a, b, Ap, np, cp, ps, own⟩ := x
  obtain ⟨hrp, hnp, hmp⟩ := hfx
  simp only at d0 d1 d2 d3 d4 hrp hnp hmp hkd
  have e0 : wr.cell? ⟨bk, oo + i * 5, none⟩ = some (.int .i64 kind) := (HS.out.below.cell (p := ⟨bk, oo + i * 5, none⟩) hbl).trans d0
  have e1 : wr.cell? ⟨bk, oo + i * 5 + 1, none⟩ = some (.int .i64 a) := (HS.out.below.cell (p := ⟨bk, oo + i * 5 + 1, none⟩) hbl).trans d1
  have e2 : wr.cell? ⟨bk, oo + i * 5 + 2, none⟩ = some (.int .i64 b) := (HS.out.below.cell (p := ⟨bk, oo + i * 5 + 2, none⟩) hbl).trans d2
  have e3 : wr.cell? ⟨bk, oo + i * 5 + 3, none⟩ = some (.slice Ap np cp) := (HS.out.below.cell (p := ⟨bk, oo + i * 5 + 3, none⟩) hbl).trans d3
  have e4 : wr.cell? ⟨bk, oo + i * 5 + 4, none⟩ = some (.bool own) := (HS.out.below.cell (p := ⟨bk, oo + i * 5 + 4, none⟩) hbl).trans d4
  have ba : Below wr.heap.size wr (wr.alloc (.cells #[.int .i64 kind, .int .i64 a, .int .i64 b, .slice Ap np cp, .bool own] 38)) := (Below.refl _ _).alloc (Nat.le_refl _) _
  have KO := Blk.new wr 38 #[.int .i64 kind, .int .i64 a, .int .i64 b, .slice Ap np cp, .bool own]
  have S2 := HS.out.step ba
  have HRP := Lib.hid hrp
  have HNP := Lib.hid hnp
  have hnpi : (np : Int) ≤ 9223372036854775807 := by unfold maxLen at hmp; omega
  have HKX := Lib.hid hkd
  clear hx d0 d1 d2 d3 d4 hrp hnp hmp hkd
  go_upto_if 53 with fail
  obtain ⟨gb, hgb⟩ : ∃ gb, gb = wr.heap.size := ⟨_, rfl⟩
  generalize wr.alloc (.cells #[.int .i64 kind, .int .i64 a, .int .i64 b, .slice Ap np cp, .bool own] 38) = W at ba KO S2 ⊢
  rw [← hgb] at KO ⊢
  have k0 : W.cell? ⟨gb, 0, none⟩ = some (.int .i64 kind) := KO.cell 0
  have HKO := Lib.hid KO
  have HS2 := Lib.hid S2
  clear hgb ba KO S2 HS e0 e1 e2 e3 e4
  by_cases hbig : 20 < np
  · have hbi : 20 < (np : Int) := by omega
    go_wp2
    go_ret
    exact ⟨rfl, HS2.out.below⟩
  have hnp20 : (np : Int) ≤ 20 := by omega
  have hnp20n : np ≤ 20 := by omega
  clear hbig
  obtain ⟨n, hn⟩ : ∃ n, n = l.length := ⟨_, rfl⟩
  obtain ⟨m, hm⟩ : ∃ m, m = c.length := ⟨_, rfl⟩
  obtain ⟨A4, c4, hu4, hc4⟩ := own_form HS2.out.hv
  obtain ⟨A5, c5, hu5, hc5⟩ := own_form HS2.out.ct
  rw [← hn] at hu4 hc4
  rw [← hm] at hu5 hc5
  subst hu4
  subst hu5
  have HN := Lib.hid hn
  have HM := Lib.hid hm
  have hn2k : (n : Int) ≤ 2000 := by omega
  have hm80 : (m : Int) ≤ 80 := by omega
  clear hn hm
  go_upto_block 2 with fail
  go_cut [4, 5, 8] from 56 to 325 (fun u4 u5 u8 wx => ∃ (l' : List Pk) (c' : List Ct) (v1' v2' : Value), u8 = .bool true ∧ l'.length ≤ 2000 ∧ c'.length ≤ i + 1 ∧ Hid (NetS w wx g l' c' l' c' v1' v2' u4 u5) ∧ Hid (Blk wx gb 38 #[.int .i64 kind, .int .i64 a, .int .i64 b, .slice Ap np cp, .bool own]))
  case first =>
    have hkd := HKX.out
    subst hkd
    have k1 : W.cell? ⟨gb, 1, none⟩ = some (.int .i64 a) := HKO.out.cell 1
    have k2 : W.cell? ⟨gb, 2, none⟩ = some (.int .i64 b) := HKO.out.cell 2
    obtain ⟨ta, hta⟩ : ∃ ta, min a b = ta := ⟨_, rfl⟩
    obtain ⟨tb, htb⟩ : ∃ tb, max a b = tb := ⟨_, rfl⟩
    have HTT : Hid (twoT a b = ⟨ta, tb⟩) := by unfold Hid twoT; rw [hta, htb]
    go_upto_region 57 with fail
    have bat : Below W.heap.size W (W.alloc (.cells #[.int .i64 ta, .int .i64 tb] 39)) := (Below.refl _ _).alloc (Nat.le_refl _) _
    have KT := Blk.new W 39 #[.int .i64 ta, .int .i64 tb]
    have S3 := HS2.out.step bat
    have K3 := HKO.out.below bat
    obtain ⟨gt, hgt⟩ : ∃ gt, gt = W.heap.size := ⟨_, rfl⟩
    generalize W.alloc (.cells #[.int .i64 ta, .int .i64 tb] 39) = V at bat KT S3 K3 ⊢
    rw [← hgt] at KT ⊢
    have HKT := Lib.hid KT
    have HS3 := Lib.hid S3
    have HK3 := Lib.hid K3
    clear hgt bat KT S3 K3 hta htb k1 k2
    go_wp2
    go_loopw [21, 22] (fun u21 u22 wr => ∃ (k r : Nat), k ≤ m ∧ u22 = .int .i64 k ∧ r ≤ k ∧ Hid (((c.take k).filter fun x => !isT ta tb x).length = r) ∧ Hid (wr.ownsRow V.heap.size 39 2 u21 r (flatT ((c.take k).filter fun x => !isT ta tb x))) ∧ Hid (Below V.heap.size V wr)) (fun _ u22 _ => m - (intOf u22).toNat)
    case atStart => exact ⟨0, 0, by omega, rfl, by omega, rfl, World.ownsRow_nil _ _ _ _, Below.refl _ _⟩
    case round =>
      obtain ⟨k, r, hk, rfl, hrk, HL, HO, HB⟩ := hrel
      have t0 : wr.cell? ⟨gt, 0, none⟩ = some (.int .i64 ta) := (HKT.out.below HB.out).cell 0
      have t1 : wr.cell? ⟨gt, 1, none⟩ = some (.int .i64 tb) := (HKT.out.below HB.out).cell 1
      by_cases hlt2 : k < m
      · have hki : (k : Int) < (m : Int) := by omega
        have hct := (HS3.out.step HB.out).ct
        rw [← HM.out] at hct
        obtain ⟨bc, oc, x, rfl, hbc, hxk, e0, e1⟩ := (Rd.of_own hct).ct (k := k) (by have := HM.out; omega)
        have htk : c.take (k + 1) = c.take k ++ [x] := by rw [List.take_add_one, hxk]; rfl
        obtain ⟨z, hz⟩ : ∃ z : Bool, z = isT ta tb x := ⟨_, rfl⟩
        obtain ⟨xa, xb⟩ := x
        simp only at e0 e1
        have he : ∀ W : World, (Op.equalIn 10000 39 (.agg #[.int .i64 xa, .int .i64 xb]) (.agg #[.int .i64 ta, .int .i64 tb])).run Try.prog W = .ok z W := fun W => by rw [run_eqin_two, hz]; rfl
        have hfl : (c.take (k + 1)).filter (fun x => !isT ta tb x) = (c.take k).filter (fun x => !isT ta tb x) ++ (if z then [] else [⟨xa, xb⟩]) := by
          rw [htk, List.filter_append]
          congr 1
          cases z
          · simp [← hz]
          · simp [← hz]
        have HFL := Lib.hid hfl
        clear hxk htk hz hfl hct
        cases z
        · go_wp2
          go_quiet (fail)
          have O6 : ((wr.drewN nq).alloc (.cells #[.int .i64 xa, .int .i64 xb] 39)).ownsRow V.heap.size 39 2 u21 r (flatT ((c.take k).filter fun x => !isT ta tb x)) := (own_frm (S := no) HO.out ((Frm.refl _ _).drewN nq) (fun _ _ h => h)).alloc _
          have RN : Rd ((wr.drewN nq).alloc (.cells #[.int .i64 xa, .int .i64 xb] 39)) (some ⟨(wr.drewN nq).heap.size, 0, none⟩) [.int .i64 xa, .int .i64 xb] := Rd.new (wr.drewN nq) #[.int .i64 xa, .int .i64 xb] 39
          have HB6 : Hid (Below V.heap.size V ((wr.drewN nq).alloc (.cells #[.int .i64 xa, .int .i64 xb] 39))) := (below_drewN HB.out nq).alloc HB.out.size _
          have hvs : V.heap.size ≤ wr.heap.size := HB.out.size
          have hr80 : r ≤ 80 := by omega
          go_wp2_with (at_builtin
                       refine wpList_app rfl (.tmp 304) (.tmp 309) 36 rfl V.heap.size 39 it _ 2 16 Try.underlying36 hit htz0 htz1 htz2 rfl (by omega) u21 r _ rfl O6 (some ⟨wr.heap.size, 0, none⟩) 1 1 [.int .i64 xa, .int .i64 xb] rfl RN rfl (by simp [Value.oneCell']) (by unfold maxLen; omega) (by omega) (by simp; omega) ?_
                       intro v8 w8 hown8 hg8 hb8 hat8)
          go_roundw
          case rel =>
            refine ⟨k + 1, r + 1, by omega, by go_num, by omega, ?_, ?_, HB6.out.trans hb8⟩
            · rw [HFL.out, List.length_append, HL.out]; rfl
            · rw [HFL.out, flatT_app]; exact hown8
          case measure => simp [intOf]; omega
        · go_wp2
          go_quiet (fail)
          go_wp2
          go_roundw
          case rel => exact ⟨k + 1, r, by omega, by go_num, by omega, by unfold Hid; rw [HFL.out]; simpa using HL.out, by unfold Hid; rw [HFL.out]; simpa using own_frm (S := no) HO.out ((Frm.refl _ _).drewN _) (fun _ _ h => h), below_drewN HB.out _⟩
          case measure => simp [intOf]; omega
      · obtain rfl : m = k := by omega
        have htk : c.take m = c := by rw [HM.out, List.take_length]
        have hL := HL.out
        have hO := HO.out
        rw [htk] at hL hO
        have HL := Lib.hid hL
        have HO := Lib.hid hO
        clear htk hL hO
        have hr80 : r ≤ 80 := by omega
        have hcu := fun W v (hh : NetAt W g g l c v1 v) (hw : w.heap.size ≤ W.heap.size) => ncut_any (w := W) (base := g) (v2 := v) a b own hh (by have := hh.blk.lt; omega) (by omega)
        have hce : cutT c (twoT a b) own = (c.filter fun x => !isT ta tb x) ++ (if own then [⟨ta, tb⟩] else []) := by rw [HTT.out]; rfl
        rw [hce] at hcu
        have HCU := Lib.hid hcu
        have k14 : wr.cell? ⟨gb, 4, none⟩ = some (.bool own) := (HK3.out.below HB.out).cell 4
        have k11 : wr.cell? ⟨gb, 1, none⟩ = some (.int .i64 a) := (HK3.out.below HB.out).cell 1
        have k12 : wr.cell? ⟨gb, 2, none⟩ = some (.int .i64 b) := (HK3.out.below HB.out).cell 2
        clear hcu hce
        cases own
        · have S9 : NetS w wr g l c l (c.filter fun x => !isT ta tb x) v1 v2 (.slice A4 n c4) u21 := HS3.out.cuts HB.out (by rw [HL.out]; exact HO.out)
          have K9 := HK3.out.below HB.out
          have HC9 := Lib.hid (HCU.out wr v2 S9.net S9.below.size)
          have HS9 := Lib.hid S9
          have HK9 := Lib.hid K9
          clear S9 K9
          go_wp2_with (go_at_call 7; with_reducible refine HC9.out.mono ?_; rintro e w9 ⟨rfl, v9, N9, T9⟩)
          have S10 := HS9.out.turn N9 T9
          have K10 := HS9.out.keeps HK9.out T9 (by decide)
          have hlc : ((c.filter fun x => !isT ta tb x) ++ (if false then [(⟨ta, tb⟩ : Ct)] else [])) = (c.filter fun x => !isT ta tb x) := by simp
          rw [hlc] at S10
          have HLI : Hid ((c.filter fun x => !isT ta tb x).length ≤ i + 1) := by unfold Hid; have := HL.out; have := HM.out; omega
          go_meet
          case rel => exact ⟨l, c.filter (fun x => !isT ta tb x), v1, v9, rfl, hl, HLI.out, S10, K10⟩
        · have O6 : (wr.alloc (.cells #[.int .i64 ta, .int .i64 tb] 39)).ownsRow V.heap.size 39 2 u21 r (flatT (c.filter fun x => !isT ta tb x)) := HO.out.alloc _
          have RN : Rd (wr.alloc (.cells #[.int .i64 ta, .int .i64 tb] 39)) (some ⟨wr.heap.size, 0, none⟩) [.int .i64 ta, .int .i64 tb] := Rd.new wr #[.int .i64 ta, .int .i64 tb] 39
          have HB6 : Hid (Below V.heap.size V (wr.alloc (.cells #[.int .i64 ta, .int .i64 tb] 39))) := HB.out.alloc HB.out.size _
          have hvs : V.heap.size ≤ wr.heap.size := HB.out.size
          go_wp2_with (first
            | (go_at_call 7; with_reducible refine HC9.out.mono ?_; rintro e w9 ⟨rfl, v9, N9, T9⟩)
            | (at_builtin
               refine wpList_app rfl (.tmp 313) (.tmp 315) 36 rfl V.heap.size 39 it _ 2 16 Try.underlying36 hit htz0 htz1 htz2 rfl (by omega) u21 r _ rfl O6 (some ⟨wr.heap.size, 0, none⟩) 1 1 [.int .i64 ta, .int .i64 tb] rfl RN rfl (by simp [Value.oneCell']) (by unfold maxLen; omega) (by omega) (by simp; omega) ?_
               intro v8 w8 hown8 hg8 hb8 hat8
               have HB8 := Lib.hid (HB6.out.trans hb8)
               have hl8 : ((c.filter fun x => !isT ta tb x) ++ [(⟨ta, tb⟩ : Ct)]).length = r + 1 := by rw [List.length_append, HL.out]; rfl
               have S9 : NetS w w8 g l c l ((c.filter fun x => !isT ta tb x) ++ [(⟨ta, tb⟩ : Ct)]) v1 v2 (.slice A4 n c4) v8 := HS3.out.cuts HB8.out (by rw [hl8, flatT_app]; exact hown8)
               have K9 := HK3.out.below HB8.out
               have k21 : w8.cell? ⟨gb, 1, none⟩ = some (.int .i64 a) := K9.cell 1
               have k22 : w8.cell? ⟨gb, 2, none⟩ = some (.int .i64 b) := K9.cell 2
               have k24 : w8.cell? ⟨gb, 4, none⟩ = some (.bool true) := K9.cell 4
               have HC9 := Lib.hid (HCU.out w8 v2 S9.net S9.below.size)
               have HS9 := Lib.hid S9
               have HK9 := Lib.hid K9
               have HL8 := Lib.hid hl8
               clear S9 K9 hl8))
          have S10 := HS9.out.turn N9 T9
          have K10 := HS9.out.keeps HK9.out T9 (by decide)
          have HLI : Hid (((c.filter fun x => !isT ta tb x) ++ [(⟨ta, tb⟩ : Ct)]).length ≤ i + 1) := by unfold Hid; have := HL8.out; have := HM.out; omega
          go_meet
          case rel => exact ⟨l, (c.filter fun x => !isT ta tb x) ++ [(⟨ta, tb⟩ : Ct)], v1, v9, rfl, hl, HLI.out, S10, K10⟩
  case rest =>
    obtain ⟨l', c', v1', v2', rfl, hl', hc', HS3, HK3⟩ := hcut
    clear HS2 HKO k0 hl hc
    have k2 : wc.cell? ⟨gb, 2, none⟩ = some (.int .i64 b) := HK3.out.cell 2
    obtain ⟨n', hn'⟩ : ∃ n', n' = l'.length := ⟨_, rfl⟩
    obtain ⟨B4, d4, hw4, _⟩ := own_form HS3.out.hv
    rw [← hn'] at hw4
    subst hw4
    have HN' := Lib.hid hn'
    have hn2k' : (n' : Int) ≤ 2000 := by omega
    obtain ⟨q, hq⟩ : ∃ q, q = isAt l' b := ⟨_, rfl⟩
    obtain ⟨⟨x1, x2, x3⟩, hx⟩ : ∃ x, x = peekK l' b := ⟨_, rfl⟩
    have hpk := npeek_any b HS3.out.net
    rw [← hx, ← hq] at hpk
    unfold pkV at hpk
    simp only at hpk
    have HPK := Lib.hid hpk
    have HQ := Lib.hid hq
    have HX := Lib.hid hx
    clear hn' hq hx hpk
    go_upto_region 68 with (go_at_call 14; with_reducible refine HPK.out.mono ?_; rintro e w5 ⟨rfl, b5⟩)
    have ba5 : Below w5.heap.size w5 (w5.alloc (.cells #[.int .i64 x1, .int .i64 x2, .string x3] 29)) := (Below.refl _ _).alloc (Nat.le_refl _) _
    have X5 := Blk.new w5 29 #[.int .i64 x1, .int .i64 x2, .string x3]
    have S5 := (HS3.out.step b5).step ba5
    have K5 := (HK3.out.below b5).below ba5
    generalize w5.alloc (.cells #[.int .i64 x1, .int .i64 x2, .string x3] 29) = V at ba5 X5 S5 K5 ⊢
    have k25 : V.cell? ⟨gb, 2, none⟩ = some (.int .i64 b) := K5.cell 2
    have HS5 := Lib.hid S5
    have HX5 := Lib.hid X5
    clear S5 K5 X5 ba5 b5 k2 HS3 HK3
    go_cut [25] from 333 to 342 (fun u25 wx => u25 = .bool q ∧ wx = V)
    case first =>
      by_cases ha0 : 0 ≤ b
      · by_cases han : b < (n' : Int)
        · have hd1 : decide (0 ≤ b) = true := decide_eq_true ha0
          have hd2 : decide (b < (n' : Int)) = true := decide_eq_true han
          have HQQ : Hid (q = true) := by unfold Hid; rw [HQ.out]; unfold isAt; rw [← HN'.out, hd1, hd2]; rfl
          go_wp2
          go_meet
          case rel => exact ⟨by rw [HQQ.out], rfl⟩
        · have hd1 : decide (0 ≤ b) = true := decide_eq_true ha0
          have hd2 : decide (b < (n' : Int)) = false := decide_eq_false han
          have HQQ : Hid (q = false) := by unfold Hid; rw [HQ.out]; unfold isAt; rw [← HN'.out, hd1, hd2]; rfl
          go_wp2
          go_meet
          case rel => exact ⟨by rw [HQQ.out], rfl⟩
      · have hd1 : decide (0 ≤ b) = false := decide_eq_false ha0
        have HQQ : Hid (q = false) := by unfold Hid; rw [HQ.out]; unfold isAt; rw [hd1]; rfl
        go_wp2
        go_meet
        case rel => exact ⟨by rw [HQQ.out], rfl⟩
    case rest =>
    obtain ⟨rfl, rfl⟩ := hcut
    have hlen : ∀ r : NewM wc, Calls Try.prog 10 #[.pointer (some ⟨g, 0, none⟩)] r.w' fun e w' => e = .returned (.int .i64 n') ∧ w' = r.w' := fun r => by
      have := nlen_any (HS5.out.step r.h).net
      rwa [← HN'.out] at this
    have HLEN := Lib.hid hlen
    have p0 := NewM.cell (show wc.cell? ⟨w5.heap.size, 0, none⟩ = some (.int .i64 x1) from HX5.out.cell 0)
    have p1 := NewM.cell (show wc.cell? ⟨w5.heap.size, 1, none⟩ = some (.int .i64 x2) from HX5.out.cell 1)
    have p2 := NewM.cell (show wc.cell? ⟨w5.heap.size, 2, none⟩ = some (.string x3) from HX5.out.cell 2)
    have o2 := NewM.cell k25
    have hnn : ((n' : Int) == (n' : Int)) = true := by simp
    clear hlen
    cases q
    · have hno : peekK l' b = noPk := by unfold peekK; rw [← HQ.out]; rfl
      obtain ⟨rfl, rfl, rfl⟩ : x1 = 0 ∧ x2 = 0 ∧ x3 = ⟨#[]⟩ := by
        have := HX.out.trans hno
        unfold noPk at this
        injection this with h1 h2 h3
        exact ⟨h1, h2, h3⟩
      have hee : ((⟨#[]⟩ : ByteArray).toList == (⟨#[]⟩ : ByteArray).toList) = true := by simp
      clear hno
      go_upto_region 69 with fail
      refine wp_region_quiet_new (by kernel_rfl) (by kernel_rfl) ?_
      repeat (go_big_quiet_step (first | (go_at_call 10; with_reducible exact NewM.call_same (HLEN.out _))))
      refine wpQuiet_nil ?_
      rintro _ ⟨r, rfl⟩
      clear p0 p1 p2 o2 k25
      go_wp2
      refine ⟨⟨rfl, rfl, rfl, rfl, _, _, i + 1, l', c', v1', v2', rfl, rfl, by rw [show ((i + 1 : Nat) : Int) = (i : Int) + 1 by omega]; rfl, by omega, hl', hc', HS5.out.step r.h⟩, ?_⟩
      show n0 - (intOf (.int .i64 ((i : Int) + 1))).toNat < n0 - (intOf (.int .i64 (i : Int))).toNat
      simp [intOf]; omega
    · obtain ⟨j, rfl, hjl⟩ := isAt_nat HQ.out.symm
      have hxj := HX.out
      rw [peek_nat hjl] at hxj
      have hgx : l'[j]? = some ⟨x1, x2, x3⟩ := by rw [List.getElem?_eq_getElem hjl, hxj]
      have hv5 := HS5.out.hv
      rw [← HN'.out] at hv5
      obtain ⟨bh, oh, y, hB4, hbh, hy, f0, f1, f2⟩ := (Rd.of_own hv5).pk (k := j) hjl
      rw [hgx] at hy
      obtain rfl := Option.some.inj hy
      subst hB4
      simp only at f0 f1 f2
      have f0 := NewM.cell f0
      have f1 := NewM.cell f1
      have f2 := NewM.cell f2
      have hjn : (j : Int) < (n' : Int) := by have := HN'.out; omega
      have ex1 : (x1 == x1) = true := by simp
      have ex2 : (x2 == x2) = true := by simp
      have ex3 : (x3.toList == x3.toList) = true := by simp
      clear hxj hgx hv5 hy hjl
      go_upto_region 69 with fail
      refine wp_region_quiet_new (by kernel_rfl) (by kernel_rfl) ?_
      repeat (go_big_quiet_step (first | (go_at_call 10; with_reducible exact NewM.call_same (HLEN.out _))))
      refine wpQuiet_nil ?_
      rintro _ ⟨r, rfl⟩
      clear p0 p1 p2 o2 k25 f0 f1 f2
      go_wp2
      refine ⟨⟨rfl, rfl, rfl, rfl, _, _, i + 1, l', c', v1', v2', rfl, rfl, by rw [show ((i + 1 : Nat) : Int) = (i : Int) + 1 by omega]; rfl, by omega, hl', hc', HS5.out.step r.h⟩, ?_⟩
      show n0 - (intOf (.int .i64 ((i : Int) + 1))).toNat < n0 - (intOf (.int .i64 (i : Int))).toNat
      simp [intOf]; omega
end Go.Proofs.Ytpkbfdgfdgkbkaa
