/-
  NetPlays, walked: it is true. Condition: acts that can be read.
-/
import Derived.Test.YtpkbfdgfdgkbkaaNpK1
import Derived.Test.YtpkbfdgfdgkbkaaNpK2
import Derived.Test.YtpkbfdgfdgkbkaaNpK3
import Derived.Test.YtpkbfdgfdgkbkaaNpK4
import Derived.Test.YtpkbfdgfdgkbkaaNpK5
import Derived.Test.YtpkbfdgfdgkbkaaNpK6
namespace Go.Proofs.Ytpkbfdgfdgkbkaa
open Go Go.RowKit
attribute [local go_sem] cell_set_if

set_option maxRecDepth 100000 in
theorem netplays_no (A0 : Option Addr) (n0 c0 : Nat) (w : World) (m0 : n0 ≤ 9223372036854775807) (h : 80 < n0) :
    Calls Try.prog 4 #[.slice A0 n0 c0] w fun e w' => e = .returned (.bool true) ∧ Below w.heap.size w w' := by
  have h : (80 : Int) < n0 := by omega
  clear m0
  go_enter Try.func4, Try.ntmps4
  go_wp2_with (go_at_call 5; refine (alive24_any _).mono ?_; rintro e wa ⟨rfl, ba⟩)
  go_ret
  exact ⟨rfl, ba⟩
set_option maxRecDepth 1000000 in
set_option maxHeartbeats 16000000 in
theorem np_exit (A0 : Option Addr) (n0 c0 : Nat) (w : World) (g : Nat) (f : Nat → Value) (Q0 : Exit → Act → World → Prop)
    (hexit : ∀ (a' : Act) (w'' : World), NpWI A0 n0 c0 w g a' w'' → Q0 (.exit 0) a' w'')
    (wr : World) (l : List Pk) (c : List Ct) (v1 v2 u4 u5 : Value) (hl : l.length ≤ 2000) (hc : c.length ≤ n0) (HS : Hid (NetS w wr g l c l c v1 v2 u4 u5)) (X : Act → World → Prop) :
    Code.wp Try.prog npBody (Exit.then X Q0) ⟨#[.slice A0 n0 c0, f 1, f 2, .pointer (some ⟨g, 0, none⟩), u4, u5, .int .i64 n0, f 7, f 8, f 9, f 10, f 11, f 12, f 13, f 14, f 15, f 16, f 17, f 18, f 19, f 20, f 21, f 22, f 23, f 24, f 25, f 26, f 27, f 28, f 29, f 30, f 31, f 32, f 33, f 34, f 35, f 36, f 37, f 38, f 39, f 40, f 41, f 42, f 43, f 44, f 45, f 46, f 47, f 48, f 49, f 50, f 51, f 52, f 53, f 54, f 55, f 56, f 57, f 58, f 59, f 60, f 61, f 62, f 63, f 64, f 65, f 66, f 67, f 68, f 69, f 70, f 71, f 72, f 73, f 74, f 75, f 76, f 77, f 78, f 79, f 80, f 81, f 82, f 83, f 84, f 85, f 86, f 87, f 88, f 89, f 90, f 91, f 92, f 93, f 94, f 95, f 96, f 97, f 98, f 99, f 100, f 101, f 102, f 103, f 104, f 105, f 106, f 107, f 108, f 109, f 110, f 111, f 112, f 113, f 114, f 115, f 116, f 117, f 118, f 119, f 120, f 121, f 122, f 123, f 124, f 125, f 126, f 127, f 128, f 129, f 130, f 131, f 132, f 133, f 134, f 135, f 136, f 137, f 138, f 139, f 140, f 141, f 142, f 143, f 144, f 145, f 146, f 147, f 148, f 149, f 150, f 151, f 152, f 153, f 154, f 155, f 156, f 157, f 158, f 159, f 160, f 161, f 162, f 163, f 164, f 165, f 166, f 167, f 168, f 169, f 170, f 171, f 172, f 173, f 174, f 175, f 176, f 177, f 178, f 179, f 180, f 181, f 182, f 183, f 184, f 185, f 186, f 187, f 188, f 189, f 190, f 191, f 192, f 193, f 194, f 195, f 196, f 197, f 198, f 199, f 200, f 201, f 202, f 203, f 204, f 205, f 206, f 207, f 208, f 209, f 210, f 211, f 212, f 213, f 214, f 215, f 216, f 217, f 218, f 219, f 220, f 221, f 222, f 223, f 224, f 225, f 226, f 227, f 228, f 229, f 230, f 231, f 232, f 233, f 234, f 235, f 236, f 237, f 238, f 239, f 240, f 241, f 242, f 243, f 244, f 245, f 246, f 247, f 248, f 249, f 250, f 251, f 252, f 253, f 254, f 255, f 256, f 257, f 258, f 259, f 260, f 261, f 262, f 263, f 264, f 265, f 266, f 267, f 268, f 269, f 270, f 271, f 272, f 273, f 274, f 275, f 276, f 277, f 278, f 279, f 280, f 281, f 282, f 283, f 284, f 285, f 286, f 287, f 288, f 289, f 290, f 291, f 292, f 293, f 294, f 295, f 296, f 297, f 298, f 299, f 300, f 301, f 302, f 303, f 304, f 305, f 306, f 307, f 308, f 309, f 310, f 311, f 312, f 313, f 314, f 315, f 316, f 317, f 318, f 319, f 320, f 321, f 322, f 323, f 324, f 325, f 326, f 327, f 328, f 329, f 330, f 331, f 332, f 333, f 334, f 335, f 336, f 337, f 338, f 339, f 340, f 341, f 342, f 343, f 344, f 345, f 346, f 347, f 348, f 349, f 350, f 351, f 352, f 353, f 354, f 355, f 356, f 357, f 358, f 359, f 360, f 361, f 362, f 363, f 364, f 365, f 366, f 367, f 368, f 369, f 370, f 371, f 372, f 373, f 374, f 375, f 376, f 377, f 378, f 379, f 380, f 381, f 382, f 383, f 384, f 385, f 386, f 387, f 388, f 389, f 390, f 391, f 392, f 393, f 394, f 395, f 396, f 397, f 398, f 399, f 400, f 401, f 402, f 403, f 404, f 405, f 406, f 407], []⟩ wr := by
  conv => arg 2; whnf
  go_wp2
  exact ⟨rfl, rfl, rfl, rfl, u4, u5, n0, l, c, v1, v2, rfl, rfl, rfl, Nat.le_refl _, hl, hc, HS.out⟩
set_option maxRecDepth 1000000 in
set_option maxHeartbeats 16000000 in
theorem np_round (A0 : Option Addr) (n0 c0 : Nat) (os : List OpN) (w : World) (R0 : Hid (Rd w A0 (flatN os))) (E0 : Hid (os.length = n0)) (HFT : Hid (∀ o ∈ os, o.fits w)) (h0' : (n0 : Int) ≤ 80) (g : Nat) (Q0 : Exit → Act → World → Prop)
    (hret : ∀ (a' : Act) (w'' : World), bodyPost Try.prog Try.f4 (fun e w' => e = Ending.returned (Value.bool true) ∧ Below w.heap.size w w') .ret a' w'' → Q0 .ret a' w'')
    (hexit : ∀ (a' : Act) (w'' : World), NpWI A0 n0 c0 w g a' w'' → Q0 (.exit 0) a' w'')
    (a : Act) (w' : World) (hI : NpWI A0 n0 c0 w g a w') :
    Code.wp Try.prog npBody (Exit.then (fun a' w'' => NpWI A0 n0 c0 w g a' w'' ∧ NpMu n0 a' < NpMu n0 a) Q0) a w' := by
  obtain ⟨hd, hs, t0, t3, u4, u5, i, l, c, v1, v2, t4, t5, t6, hi, hl, hc, HS⟩ := hI
  obtain ⟨f, rfl⟩ := np_open a hd hs
  have e0 : f 0 = .slice A0 n0 c0 := Option.some.inj t0
  have e3 : f 3 = .pointer (some ⟨g, 0, none⟩) := Option.some.inj t3
  have e4 : f 4 = u4 := Option.some.inj t4
  have e5 : f 5 = u5 := Option.some.inj t5
  have e6 : f 6 = .int .i64 i := Option.some.inj t6
  clear hd hs t0 t3 t4 t5 t6
  rw [e0, e3, e4, e5, e6]
  clear e0 e3 e4 e5 e6
  by_cases hlt : i < n0
  · obtain ⟨x, hx⟩ : ∃ x, os[i]? = some x := ⟨os[i]'(by have := E0.out; omega), List.getElem?_eq_getElem _⟩
    have ob : ∀ y, os[i]? = some y → x = y := fun y hy => Option.some.inj (hx.symm.trans hy)
    by_cases h1 : x.kind = 1
    · exact np_case1 A0 n0 c0 os w R0 E0 HFT h0' g f Q0 hret w' i l c v1 v2 u4 u5 hi hl hc HS hlt fun y hy => ob y hy ▸ h1
    by_cases h2 : x.kind = 2
    · exact np_case2 A0 n0 c0 os w R0 E0 HFT h0' g f Q0 hret w' i l c v1 v2 u4 u5 hi hl hc HS hlt fun y hy => ob y hy ▸ h2
    by_cases h3 : x.kind = 3
    · exact np_case3 A0 n0 c0 os w R0 E0 HFT h0' g f Q0 hret w' i l c v1 v2 u4 u5 hi hl hc HS hlt fun y hy => ob y hy ▸ h3
    by_cases h4 : x.kind = 4
    · exact np_case4 A0 n0 c0 os w R0 E0 HFT h0' g f Q0 hret w' i l c v1 v2 u4 u5 hi hl hc HS hlt fun y hy => ob y hy ▸ h4
    by_cases h5 : x.kind = 5
    · exact np_case5 A0 n0 c0 os w R0 E0 HFT h0' g f Q0 hret w' i l c v1 v2 u4 u5 hi hl hc HS hlt fun y hy => ob y hy ▸ h5
    exact np_case6 A0 n0 c0 os w R0 E0 HFT h0' g f Q0 hret w' i l c v1 v2 u4 u5 hi hl hc HS hlt fun y hy => ob y hy ▸ ⟨h1, h2, h3, h4, h5⟩
  · obtain rfl : n0 = i := by omega
    exact np_exit A0 n0 c0 w g f Q0 hexit w' l c v1 v2 u4 u5 hl hc HS _
theorem np_loop (A0 : Option Addr) (n0 c0 : Nat) (os : List OpN) (w : World) (R0 : Hid (Rd w A0 (flatN os))) (E0 : Hid (os.length = n0)) (HFT : Hid (∀ o ∈ os, o.fits w)) (h0' : (n0 : Int) ≤ 80) (g : Nat) (Q0 : Exit → Act → World → Prop)
    (hret : ∀ (a' : Act) (w'' : World), bodyPost Try.prog Try.f4 (fun e w' => e = Ending.returned (Value.bool true) ∧ Below w.heap.size w w') .ret a' w'' → Q0 .ret a' w'')
    (hexit : ∀ (a' : Act) (w'' : World), NpWI A0 n0 c0 w g a' w'' → Q0 (.exit 0) a' w'')
    (a : Act) (w' : World) (hI : NpWI A0 n0 c0 w g a w') : Code.wp Try.prog (Code.loop npBody) Q0 a w' :=
  wp_loop (NpWI A0 n0 c0 w g) (fun a _ => NpMu n0 a) hI fun a w'' h => np_round A0 n0 c0 os w R0 E0 HFT h0' g Q0 hret hexit a w'' h
set_option maxRecDepth 1000000 in
set_option maxHeartbeats 16000000 in
theorem netplays_yes (A0 : Option Addr) (n0 c0 : Nat) (os : List OpN) (w : World) (r0 : Rd w A0 (flatN os)) (e0 : os.length = n0) (h0 : n0 ≤ 80) (hf : ∀ o ∈ os, o.fits w) :
    Calls Try.prog 4 #[.slice A0 n0 c0] w fun e w' => e = .returned (.bool true) ∧ Below w.heap.size w w' := by
  have R0 := Lib.hid r0
  have E0 := Lib.hid e0
  have HFT := Lib.hid hf
  have h0' : (n0 : Int) ≤ 80 := by omega
  clear r0 e0 hf
  go_enter Try.func4, Try.ntmps4
  go_wp2_with (first
    | (go_at_call 5; refine (alive24_any _).mono ?_; rintro e wa ⟨rfl, ba⟩)
    | (go_at_call 6; refine (nnew_any _).mono ?_; rintro e w1 ⟨rfl, N1, b1⟩))
  obtain ⟨g, hg⟩ : ∃ g, g = wa.heap.size := ⟨_, rfl⟩
  have hwg : w.heap.size ≤ g := by have := ba.size; omega
  have B1 : Below w.heap.size w w1 := ba.trans (b1.mono ba.size)
  rw [← hg] at N1 ⊢
  have S1 : NetS w w1 g [] [] [] [] (.slice none 0 0) (.slice none 0 0) (.slice none 0 0) (.slice none 0 0) := ⟨N1, World.ownsRow_nil _ _ _ _, World.ownsRow_nil _ _ _ _, fun q _ => ⟨by simp [Value.ownBlock], by simp [Value.ownBlock]⟩, hwg, B1⟩
  have HS1 := Lib.hid S1
  clear hg ba b1 N1 B1 hwg S1
  refine np_loop A0 n0 c0 os w R0 E0 HFT h0' g _ ?hr ?hx _ _ ?hs
  case hr => exact fun a' w'' h => h
  case hs => exact ⟨rfl, rfl, rfl, rfl, _, _, 0, [], [], _, _, rfl, rfl, rfl, by omega, by simp, by simp, HS1.out⟩
  clear HS1
  intro a' w'' h
  obtain ⟨hd, hs, t0, t3, u4, u5, i, l, c, v1, v2, t4, t5, t6, hi, hl, hc, HS0⟩ := h
  obtain ⟨f, rfl⟩ := np_open a' hd hs
  have HS := Lib.hid HS0
  clear hd hs t0 t3 t4 t5 t6 HS0 hi hl hc
  go_wp2_with (first
    | (go_at_call 9; refine (ntake_nil _ _).mono ?_; rintro e w2 ⟨rfl, b2⟩
       have B2 := HS.out.below.trans (b2.mono HS.out.below.size)
       have B3 := B2.alloc B2.size (.cells #[.int .i64 0, .int .i64 0, .string ⟨#[]⟩] 29))
    | (go_at_call 8; refine (nsend_nil _ _ _ _).mono ?_; rintro e w3 ⟨rfl, hw⟩; subst hw
       have B4 := B3.alloc B3.size (.cells #[.int .i64 0, .int .i64 0, .string ⟨#[]⟩] 29))
    | (go_at_call 10; refine (nlen_nil _).mono ?_; rintro e w4 ⟨rfl, hw⟩; subst hw)
    | (go_at_call 13; refine (nclear_nil _).mono ?_; rintro e w5 ⟨rfl, hw⟩; subst hw)
    | (go_at_call 11; refine (ndouble_nil _ _).mono ?_; rintro e w6 ⟨rfl, b6⟩; have B6 := B4.trans (b6.mono B4.size))
    | (go_at_call 12; refine (nswap_nil _ _ _).mono ?_; rintro e w7 ⟨rfl, hw⟩; subst hw))
  go_ret
  exact ⟨rfl, B6⟩
end Go.Proofs.Ytpkbfdgfdgkbkaa
