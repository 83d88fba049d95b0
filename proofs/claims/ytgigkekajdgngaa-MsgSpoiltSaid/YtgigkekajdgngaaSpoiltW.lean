/-
  A message with one byte changed, or cut off, is none: the walk. Conditions: entries that memory holds.
-/
import Derived.Test.YtgigkekajdgngaaLightE
import Derived.Test.YtgigkekajdgngaaPostE
import Derived.Test.YtgigkekajdgngaaPostAlive
import Derived.Test.YtgigkekajdgngaaSumFlip
namespace Go.Proofs.Ytgigkekajdgngaa
open Go Go.RowKit
attribute [local go_sem] cell_set_if

theorem layM_size {m : Ms} {T : ByteArray} (h : layM m = (T, 0)) : 4 ≤ T.size ∧ T.size ≤ 60000 := by
  obtain ⟨h1, h2, rfl⟩ := layM_ok h
  obtain ⟨_, g2, g3, _⟩ := Ms.good h1
  have h3 := entsB_len h2
  rw [sealB_size, bs_size]
  unfold Ms.body headM
  have e5 : m.nums.length = 5 := rfl
  simp only [List.length_append, lowB_len, numsB_len, List.length_map, e5, bts_len]
  omega
theorem layM_bad {m : Ms} (h : (layM m).2 ≠ 0) : layM m = (⟨#[]⟩, 1) := by
  unfold layM at h ⊢
  split
  · rfl
  · rename_i h1
    rw [if_neg h1] at h
    exact absurd rfl h
theorem layM_zero {m : Ms} {T : ByteArray} {q : Int} (h : layM m = (T, q)) (hq : q ≠ 0) : T = ⟨#[]⟩ ∧ q = 1 := by
  have h2 := layM_bad (m := m) (by rw [h]; exact hq)
  rw [h] at h2
  exact ⟨congrArg (fun x => x.1) h2, congrArg (fun x => x.2) h2⟩
/-- A changed byte is told by the sum. -/
theorem errM_flip {m : Ms} {T : ByteArray} (h : layM m = (T, 0)) (p : Nat) (v b : UInt8) (hb : (bts T)[p]? = some b) (hv : v ≠ b) : errM (bs ((bts T).set p v)) = 7 := by
  obtain ⟨_, _, rfl⟩ := layM_ok h
  have e : bts (sealB (bs m.body)) = m.body ++ lowB (crc m.body) 4 := rfl
  rw [e] at hb ⊢
  have hf := openL_flip m.body p v b hb hv
  unfold errM
  rw [bts_bs, hf]
  rfl
/-- A first part is no message. -/
theorem errM_cut {m : Ms} {T : ByteArray} (h : layM m = (T, 0)) (j : Nat) (hj : j < T.size) : errM (T.extract 0 j) ≠ 0 := fun h0 => by
  have h1 := errM_ok h0
  have h2 := layM_pre h1 h (j := j) (by rw [bts_extract]; rfl)
  rw [ByteArray.size_extract] at h2
  omega
set_option maxRecDepth 100000 in
set_option maxHeartbeats 8000000 in
theorem spoilt_walk (m : Ms) (A : Option Addr) (n c : Nat) (at_ d : Int) (w : World) (hR : Rd w A (flatEn m.es)) (hN : m.es.length = n) (hm : n ≤ maxLen) (hz : m.txt.size ≤ maxLen) (hL : ∀ x ∈ m.es, x.lies w) (_hd1 : -9223372036854775808 ≤ d ∧ d ≤ 9223372036854775807) (ha1 : at_ ≤ 9223372036854775807) :
    Calls Try.prog 3 #[m.v A n c, .int .i64 at_, .int .i64 d] w fun e w' => e = .returned (.bool true) ∧ Below w.heap.size w w' := by
  obtain ⟨T, q, hTq⟩ : ∃ T q, layM m = (T, q) := ⟨_, _, rfl⟩
  have hgood : ∀ x ∈ m.es, x.good w := fun x hx => ⟨(hL x hx).1, (hL x hx).2.1, (hL x hx).2.2.1, fun y hy => (hL x hx).2.2.2 y hy⟩
  have hni : (n : Int) ≤ 9223372036854775807 := by unfold maxLen at hm; omega
  have hti : (m.txt.size : Int) ≤ 9223372036854775807 := by unfold maxLen at hz; omega
  obtain ⟨lg, hlg⟩ : ∃ lg, lg = lightE 8 m.es := ⟨_, rfl⟩
  have HLY : Hid (∀ W, Below w.heap.size w W → Calls Try.prog 6 #[.agg #[.int .i64 m.kind, .int .i64 m.a, .int .i64 m.b, .int .i64 m.c, .int .i64 m.d, .int .i64 m.r, .bool m.ok, .string m.txt, .slice A n c]] W fun e w' => e = .returned (.tuple #[.string T, .int .i64 q]) ∧ Below W.heap.size W w') := fun W hb => by
    have h := layM_any m A n c W (hR.below hb) hN hm hz (fun x hx => (hL x hx).below hb)
    rw [hTq] at h
    exact h
  have ba : Below w.heap.size w (w.alloc (.cells #[.int .i64 m.kind, .int .i64 m.a, .int .i64 m.b, .int .i64 m.c, .int .i64 m.d, .int .i64 m.r, .bool m.ok, .string m.txt, .slice A n c] 24)) := (Below.refl _ _).alloc (Nat.le_refl _) _
  have KM := Blk.new w 24 #[.int .i64 m.kind, .int .i64 m.a, .int .i64 m.b, .int .i64 m.c, .int .i64 m.d, .int .i64 m.r, .bool m.ok, .string m.txt, .slice A n c]
  have hlc : Calls Try.prog 4 #[.int .i64 8, .slice A n c] (w.alloc (.cells #[.int .i64 m.kind, .int .i64 m.a, .int .i64 m.b, .int .i64 m.c, .int .i64 m.d, .int .i64 m.r, .bool m.ok, .string m.txt, .slice A n c] 24)) fun e w' => e = .returned (.bool (lightE 8 m.es)) ∧ Below (w.alloc (.cells #[.int .i64 m.kind, .int .i64 m.a, .int .i64 m.b, .int .i64 m.c, .int .i64 m.d, .int .i64 m.r, .bool m.ok, .string m.txt, .slice A n c] 24)).heap.size (w.alloc (.cells #[.int .i64 m.kind, .int .i64 m.a, .int .i64 m.b, .int .i64 m.c, .int .i64 m.d, .int .i64 m.r, .bool m.ok, .string m.txt, .slice A n c] 24)) w' := lightE_any 8 A n c m.es _ (hR.below ba) hN hm (by omega) (fun x hx => ⟨(hgood x hx).1.below ba, (hgood x hx).2⟩)
  rw [← hlg] at hlc
  have HLC := Lib.hid hlc
  have HTQ := Lib.hid hTq
  clear hlc hgood hlg hR hN hm hz hL hTq
  unfold Ms.v msgV
  go_enter Try.func3, Try.ntmps3
  go_upto_region 1 with fail
  obtain ⟨gm, hgm⟩ : ∃ gm, gm = w.heap.size := ⟨_, rfl⟩
  rw [← hgm] at KM ⊢
  have BA := Lib.hid ba
  generalize w.alloc (.cells #[.int .i64 m.kind, .int .i64 m.a, .int .i64 m.b, .int .i64 m.c, .int .i64 m.d, .int .i64 m.r, .bool m.ok, .string m.txt, .slice A n c] 24) = W at ba BA KM HLC ⊢
  clear hgm ba
  have HKM := Lib.hid KM
  have m7 : W.cell? ⟨gm, 7, none⟩ = some (.string m.txt) := KM.cell 7
  have m8 : W.cell? ⟨gm, 8, none⟩ = some (.slice A n c) := KM.cell 8
  clear KM
  cases lg
  · go_wp2_with (first
      | (go_at_call 4; with_reducible refine HLC.out.mono ?_; rintro e w1 ⟨rfl, b1⟩)
      | (go_at_call 5; refine (alive24_any _).mono ?_; rintro e w2 ⟨rfl, b2⟩))
    go_ret
    exact ⟨rfl, (BA.out.trans (b1.mono BA.out.size)).trans (b2.mono (by have := BA.out.size; have := b1.size; omega))⟩
  by_cases k2 : 2000 < m.txt.size
  · have d2 : decide (2000 < (m.txt.size : Int)) = true := decide_eq_true (by omega)
    go_wp2_with (first
      | (go_at_call 4; with_reducible refine HLC.out.mono ?_; rintro e w1 ⟨rfl, b1⟩
         have n7 : w1.cell? ⟨gm, 7, none⟩ = some (.string m.txt) := (HKM.out.below b1).cell 7)
      | (go_at_call 5; refine (alive24_any _).mono ?_; rintro e w2 ⟨rfl, b2⟩))
    go_ret
    exact ⟨rfl, (BA.out.trans (b1.mono BA.out.size)).trans (b2.mono (by have := BA.out.size; have := b1.size; omega))⟩
  have d2 : decide (2000 < (m.txt.size : Int)) = false := decide_eq_false (by omega)
  by_cases k3 : at_ < 0
  · have d3 : decide (at_ < 0) = true := decide_eq_true k3
    go_wp2_with (first
      | (go_at_call 4; with_reducible refine HLC.out.mono ?_; rintro e w1 ⟨rfl, b1⟩
         have n7 : w1.cell? ⟨gm, 7, none⟩ = some (.string m.txt) := (HKM.out.below b1).cell 7)
      | (go_at_call 5; refine (alive24_any _).mono ?_; rintro e w2 ⟨rfl, b2⟩))
    go_ret
    exact ⟨rfl, (BA.out.trans (b1.mono BA.out.size)).trans (b2.mono (by have := BA.out.size; have := b1.size; omega))⟩
  have d3 : decide (at_ < 0) = false := decide_eq_false k3
  by_cases k4 : d % 256 = 0
  · have d4 : (d % 256 == 0) = true := by simpa using k4
    clear k4
    go_wp2_with (first
      | (go_at_call 4; with_reducible refine HLC.out.mono ?_; rintro e w1 ⟨rfl, b1⟩
         have n7 : w1.cell? ⟨gm, 7, none⟩ = some (.string m.txt) := (HKM.out.below b1).cell 7)
      | (go_at_call 5; refine (alive24_any _).mono ?_; rintro e w2 ⟨rfl, b2⟩))
    go_ret
    exact ⟨rfl, (BA.out.trans (b1.mono BA.out.size)).trans (b2.mono (by have := BA.out.size; have := b1.size; omega))⟩
  have d4 : (d % 256 == 0) = false := by simpa using k4
  obtain ⟨an, rfl⟩ := Int.eq_ofNat_of_zero_le (show 0 ≤ at_ by omega)
  by_cases hq : q = 0
  · subst hq
    obtain ⟨z1, z2⟩ := layM_size HTQ.out
    obtain ⟨p, hp⟩ : ∃ p, p = an % T.size := ⟨_, rfl⟩
    have hpl : p < T.size := by rw [hp]; exact Nat.mod_lt _ (by omega)
    have hpi : ((an : Int) % (T.size : Int)) = (p : Int) := by rw [hp]; rfl
    obtain ⟨b, hb⟩ : ∃ b, (bts T)[p]? = some b := ⟨(bts T)[p]'(by rw [bts_len]; omega), List.getElem?_eq_getElem _⟩
    obtain ⟨v, hv⟩ : ∃ v : UInt8, v = b ^^^ UInt8.ofNat (d % 256).toNat := ⟨_, rfl⟩
    have hvb : v ≠ b := by
      intro h
      rw [h] at hv
      have h5 := congrArg UInt8.toNat hv
      rw [UInt8.toNat_xor] at h5
      have h6 : (UInt8.ofNat (d % 256).toNat).toNat = 0 := by
        have : b.toNat ^^^ 0 = b.toNat ^^^ (UInt8.ofNat (d % 256).toNat).toNat := by rw [Nat.xor_zero]; exact h5
        exact (xor_left_inj this).symm
      simp at h6; omega
    have hx : bits BinOp.xor IntKind.u8 (b.toNat : Int) (d % 256) = (v.toNat : Int) := by
      rw [u8_xor _ _ (by omega) (by have := b.toNat_lt; omega) (by omega) (by omega), hv, UInt8.toNat_xor, show (UInt8.ofNat (d % 256).toNat).toNat = (d % 256).toNat from by simp; omega]
      rfl
    have hr1 := fun W => mread_any (bs ((bts T).set p v)) W (by rw [bs_size, List.length_set, bts_len]; omega)
    rw [errM_flip HTQ.out p v b hb hvb] at hr1
    have hr2 := fun W => mread_any (T.extract 0 p) W (by rw [ByteArray.size_extract]; omega)
    obtain ⟨g, hg⟩ : ∃ g, g = errM (T.extract 0 p) := ⟨_, rfl⟩
    rw [← hg] at hr2
    have hg0 : g ≠ 0 := by rw [hg]; exact errM_cut HTQ.out p hpl
    have hgb : (g != 0) = true := by simpa using hg0
    have R1 : Hid (∀ W, Calls Try.prog 7 #[.string (bs ((bts T).set p v))] W fun e w' => ∃ (M : Ms) (A : Option Addr) (n c : Nat), e = .returned (.tuple #[.agg #[.int .i64 M.kind, .int .i64 M.a, .int .i64 M.b, .int .i64 M.c, .int .i64 M.d, .int .i64 M.r, .bool M.ok, .string M.txt, .slice A n c], .int .i64 7]) ∧ Below W.heap.size W w') := fun W => (hr1 W).mono fun _ _ ⟨M, A, n, c, h, _, _, _, _, hb⟩ => ⟨M, A, n, c, h, hb⟩
    have R2 : Hid (∀ W, Calls Try.prog 7 #[.string (T.extract 0 p)] W fun e w' => ∃ (M : Ms) (A : Option Addr) (n c : Nat), e = .returned (.tuple #[.agg #[.int .i64 M.kind, .int .i64 M.a, .int .i64 M.b, .int .i64 M.c, .int .i64 M.d, .int .i64 M.r, .bool M.ok, .string M.txt, .slice A n c], .int .i64 g]) ∧ Below W.heap.size W w') := fun W => (hr2 W).mono fun _ _ ⟨M, A, n, c, h, _, _, _, _, hb⟩ => ⟨M, A, n, c, h, hb⟩
    have HB := Lib.hid hb
    have HX := Lib.hid hx
    have HP := Lib.hid hpi
    have hz1 : (4 : Int) ≤ (T.size : Int) := by omega
    have hz2 : (T.size : Int) ≤ 60000 := by omega
    clear hb hx hpi hp hv hvb hr1 hr2 hg hg0 k4
    go_upto_region 4 with (first
      | (go_at_call 4; with_reducible refine HLC.out.mono ?_; rintro e w1 ⟨rfl, b1⟩
         have n7 : w1.cell? ⟨gm, 7, none⟩ = some (.string m.txt) := (HKM.out.below b1).cell 7)
      | (go_at_call 5; refine (alive24_any _).mono ?_; rintro e w2 ⟨rfl, b2⟩
         have B2 := BA.out.trans ((b1.mono BA.out.size).trans (b2.mono (by have := BA.out.size; have := b1.size; omega)))
         have K2 := (HKM.out.below b1).below b2
         have a0 := K2.cell 0
         have a1 := K2.cell 1
         have a2 := K2.cell 2
         have a3 := K2.cell 3
         have a4 := K2.cell 4
         have a5 := K2.cell 5
         have a6 := K2.cell 6
         have a7 := K2.cell 7
         have a8 := K2.cell 8)
      | (go_at_call 6; refine (HLY.out _ B2).mono ?_; rintro e w3 ⟨rfl, b3⟩))
    have HB3 := Lib.hid (B2.trans (b3.mono B2.size))
    clear a0 a1 a2 a3 a4 a5 a6 a7 a8 K2 B2 b1 b2 b3 m7 m8 n7 HLC HLY HKM
    go_upto_region 10 with (first
      | (refine wpList_str_bytes rfl 9 30 (.tmp 54) rfl 5 Try.underlying9 Try.underlying30 Try.underlying5 T rfl ?_
         intro cc w4 hc4 hb4 hs4 hr4 hf4
         have HR4 := Lib.hid hr4
         have HS4 := Lib.hid hs4
         have hcell := cell_u8 hr4 HB.out
         have hfro := hf4 p hpl
         have hx := HX.out
         have hpi := HP.out
         have hpl' : (p : Int) < (T.size : Int) := by omega
         clear hr4 hs4 hf4))
    have hR5 : Rd (w4.setCell ⟨w3.heap.size, p, none⟩ (.int .u8 (v.toNat : Int))) (some ⟨w3.heap.size, 0, none⟩) (u8s ((bts T).set p v)) := by
      have h := HR4.out.set (p := p) (v := .int .u8 (v.toNat : Int)) (by rw [u8s_len, bts_len]; exact hpl)
      rw [u8s_set] at h
      simpa using h
    have HB5 : Hid (Below w.heap.size w (w4.setCell ⟨w3.heap.size, p, none⟩ (.int .u8 (v.toNat : Int)))) := (HB3.out.trans (hb4.mono HB3.out.size)).setCell HB3.out.size _
    have HR5 := Lib.hid hR5
    generalize w4.setCell ⟨w3.heap.size, p, none⟩ (.int .u8 (v.toNat : Int)) = W5 at HR5 HB5 ⊢
    clear hR5 hcell hfro hx HR4 HS4
    go_upto_region 11 with (first
      | (refine wpList_bytes_str rfl 30 9 (.tmp 68) rfl 5 Try.underlying30 Try.underlying5 Try.underlying9 _ T.size _ ((bts T).set p v) rfl HR5.out (by rw [List.length_set, bts_len]) ?_)
      | (go_at_call 7; refine (R1.out _).mono ?_; rintro e w6 ⟨M1, A1, n1, c1, rfl, b6⟩))
    have B6 := HB5.out.trans (b6.mono HB5.out.size)
    have HB7 : Hid (Below w.heap.size w (w6.alloc (.cells #[.int .i64 M1.kind, .int .i64 M1.a, .int .i64 M1.b, .int .i64 M1.c, .int .i64 M1.d, .int .i64 M1.r, .bool M1.ok, .string M1.txt, .slice A1 n1 c1] 24))) := B6.alloc B6.size _
    generalize w6.alloc (.cells #[.int .i64 M1.kind, .int .i64 M1.a, .int .i64 M1.b, .int .i64 M1.c, .int .i64 M1.d, .int .i64 M1.r, .bool M1.ok, .string M1.txt, .slice A1 n1 c1] 24) = W7 at HB7 ⊢
    clear b6 B6 R1
    go_wp2_with (go_at_call 7; refine (R2.out _).mono ?_; rintro e w8 ⟨M2, A2, n2, c2, rfl, b8⟩)
    go_ret
    have B8 := HB7.out.trans (b8.mono HB7.out.size)
    exact ⟨rfl, B8.alloc B8.size _⟩
  · obtain ⟨hT, h1⟩ := layM_zero HTQ.out hq
    subst hT h1
    clear k4
    go_wp2_with (first
      | (go_at_call 4; with_reducible refine HLC.out.mono ?_; rintro e w1 ⟨rfl, b1⟩
         have n7 : w1.cell? ⟨gm, 7, none⟩ = some (.string m.txt) := (HKM.out.below b1).cell 7)
      | (go_at_call 5; refine (alive24_any _).mono ?_; rintro e w2 ⟨rfl, b2⟩
         have B2 := BA.out.trans ((b1.mono BA.out.size).trans (b2.mono (by have := BA.out.size; have := b1.size; omega)))
         have K2 := (HKM.out.below b1).below b2
         have a0 := K2.cell 0
         have a1 := K2.cell 1
         have a2 := K2.cell 2
         have a3 := K2.cell 3
         have a4 := K2.cell 4
         have a5 := K2.cell 5
         have a6 := K2.cell 6
         have a7 := K2.cell 7
         have a8 := K2.cell 8)
      | (go_at_call 6; refine (HLY.out _ B2).mono ?_; rintro e w3 ⟨rfl, b3⟩))
    go_ret
    exact ⟨rfl, B2.trans (b3.mono B2.size)⟩
end Go.Proofs.Ytgigkekajdgngaa
