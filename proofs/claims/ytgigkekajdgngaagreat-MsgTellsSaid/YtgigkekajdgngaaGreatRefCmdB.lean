/-
  The document's requests and entries, laid. Conditions: commands whose texts are no longer than memory holds.
-/
import Derived.Test.YtgigkekajdgngaaGreatRefCmdA
namespace Go.Proofs.YtgigkekajdgngaaGreat
open Go Go.RowKit
attribute [local go_sem] cell_set_if

theorem low_w (v n : Nat) (hv : v < 18446744073709551616) (hn : n ≤ 8) : ∃ K : ByteArray, bts K = lowB v n ∧ K.size = n ∧ ∀ w, Calls Tryz.prog 23 #[.int .u64 v, .int .i64 n] w fun e w' => e = .returned (.string K) ∧ Below w.heap.size w w' :=
  ⟨bs (lowB v n), bts_bs _, by rw [bs_size, lowB_len], fun w => low_any v n w hv (by omega)⟩
theorem text_w (t : ByteArray) (h : t.size ≤ 65535) : ∃ K : ByteArray, bts K = textB t ∧ K.size = t.size + 2 ∧ ∀ w, Calls Tryz.prog 133 #[.string t] w fun e w' => e = .returned (.string K) ∧ Below w.heap.size w w' :=
  ⟨bs (textB t), bts_bs _, by rw [bs_size, textB_len], fun w => rtext19_any t w h⟩
theorem wrap_nat (v : Nat) (h : v < 9223372036854775808) : IntKind.u64.wrap (v : Int) = (v : Int) := by simp [IntKind.wrap, IntKind.bits, IntKind.signed]; omega
set_option maxRecDepth 100000 in
set_option maxHeartbeats 8000000 in
theorem rqlay_any (client seq : Int) (A : Option Addr) (n c : Nat) (l : List Cm) (w : World) (hr : Rd w A (flatCm l)) (hn : l.length = n) (hm : n ≤ maxLen) (hS : ∀ x ∈ l, x.short) :
    Calls Tryz.prog 98 #[reqV client seq A n c] w fun e w' => e = .returned (.tuple #[.string (layQ client seq l).1, .int .i64 (layQ client seq l).2]) ∧ Below w.heap.size w w' := by
  have ba : Below w.heap.size w (w.alloc (.cells #[.int .i64 client, .int .i64 seq, .slice A n c] 59)) := (Below.refl _ _).alloc (Nat.le_refl _) _
  have KM := Blk.new w 59 #[.int .i64 client, .int .i64 seq, .slice A n c]
  have hR := hr.below ba
  have hC := rcheck_any client seq A n c l _ hR hn hm hS
  have HN := Lib.hid hn
  rw [layQ_snd]
  obtain ⟨T, hT⟩ : ∃ T, T = (layQ client seq l).1 := ⟨_, rfl⟩
  rw [← hT]
  by_cases k : checkQ client seq l = 0
  · have hok := checkQ_ok k
    obtain ⟨cn, rfl⟩ : ∃ cn : Nat, client = (cn : Int) := ⟨client.toNat, by omega⟩
    obtain ⟨sn, rfl⟩ : ∃ sn : Nat, seq = (sn : Int) := ⟨seq.toNat, by omega⟩
    have hTe : T = bs (reqB cn sn l) := by rw [hT]; unfold layQ; rw [if_pos k]; rfl
    obtain ⟨⟨_, g1⟩, ⟨_, g2⟩, _, g3, g4, g5⟩ := hok
    have g1n : cn ≤ 1099511627776 := by omega
    have g2n : sn ≤ 1099511627776 := by omega
    rw [k] at hC ⊢
    obtain ⟨K1, b1, z1, a1⟩ := low_w cn 8 (by omega) (by omega)
    obtain ⟨K2, b2, z2, a2⟩ := low_w sn 8 (by omega) (by omega)
    obtain ⟨K3, b3, z3, a3⟩ := low_w n 1 (by omega) (by omega)
    obtain ⟨Q2, q2⟩ : ∃ F, K1 ++ K2 = F := ⟨_, rfl⟩
    obtain ⟨Q3, q3⟩ : ∃ F, Q2 ++ K3 = F := ⟨_, rfl⟩
    have y2 : Q2.size = 16 := by rw [← q2, ByteArray.size_append]; omega
    have y3 : Q3.size = 17 := by rw [← q3, ByteArray.size_append]; omega
    have r2 : ¬ (9223372036854775807 < K1.size + K2.size) := by omega
    have r3 : ¬ (9223372036854775807 < Q2.size + K3.size) := by omega
    have hQ : bts Q3 = lowB cn 8 ++ lowB sn 8 ++ lowB n 1 := by rw [← q3, ← q2, bts_append, bts_append, b1, b2, b3]
    have u1 := wrap_nat cn (by omega)
    have u2 := wrap_nat sn (by omega)
    have u3 := wrap_nat n (by omega)
    have A1 : Hid (∀ w, Calls Tryz.prog 23 #[.int .u64 cn, .int .i64 8] w fun e w' => e = .returned (.string K1) ∧ Below w.heap.size w w') := a1
    have A2 : Hid (∀ w, Calls Tryz.prog 23 #[.int .u64 sn, .int .i64 8] w fun e w' => e = .returned (.string K2) ∧ Below w.heap.size w w') := a2
    have A3 : Hid (∀ w, Calls Tryz.prog 23 #[.int .u64 n, .int .i64 1] w fun e w' => e = .returned (.string K3) ∧ Below w.heap.size w w') := a3
    have HC := Lib.hid hC
    have HTE := Lib.hid hTe
    have HQ3 := Lib.hid hQ
    have HV := Lib.hid g4
    have HR := Lib.hid hR
    have HLEN := Lib.hid g5
    have h6i : (n : Int) ≤ 6 := by omega
    have hcni : (cn : Int) ≤ 1099511627776 := by omega
    have hsni : (sn : Int) ≤ 1099511627776 := by omega
    clear hT hTe k hC hR hr hn hS hQ b1 b2 b3 a1 a2 a3 z1 z2 z3 y2 y3 g4 g5
    unfold reqV at HC ⊢
    go_enter Tryz.func98, Tryz.ntmps98
    go_upto_region 1 with fail
    obtain ⟨gm, hgm⟩ : ∃ gm, gm = w.heap.size := ⟨_, rfl⟩
    rw [← hgm] at KM ⊢
    have BA := Lib.hid ba
    generalize w.alloc (.cells #[.int .i64 cn, .int .i64 sn, .slice A n c] 59) = W at ba BA KM HR HC ⊢
    clear hgm ba
    have m0 : W.cell? ⟨gm, 0, none⟩ = some (.int .i64 cn) := KM.cell 0
    have m1 : W.cell? ⟨gm, 1, none⟩ = some (.int .i64 sn) := KM.cell 1
    have m2 : W.cell? ⟨gm, 2, none⟩ = some (.slice A n c) := KM.cell 2
    have HKM := Lib.hid KM
    clear KM
    go_upto_region 4 with (go_at_call 132; (with_reducible refine HC.out.mono ?_); rintro e w2 ⟨rfl, b2⟩)
    have K2' := HKM.out.below b2
    have HB2 := Lib.hid b2
    have n0 : w2.cell? ⟨gm, 0, none⟩ = some (.int .i64 cn) := K2'.cell 0
    have n1 : w2.cell? ⟨gm, 1, none⟩ = some (.int .i64 sn) := K2'.cell 1
    have n2 : w2.cell? ⟨gm, 2, none⟩ = some (.slice A n c) := K2'.cell 2
    have n0 := NewM.cell n0
    have n1 := NewM.cell n1
    have n2 := NewM.cell n2
    clear m0 m1 m2 b2 K2' HC
    refine wp_region_quiet_new (by kernel_rfl) (by kernel_rfl) ?_
    repeat (go_big_quiet_step (first
      | (go_at_call 23; with_reducible exact NewM.call (A1.out _))
      | (go_at_call 23; with_reducible exact NewM.call (A2.out _))
      | (go_at_call 23; with_reducible exact NewM.call (A3.out _))))
    refine wpQuiet_nil ?_
    rintro _ ⟨rr, rfl⟩
    have HB3 := Lib.hid (HB2.out.trans (rr.h.mono HB2.out.size))
    clear n0 n1 n2 A1 A2 A3 HB2
    go_wp2
    go_loopw [5, 6, 7] (fun u5 u6 _ wr => ∃ (k : Nat) (S : ByteArray), k ≤ n ∧ u6 = .int .i64 k ∧ u5 = .string S ∧ Hid (bts S = lowB cn 8 ++ lowB sn 8 ++ lowB n 1 ++ cmsB (l.take k)) ∧ Hid (Below W.heap.size W wr)) (fun _ u6 _ _ => n - (intOf u6).toNat)
    case atStart => exact ⟨0, Q3, by omega, rfl, rfl, by (have e : cmsB (l.take 0) = [] := by simp [cmsB]); rw [e, List.append_nil]; exact HQ3.out, HB3.out⟩
    case round =>
      clear HB3 rr
      obtain ⟨k, S, hkn, rfl, rfl, HS, HB⟩ := hrel
      have m2 : wr.cell? ⟨gm, 2, none⟩ = some (.slice A n c) := (HKM.out.below HB.out).cell 2
      by_cases hlt : k < n
      · have hki : (k : Int) < (n : Int) := by omega
        obtain ⟨b1, o1, x, rfl, hbl, hx, c0, c1, c2, c3, c4⟩ := (HR.out.below HB.out).cm (k := k) (by have := HN.out; omega)
        have hvx := HV.out x (List.mem_of_getElem? hx)
        obtain ⟨kk, hkk, hk256, hkt⟩ := validC_kind hvx
        obtain ⟨_, v1, v2, v3, v4⟩ := validC_iff.1 hvx
        rw [hkk] at c0
        have hSz : S.size ≤ 60000 := by
          have h1 := congrArg List.length HS.out
          have h2 := cmsB_len (l := l.take k) (fun y hy => HV.out y (List.mem_of_mem_take hy))
          rw [List.length_take] at h2
          rw [bts_len] at h1
          simp only [List.length_append, lowB_len] at h1
          omega
        obtain ⟨L1, e1, z1, a1⟩ := low_w kk 1 (by omega) (by omega)
        obtain ⟨L2, e2, z2, a2⟩ := text_w x.path (by omega)
        obtain ⟨L3, e3, z3, a3⟩ := text_w x.key (by omega)
        obtain ⟨L4, e4, z4, a4⟩ := text_w x.val (by omega)
        obtain ⟨L5, e5, z5, a5⟩ := text_w x.old (by omega)
        obtain ⟨P1, p1⟩ : ∃ F, S ++ L1 = F := ⟨_, rfl⟩
        obtain ⟨P2, p2⟩ : ∃ F, P1 ++ L2 = F := ⟨_, rfl⟩
        obtain ⟨P3, p3⟩ : ∃ F, P2 ++ L3 = F := ⟨_, rfl⟩
        obtain ⟨P4, p4⟩ : ∃ F, P3 ++ L4 = F := ⟨_, rfl⟩
        obtain ⟨P5, p5⟩ : ∃ F, P4 ++ L5 = F := ⟨_, rfl⟩
        have y1 : P1.size = S.size + 1 := by rw [← p1, ByteArray.size_append]; omega
        have y2 : P2.size = P1.size + (x.path.size + 2) := by rw [← p2, ByteArray.size_append]; omega
        have y3 : P3.size = P2.size + (x.key.size + 2) := by rw [← p3, ByteArray.size_append]; omega
        have y4 : P4.size = P3.size + (x.val.size + 2) := by rw [← p4, ByteArray.size_append]; omega
        have t1 : ¬ (9223372036854775807 < S.size + L1.size) := by omega
        have t2 : ¬ (9223372036854775807 < P1.size + L2.size) := by omega
        have t3 : ¬ (9223372036854775807 < P2.size + L3.size) := by omega
        have t4 : ¬ (9223372036854775807 < P3.size + L4.size) := by omega
        have t5 : ¬ (9223372036854775807 < P4.size + L5.size) := by omega
        have HNX : Hid (bts P5 = lowB cn 8 ++ lowB sn 8 ++ lowB n 1 ++ cmsB (l.take (k + 1))) := by
          unfold Hid
          rw [← p5, ← p4, ← p3, ← p2, ← p1, bts_append, bts_append, bts_append, bts_append, bts_append, e1, e2, e3, e4, e5, HS.out, cmsB_take l k x hx]
          unfold cmB
          rw [hkt]
          simp only [List.append_assoc]
        have uk := wrap_nat kk (by omega)
        have A1 : Hid (∀ w, Calls Tryz.prog 23 #[.int .u64 kk, .int .i64 1] w fun e w' => e = .returned (.string L1) ∧ Below w.heap.size w w') := a1
        have A2 := Lib.hid a2
        have A3 := Lib.hid a3
        have A4 := Lib.hid a4
        have A5 := Lib.hid a5
        have hkki : (kk : Int) < 256 := by omega
        have X0 := Blk.new wr 117 #[.int .i64 kk, .string x.path, .string x.key, .string x.val, .string x.old]
        have bx : Below wr.heap.size wr (wr.alloc (.cells #[.int .i64 kk, .string x.path, .string x.key, .string x.val, .string x.old] 117)) := (Below.refl _ _).alloc (Nat.le_refl _) _
        clear hx hvx hkk hkt hSz e1 e2 e3 e4 e5 z1 z2 z3 z4 z5 y1 y2 y3 y4 a1 a2 a3 a4 a5 hbl
        go_upto_region 9 with fail
        have x0 : (wr.alloc (.cells #[.int .i64 kk, .string x.path, .string x.key, .string x.val, .string x.old] 117)).cell? ⟨wr.heap.size, 0, none⟩ = some (.int .i64 kk) := X0.cell 0
        have x1 : (wr.alloc (.cells #[.int .i64 kk, .string x.path, .string x.key, .string x.val, .string x.old] 117)).cell? ⟨wr.heap.size, 1, none⟩ = some (.string x.path) := X0.cell 1
        have x2 : (wr.alloc (.cells #[.int .i64 kk, .string x.path, .string x.key, .string x.val, .string x.old] 117)).cell? ⟨wr.heap.size, 2, none⟩ = some (.string x.key) := X0.cell 2
        have x3 : (wr.alloc (.cells #[.int .i64 kk, .string x.path, .string x.key, .string x.val, .string x.old] 117)).cell? ⟨wr.heap.size, 3, none⟩ = some (.string x.val) := X0.cell 3
        have x4 : (wr.alloc (.cells #[.int .i64 kk, .string x.path, .string x.key, .string x.val, .string x.old] 117)).cell? ⟨wr.heap.size, 4, none⟩ = some (.string x.old) := X0.cell 4
        have HBX := Lib.hid (HB.out.trans (bx.mono HB.out.size))
        generalize wr.alloc (.cells #[.int .i64 kk, .string x.path, .string x.key, .string x.val, .string x.old] 117) = Wx at bx X0 x0 x1 x2 x3 x4 HBX ⊢
        obtain ⟨gx, hgx⟩ : ∃ gx, gx = wr.heap.size := ⟨_, rfl⟩
        rw [← hgx] at x0 x1 x2 x3 x4 ⊢
        have x0 := NewM.cell x0
        have x1 := NewM.cell x1
        have x2 := NewM.cell x2
        have x3 := NewM.cell x3
        have x4 := NewM.cell x4
        clear X0 bx hgx c0 c1 c2 c3 c4 m2 HB
        refine wp_region_quiet_new (by kernel_rfl) (by kernel_rfl) ?_
        repeat (go_big_quiet_step (first
          | (go_at_call 23; with_reducible exact NewM.call (A1.out _))
          | (go_at_call 133; with_reducible exact NewM.call (A2.out _))
          | (go_at_call 133; with_reducible exact NewM.call (A3.out _))
          | (go_at_call 133; with_reducible exact NewM.call (A4.out _))
          | (go_at_call 133; with_reducible exact NewM.call (A5.out _))))
        refine wpQuiet_nil ?_
        rintro _ ⟨rr, rfl⟩
        have HB9 := Lib.hid (HBX.out.trans (rr.h.mono HBX.out.size))
        go_wp2
        go_roundw
        case rel => exact ⟨k + 1, P5, by omega, by go_num, rfl, HNX, HB9.out⟩
        case measure => simp [intOf]; omega
      · obtain rfl : k = n := by omega
        have hl9 : l.take k = l := by rw [← HN.out, List.take_length]
        have hS := HS.out
        rw [hl9] at hS
        have hST : S = T := by
          rw [HTE.out]
          apply bts_inj
          rw [hS, bts_bs]
          unfold reqB
          rw [HN.out]
        subst hST
        clear hS
        go_wp2
        go_ret2
        exact ⟨rfl, BA.out.trans (HB.out.mono BA.out.size)⟩
  · have hTe : T = ⟨#[]⟩ := by rw [hT]; unfold layQ; rw [if_neg k]; rfl
    subst hTe
    obtain ⟨q, hq⟩ : ∃ q, q = checkQ client seq l := ⟨_, rfl⟩
    rw [← hq] at hC k ⊢
    have HC := Lib.hid hC
    have hb : (q != 0) = true := by simpa using k
    clear hT hq hC hR hr hn hS KM
    unfold reqV at HC ⊢
    go_enter Tryz.func98, Tryz.ntmps98
    go_wp2_with (go_at_call 132; (with_reducible refine HC.out.mono ?_); rintro e w2 ⟨rfl, b2⟩)
    go_ret2
    exact ⟨rfl, ba.trans (b2.mono ba.size)⟩
set_option maxRecDepth 100000 in
set_option maxHeartbeats 4000000 in
theorem rentry_any (x : En) (w : World) (hr : Rd w x.A (flatCm x.cmds)) (hn : x.cmds.length = x.n) (hm : x.n ≤ maxLen) (hS : ∀ y ∈ x.cmds, y.short) :
    Calls Tryz.prog 35 #[x.v] w fun e w' => e = .returned (.tuple #[.string (layE x).1, .int .i64 (layE x).2]) ∧ Below w.heap.size w w' := by
  obtain ⟨index, term, client, seq, A, n, c, l⟩ := x
  simp only [] at hr hn hm hS
  have ba : Below w.heap.size w (w.alloc (.cells #[.int .i64 index, .int .i64 term, .int .i64 client, .int .i64 seq, .slice A n c] 61)) := (Below.refl _ _).alloc (Nat.le_refl _) _
  have KM := Blk.new w 61 #[.int .i64 index, .int .i64 term, .int .i64 client, .int .i64 seq, .slice A n c]
  have HL := Lib.hid (rqlay_any client seq A n c l _ (hr.below ba) hn hm hS)
  obtain ⟨T, hT⟩ : ∃ T, T = (layE ⟨index, term, client, seq, A, n, c, l⟩).1 := ⟨_, rfl⟩
  obtain ⟨q, hq⟩ : ∃ q, q = (layE ⟨index, term, client, seq, A, n, c, l⟩).2 := ⟨_, rfl⟩
  rw [← hT, ← hq]
  obtain ⟨T2, hT2⟩ : ∃ T, T = (layQ client seq l).1 := ⟨_, rfl⟩
  obtain ⟨q2, hq2⟩ : ∃ q, q = (layQ client seq l).2 := ⟨_, rfl⟩
  rw [← hT2, ← hq2] at HL
  rw [layQ_snd] at hq2
  unfold layE at hT hq
  simp only [] at hT hq
  clear hr hn hm hS
  unfold En.v
  simp only []
  unfold reqV at HL
  go_enter Tryz.func35, Tryz.ntmps35
  go_upto_region 1 with fail
  obtain ⟨gm, hgm⟩ : ∃ gm, gm = w.heap.size := ⟨_, rfl⟩
  rw [← hgm] at KM ⊢
  have BA := Lib.hid ba
  generalize w.alloc (.cells #[.int .i64 index, .int .i64 term, .int .i64 client, .int .i64 seq, .slice A n c] 61) = W at ba BA KM HL ⊢
  clear hgm ba
  have HKM := Lib.hid KM
  have m0 : W.cell? ⟨gm, 0, none⟩ = some (.int .i64 index) := KM.cell 0
  have m1 : W.cell? ⟨gm, 1, none⟩ = some (.int .i64 term) := KM.cell 1
  have m2 : W.cell? ⟨gm, 2, none⟩ = some (.int .i64 client) := KM.cell 2
  have m3 : W.cell? ⟨gm, 3, none⟩ = some (.int .i64 seq) := KM.cell 3
  have m4 : W.cell? ⟨gm, 4, none⟩ = some (.slice A n c) := KM.cell 4
  clear KM
  by_cases k1 : index < 0
  · have e1 : T = ⟨#[]⟩ := by rw [hT, if_pos (Or.inl k1)]; rfl
    have e2 : q = 1 := by rw [hq, if_pos (Or.inl k1)]
    subst e1 e2
    clear hT hq hT2 hq2
    have d1 : decide (index < 0) = true := decide_eq_true k1
    go_wp2
    go_ret2
    exact ⟨rfl, BA.out⟩
  have d1 : decide (index < 0) = false := decide_eq_false k1
  by_cases k2 : 2147483647 < index
  · have e1 : T = ⟨#[]⟩ := by rw [hT, if_pos (Or.inr (Or.inl k2))]; rfl
    have e2 : q = 1 := by rw [hq, if_pos (Or.inr (Or.inl k2))]
    subst e1 e2
    clear hT hq hT2 hq2
    have d2 : decide (2147483648 ≤ index) = true := decide_eq_true (by omega)
    go_wp2
    go_ret2
    exact ⟨rfl, BA.out⟩
  have d2 : decide (2147483648 ≤ index) = false := decide_eq_false (by omega)
  by_cases k3 : term < 0
  · have e1 : T = ⟨#[]⟩ := by rw [hT, if_pos (Or.inr (Or.inr (Or.inl k3)))]; rfl
    have e2 : q = 1 := by rw [hq, if_pos (Or.inr (Or.inr (Or.inl k3)))]
    subst e1 e2
    clear hT hq hT2 hq2
    have d3 : decide (term < 0) = true := decide_eq_true k3
    go_wp2
    go_ret2
    exact ⟨rfl, BA.out⟩
  have d3 : decide (term < 0) = false := decide_eq_false k3
  by_cases k4 : 2147483647 < term
  · have e1 : T = ⟨#[]⟩ := by rw [hT, if_pos (Or.inr (Or.inr (Or.inr k4)))]; rfl
    have e2 : q = 1 := by rw [hq, if_pos (Or.inr (Or.inr (Or.inr k4)))]
    subst e1 e2
    clear hT hq hT2 hq2
    have d4 : decide (2147483648 ≤ term) = true := decide_eq_true (by omega)
    go_wp2
    go_ret2
    exact ⟨rfl, BA.out⟩
  have d4 : decide (2147483648 ≤ term) = false := decide_eq_false (by omega)
  rw [if_neg (by omega)] at hT hq
  by_cases k5 : checkQ client seq l = 0
  · rw [if_pos k5] at hT hq
    have hq0 : q = 0 := hq
    have hq20 : q2 = 0 := by rw [hq2, k5]
    subst hq0 hq20
    have hok := checkQ_ok k5
    have hTe : T2 = bs (reqB client.toNat seq.toNat l) := by rw [hT2]; unfold layQ; rw [if_pos k5]
    have hsz : T2.size ≤ 8000 := by rw [hTe, bs_size]; exact hok.2.2.2.2.2
    obtain ⟨ix, rfl⟩ : ∃ ix : Nat, index = (ix : Int) := ⟨index.toNat, by omega⟩
    obtain ⟨tm, rfl⟩ : ∃ tm : Nat, term = (tm : Int) := ⟨term.toNat, by omega⟩
    have hTT : T = bs ([] ++ lowB ix 4 ++ lowB tm 4 ++ bts T2) := by
      rw [hT, hTe, bts_bs, Int.toNat_natCast, Int.toNat_natCast, List.nil_append]
    have HTT := Lib.hid hTT
    clear hT hq hT2 hq2 k5 hok hTe hTT
    obtain ⟨K1, b1, z1, a1⟩ := low_w ix 4 (by omega) (by omega)
    obtain ⟨K2, b2, z2, a2⟩ := low_w tm 4 (by omega) (by omega)
    obtain ⟨Q2, q2⟩ : ∃ F, K1 ++ K2 = F := ⟨_, rfl⟩
    have y2 : Q2.size = 8 := by rw [← q2, ByteArray.size_append]; omega
    have q3 : Q2 ++ T2 = T := by
      apply bts_inj
      rw [HTT.out, ← q2, bts_append, bts_append, b1, b2, bts_bs, List.nil_append]
    have r2 : ¬ (9223372036854775807 < K1.size + K2.size) := by omega
    have r3 : ¬ (9223372036854775807 < Q2.size + T2.size) := by omega
    have u1 := wrap_nat ix (by omega)
    have u2 := wrap_nat tm (by omega)
    have A1 : Hid (∀ w, Calls Tryz.prog 23 #[.int .u64 ix, .int .i64 4] w fun e w' => e = .returned (.string K1) ∧ Below w.heap.size w w') := a1
    have A2 : Hid (∀ w, Calls Tryz.prog 23 #[.int .u64 tm, .int .i64 4] w fun e w' => e = .returned (.string K2) ∧ Below w.heap.size w w') := a2
    clear b1 b2 z1 z2 a1 a2 y2
    go_upto_region 6 with (go_at_call 98; (with_reducible refine HL.out.mono ?_); rintro e w2 ⟨rfl, b2⟩)
    have K2' := HKM.out.below b2
    have HB2 := Lib.hid (BA.out.trans (b2.mono BA.out.size))
    have n0 : w2.cell? ⟨gm, 0, none⟩ = some (.int .i64 ix) := K2'.cell 0
    have n1 : w2.cell? ⟨gm, 1, none⟩ = some (.int .i64 tm) := K2'.cell 1
    have n0 := NewM.cell n0
    have n1 := NewM.cell n1
    clear m0 m1 m2 m3 m4 K2' b2 HL HKM
    refine wp_region_quiet_new (by kernel_rfl) (by kernel_rfl) ?_
    repeat (go_big_quiet_step (first
      | (go_at_call 23; with_reducible exact NewM.call (A1.out _))
      | (go_at_call 23; with_reducible exact NewM.call (A2.out _))))
    refine wpQuiet_nil ?_
    rintro _ ⟨rr, rfl⟩
    go_wp2
    go_ret2
    exact ⟨rfl, HB2.out.trans (rr.h.mono HB2.out.size)⟩
  · rw [if_neg k5] at hT hq
    have e1 : T = ⟨#[]⟩ := by rw [hT]; rfl
    have e2 : q2 = q := by rw [hq2, hq]
    have e3 : q ≠ 0 := by rw [hq]; exact k5
    have hb : (q != 0) = true := by simpa using e3
    subst e1 e2
    clear hT hq hT2 hq2 k5
    go_wp2_with (go_at_call 98; (with_reducible refine HL.out.mono ?_); rintro e w2 ⟨rfl, b2⟩)
    go_ret2
    exact ⟨rfl, BA.out.trans (b2.mono BA.out.size)⟩
end Go.Proofs.YtgigkekajdgngaaGreat
