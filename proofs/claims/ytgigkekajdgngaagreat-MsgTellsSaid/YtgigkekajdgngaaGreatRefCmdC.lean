/-
  The document's request, read. Condition: bytes that memory holds.
-/
import Derived.Test.YtgigkekajdgngaaGreatRefCmdB
import Derived.Test.YtgigkekajdgngaaGreatCmdE
namespace Go.Proofs.YtgigkekajdgngaaGreat
open Go Go.RowKit
attribute [local go_sem] cell_set_if

theorem rawStuck {n : Int} {s : PS} (h : s.2 ≠ 0) : getRaw n s = ([], s) := by unfold getRaw; rw [if_neg h]
theorem numStuck {n : Nat} {s : PS} (h : s.2 ≠ 0) : (getNum n s).2 = s := by unfold getNum; rw [rawStuck h]
theorem textStuck {s : PS} (h : s.2 ≠ 0) : (getText s).2 = s := by
  unfold getText
  rw [numStuck h, rawStuck h]
theorem cmStuck {s : PS} (h : s.2 ≠ 0) : (getCm s).2 = s := by
  unfold getCm
  simp only [numStuck h, textStuck h]
theorem cmsStuck {k n : Nat} {s : PS} (hk : k ≤ n) (h : (getCms k s).2.2 ≠ 0) : (getCms n s).2 = (getCms k s).2 := by
  induction n with
  | zero => obtain rfl : k = 0 := by omega
            rfl
  | succ n ih =>
    by_cases e : k = n + 1
    · rw [e]
    · have h1 := ih (by omega)
      show (getCm (getCms n s).2).2 = _
      rw [h1]
      exact cmStuck h
theorem endStuck {s : PS} (h : s.2 ≠ 0) : endG s = s := by unfold endG; rw [if_neg (fun e => h e.1)]
theorem ras_num {f : FuncId} {args : Array Value} {w : World} {g : Nat} {x : Int × PS} {n : Int} {s' : PS} (h : Calls Tryz.prog f args w fun e w' => e = .returned (.int .i64 x.1) ∧ RefS w' g x.2 ∧ Frm (at1 g) w w') (e : x = (n, s')) :
    Calls Tryz.prog f args w fun e w' => e = .returned (.int .i64 n) ∧ RefS w' g s' ∧ Frm (at1 g) w w' := by subst e; exact h
theorem ras_txt {f : FuncId} {args : Array Value} {w : World} {g : Nat} {x : List UInt8 × PS} {T : ByteArray} {s' : PS} (h : Calls Tryz.prog f args w fun e w' => e = .returned (str x.1) ∧ RefS w' g x.2 ∧ Frm (at1 g) w w') (e : x = (bts T, s')) :
    Calls Tryz.prog f args w fun e w' => e = .returned (.string T) ∧ RefS w' g s' ∧ Frm (at1 g) w w' := by
  subst e; rw [← str_bts]; exact h
theorem rnum8 (g : Nat) (s : PS) (w : World) (h : RefS w g s) : Calls Tryz.prog 43 #[ptr g, .int .i64 8] w fun e w' => e = .returned (.int .i64 (getNum 8 s).1) ∧ RefS w' g (getNum 8 s).2 ∧ Frm (at1 g) w w' := rnum_s g 8 s w h (by omega)
theorem rnum4 (g : Nat) (s : PS) (w : World) (h : RefS w g s) : Calls Tryz.prog 43 #[ptr g, .int .i64 4] w fun e w' => e = .returned (.int .i64 (getNum 4 s).1) ∧ RefS w' g (getNum 4 s).2 ∧ Frm (at1 g) w w' := rnum_s g 4 s w h (by omega)
theorem rnum1 (g : Nat) (s : PS) (w : World) (h : RefS w g s) : Calls Tryz.prog 43 #[ptr g, .int .i64 1] w fun e w' => e = .returned (.int .i64 (getNum 1 s).1) ∧ RefS w' g (getNum 1 s).2 ∧ Frm (at1 g) w w' := rnum_s g 1 s w h (by omega)
set_option maxRecDepth 100000 in
set_option maxHeartbeats 8000000 in
theorem rqread_any (b : ByteArray) (w : World) (hb : b.size ≤ 100000000) :
    Calls Tryz.prog 107 #[.string b] w fun e w' => ∃ V, e = .returned (.tuple #[.agg #[.int .i64 (okQ (bts b)).client, .int .i64 (okQ (bts b)).seq, V], .int .i64 (errQ (bts b))]) ∧
      w'.ownsRow w.heap.size 117 5 V (okQ (bts b)).cmds.length (flatCm (okQ (bts b)).cmds) ∧ Below w.heap.size w w' := by
  obtain ⟨i0, hi0, hz0, hz1, hz2⟩ := info_parts cmInfo
  obtain ⟨R, hR⟩ : ∃ R, R = rdQ (bts b) := ⟨_, rfl⟩
  obtain ⟨E, hE⟩ : ∃ E, E = errQ (bts b) := ⟨_, rfl⟩
  obtain ⟨O, hO⟩ : ∃ O, O = okQ (bts b) := ⟨_, rfl⟩
  rw [← hE, ← hO]
  have hE2 : E = if (endG R.fin).2 ≠ 0 then (endG R.fin).2 else if layQ R.client R.seq R.cmds = (b, 0) then 0 else 6 := by rw [hE, hR]; unfold errQ; rw [bs_bts]
  have hO2 : O = if E = 0 then R else ⟨0, 0, [], ([], 0)⟩ := by rw [hO, hE, hR]; rfl
  obtain ⟨c0, s1, e1⟩ : ∃ x s, getNum 8 (bts b, 0) = (x, s) := ⟨_, _, rfl⟩
  obtain ⟨q0, s2, e2⟩ : ∃ x s, getNum 8 s1 = (x, s) := ⟨_, _, rfl⟩
  obtain ⟨n0, s3, e3⟩ : ∃ x s, getNum 1 s2 = (x, s) := ⟨_, _, rfl⟩
  have hn0 := numByte s2
  rw [e3] at hn0
  simp only [] at hn0
  obtain ⟨n, rfl⟩ : ∃ n : Nat, n0 = (n : Int) := ⟨n0.toNat, by omega⟩
  have l1 := numLeft 8 (bts b, 0)
  have l2 := numLeft 8 s1
  have l3 := numLeft 1 s2
  rw [e1] at l1
  rw [e2] at l2
  rw [e3] at l3
  simp only [bts_len] at l1 l2 l3
  have hRR : R = ⟨c0, q0, (getCms n s3).1, (getCms n s3).2⟩ := by
    rw [hR]; unfold rdQ
    rw [e1]
    simp only []
    rw [e2]
    simp only []
    rw [e3]
    simp only [Int.toNat_natCast]
  have hc0 := numIn (n := 8) (by omega) (bts b, 0)
  have hq0 := numIn (n := 8) (by omega) s1
  rw [e1] at hc0
  rw [e2] at hq0
  simp only [] at hc0 hq0
  have hn255 : n < 256 := by omega
  have HE2 := Lib.hid hE2
  have HO2 := Lib.hid hO2
  have HRR := Lib.hid hRR
  have N1 := Lib.hid e1
  have N2 := Lib.hid e2
  have N3 := Lib.hid e3
  have HLS := Lib.hid (show s1.1.length ≤ b.size ∧ s2.1.length ≤ b.size ∧ s3.1.length ≤ b.size by omega)
  have HBZ := Lib.hid hb
  clear hE hO hR hE2 hO2 hRR e1 e2 e3 l1 l2 l3 hn0 hb
  have ba : Below w.heap.size w (w.alloc (.cells #[.int .i64 0, .int .i64 0, .slice none 0 0] 59)) := (Below.refl _ _).alloc (Nat.le_refl _) _
  have K0 := Blk.new w 59 #[.int .i64 0, .int .i64 0, .slice none 0 0]
  go_enter Tryz.func107, Tryz.ntmps107
  go_upto_region 2 with fail
  have hG0 : RefS ((w.alloc (.cells #[.int .i64 0, .int .i64 0, .slice none 0 0] 59)).alloc (.cells #[.string b, .int .i64 0] 94)) (w.heap.size + 1) (bts b, 0) := by
    have h := Blk.new (w.alloc (.cells #[.int .i64 0, .int .i64 0, .slice none 0 0] 59)) 94 #[.string b, .int .i64 0]
    have hs : (w.alloc (.cells #[.int .i64 0, .int .i64 0, .slice none 0 0] 59)).heap.size = w.heap.size + 1 := by simp
    rw [hs] at h
    unfold RefS
    rw [str_bts]
    exact h
  have K1 := K0.alloc (.cells #[.string b, .int .i64 0] 94)
  have B1 : Below w.heap.size w ((w.alloc (.cells #[.int .i64 0, .int .i64 0, .slice none 0 0] 59)).alloc (.cells #[.string b, .int .i64 0] 94)) := ba.alloc ba.size _
  generalize (w.alloc (.cells #[.int .i64 0, .int .i64 0, .slice none 0 0] 59)).alloc (.cells #[.string b, .int .i64 0] 94) = w1 at hG0 K1 B1 ⊢
  have G1 := hG0
  obtain ⟨gr, hgr⟩ : ∃ gr, gr = w.heap.size := ⟨_, rfl⟩
  rw [← hgr] at K1 G1 ⊢
  obtain ⟨gg, hgg⟩ : ∃ gg, gg = gr + 1 := ⟨_, rfl⟩
  rw [← hgg] at G1 ⊢
  have hrg : gr ≠ gg := by omega
  have hbg : w.heap.size ≤ gg := by omega
  have HGR := Lib.hid hgr
  clear hgr hG0 K0 ba hgg
  have C1 := Lib.hid (ras_num (rnum8 gg _ w1 G1) N1.out)
  go_upto_region 3 with (first
    | (go_at_call 43; with_reducible refine C2.out.mono ?_; rintro e w3 ⟨rfl, G3, F3⟩
       have K3 := K2.frm F3 (fun e => hrg e)
       have B3 : Below w.heap.size w w3 := below_frm B2 F3 (Nat.le_refl _) (fun i hi => by have h9 : i = gg := hi; omega))
    | (go_at_call 43; with_reducible refine C1.out.mono ?_; rintro e w2 ⟨rfl, G2, F2⟩
       have K2 := K1.frm F2 (fun e => hrg e)
       have B2 : Below w.heap.size w w2 := below_frm B1 F2 (Nat.le_refl _) (fun i hi => by have h9 : i = gg := hi; omega)
       have C2 := Lib.hid (ras_num (rnum8 gg _ w2 G2) N2.out)))
  have bq : Below w3.heap.size w3 (w3.alloc (.cells #[.int .i64 c0, .int .i64 q0, .slice none 0 0] 59)) := (Below.refl _ _).alloc (Nat.le_refl _) _
  have Q5 := Blk.new w3 59 #[.int .i64 c0, .int .i64 q0, .slice none 0 0]
  have G5 := G3.below bq
  have K5 := K3.below bq
  have B5 := B3.trans (bq.mono B3.size)
  have hqg : w3.heap.size ≠ gg := fun e => by have := G3.lt; omega
  have hqr : w3.heap.size ≠ gr := fun e => by have := K3.lt; omega
  have hqw : w.heap.size ≤ w3.heap.size := B3.size
  generalize w3.alloc (.cells #[.int .i64 c0, .int .i64 q0, .slice none 0 0] 59) = W5 at Q5 G5 K5 B5 ⊢
  obtain ⟨gq, hgq⟩ : ∃ gq, gq = w3.heap.size := ⟨_, rfl⟩
  rw [← hgq] at Q5 hqg hqr hqw ⊢
  clear C1 C2 G1 K1 B1 G2 K2 B2 F2 G3 K3 B3 F3 bq hgq
  have C3 := Lib.hid (ras_num (rnum1 gg _ W5 G5) N3.out)
  go_wp2_with (go_at_call 43; with_reducible refine C3.out.mono ?_; rintro e w6 ⟨rfl, G6, F6⟩
               have HG6 := Lib.hid G6
               have HQ6 := Lib.hid (Q5.frm F6 (fun e => hqg e))
               have HK6 := Lib.hid (K5.frm F6 (fun e => hrg e))
               have HB6 := Lib.hid (below_frm B5 F6 (Nat.le_refl _) (fun i hi => by have h9 : i = gg := hi; omega)))
  clear C3 Q5 G5 K5 B5 F6 G6
  go_loopw [7, 8] (fun u20 _ wr => ∃ (k : Nat) (V : Value), k ≤ n ∧ u20 = .int .i64 k ∧ Hid (RefS wr gg (getCms k s3).2) ∧ Hid (Blk wr gq 59 #[.int .i64 c0, .int .i64 q0, V]) ∧ Hid (Blk wr gr 59 #[.int .i64 0, .int .i64 0, .slice none 0 0]) ∧ Hid (wr.ownsRow w.heap.size 117 5 V k (flatCm (getCms k s3).1)) ∧ Hid (Below w.heap.size w wr)) (fun u20 _ _ => n - (intOf u20).toNat)
  case atStart => exact ⟨0, .slice none 0 0, by omega, rfl, HG6.out, HQ6.out, HK6.out, World.ownsRow_nil _ _ _ _, HB6.out⟩
  case round =>
    clear HG6 HQ6 HK6 HB6
    obtain ⟨k, V, hkn, rfl, HG, HQ, HK, HO, HB⟩ := hrel
    obtain ⟨sk, hsk⟩ : ∃ sk, sk = (getCms k s3).2 := ⟨_, rfl⟩
    rw [← hsk] at HG
    have hgc : wr.cell? ⟨gg, 1, none⟩ = some (.int .i64 sk.2) := HG.out.cell1
    by_cases hlt : k < n
    · have hki : (k : Int) < (n : Int) := by omega
      have dk : decide ((k : Int) < (n : Int)) = true := decide_eq_true hki
      by_cases herr : sk.2 = 0
      case neg =>
        have hq : sk.2 ≠ 0 := herr
        have hst : (getCms n s3).2 = sk := by rw [hsk]; exact cmsStuck hkn (by rw [← hsk]; exact hq)
        have hRR := HRR.out
        rw [hst] at hRR
        subst hRR
        have hE := HE2.out
        have hO := HO2.out
        simp only [] at hE hO
        rw [endStuck hq, if_pos hq] at hE
        have hO1 : O = ⟨0, 0, [], ([], 0)⟩ := by rw [hO, if_neg (by rw [hE]; exact hq)]
        have hEnd := rend_s gg sk wr HG.out
        rw [endStuck hq] at hEnd
        have HEnd := Lib.hid hEnd
        have hgrw : w.heap.size ≤ gr := by have := HGR.out; omega
        obtain ⟨xe, hxe⟩ : ∃ xe, xe = sk.2 := ⟨_, rfl⟩
        rw [← hxe] at hE hgc HEnd hq
        have hb : (xe != 0) = true := by simpa using hq
        have hb2 : (xe == 0) = false := by simpa using hq
        subst hE hO1
        clear hO HE2 HO2 HRR hEnd hxe hst hsk
        have HK1 := HK.out
        go_wp2_with (go_at_call 46; with_reducible refine HEnd.out.mono ?_; rintro e w9 ⟨rfl, G9, F9⟩
                     have K9 := HK1.frm F9 (fun e => hrg e)
                     have B9 : Below w.heap.size w w9 := below_frm HB.out F9 (Nat.le_refl _) (fun i hi => by have h9 : i = gg := hi; omega)
                     have r0 := K9.cell 0
                     have r1 := K9.cell 1
                     have r2 := K9.cell 2
                     have t0 := K9.free 0
                     have t1 := K9.free 1
                     have t2 := K9.free 2)
        refine bodyPost_ret (v := .tuple #[.agg #[.int .i64 0, .int .i64 0, .slice none 0 0], .int .i64 E]) (by rw [results_cell_tmp rfl]; go_simp <;> rfl) rfl ⟨.slice none 0 0, rfl, World.ownsRow_nil _ _ _ _, ?_⟩
        repeat (refine Below.setCell ?_ (by exact hgrw) _)
        exact B9
      rw [herr] at hgc
      obtain ⟨xs, hxs⟩ : ∃ xs, xs = (getCms k s3).1 := ⟨_, rfl⟩
      have lk := getCms_left k s3
      rw [← hsk] at lk
      rw [← hxs] at HO
      obtain ⟨x0, u1, e0⟩ : ∃ x s, getNum 1 sk = (x, s) := ⟨_, _, rfl⟩
      obtain ⟨T1, u2, e1⟩ : ∃ T s, getText u1 = (bts T, s) := ⟨bs (getText u1).1, (getText u1).2, by rw [bts_bs]⟩
      obtain ⟨T2, u3, e2⟩ : ∃ T s, getText u2 = (bts T, s) := ⟨bs (getText u2).1, (getText u2).2, by rw [bts_bs]⟩
      obtain ⟨T3, u4, e3⟩ : ∃ T s, getText u3 = (bts T, s) := ⟨bs (getText u3).1, (getText u3).2, by rw [bts_bs]⟩
      obtain ⟨T4, u5, e4⟩ : ∃ T s, getText u4 = (bts T, s) := ⟨bs (getText u4).1, (getText u4).2, by rw [bts_bs]⟩
      have hcm : getCm sk = (⟨x0, T1, T2, T3, T4⟩, u5) := by
        unfold getCm
        simp only [e0, e1, e2, e3, e4, bs_bts]
      have hnx : getCms (k + 1) s3 = (xs ++ [⟨x0, T1, T2, T3, T4⟩], u5) := by
        show ((getCms k s3).1 ++ [(getCm (getCms k s3).2).1], (getCm (getCms k s3).2).2) = _
        rw [← hxs, ← hsk, hcm]
      have m1 := numLeft 1 sk
      have m2 := textLeft u1
      have m3 := textLeft u2
      have m4 := textLeft u3
      rw [e0] at m1
      rw [e1] at m2
      rw [e2] at m3
      rw [e3] at m4
      simp only [] at m1 m2 m3 m4
      have HMS := Lib.hid (show sk.1.length ≤ 100000000 ∧ u1.1.length ≤ 100000000 ∧ u2.1.length ≤ 100000000 ∧ u3.1.length ≤ 100000000 ∧ u4.1.length ≤ 100000000 by have := HLS.out; have := HBZ.out; omega)
      have hx0 := numIn (n := 1) (by omega) sk
      rw [e0] at hx0
      simp only [] at hx0
      have HNX := Lib.hid hnx
      have E1 := Lib.hid e1
      have E2 := Lib.hid e2
      have E3 := Lib.hid e3
      have E4 := Lib.hid e4
      have C0 := Lib.hid (ras_num (rnum1 gg sk wr HG.out) e0)
      clear hsk hxs e0 e1 e2 e3 e4 hcm hnx lk m1 m2 m3 m4
      go_upto_region 8 with (go_at_call 43; with_reducible refine C0.out.mono ?_; rintro e w7 ⟨rfl, G7, F7⟩)
      have Q7 := HQ.out.frm F7 (fun e => hqg e)
      have K7 := HK.out.frm F7 (fun e => hrg e)
      have O7 := own_frm HO.out F7 (fun g hg h => by unfold at1 at h; subst h; exact Blk.own_ne HG.out HO.out (by decide) hg)
      have B7 := below_frm HB.out F7 (Nat.le_refl _) (fun i hi => by have h9 : i = gg := hi; omega)
      have bx : Below w7.heap.size w7 (w7.alloc (.cells #[.int .i64 x0, .string ⟨#[]⟩, .string ⟨#[]⟩, .string ⟨#[]⟩, .string ⟨#[]⟩] 117)) := (Below.refl _ _).alloc (Nat.le_refl _) _
      have X8 := Blk.new w7 117 #[.int .i64 x0, .string ⟨#[]⟩, .string ⟨#[]⟩, .string ⟨#[]⟩, .string ⟨#[]⟩]
      have G8 := G7.below bx
      have Q8 := Q7.below bx
      have K8 := K7.below bx
      have O8 := own_frm O7 (Frm.of_below bx (S := no)) (fun _ _ => id)
      have B8 := B7.trans (bx.mono B7.size)
      have hxg : w7.heap.size ≠ gg := fun e => by have := G7.lt; omega
      have hxq : w7.heap.size ≠ gq := fun e => by have := Q7.lt; omega
      have hxr : w7.heap.size ≠ gr := fun e => by have := K7.lt; omega
      have hxw : w.heap.size ≤ w7.heap.size := B7.size
      have hxo : ∀ g, V.ownBlock = some g → g ≠ w7.heap.size := fun g hg e => by have := (O7.lt g hg).2; omega
      generalize w7.alloc (.cells #[.int .i64 x0, .string ⟨#[]⟩, .string ⟨#[]⟩, .string ⟨#[]⟩, .string ⟨#[]⟩] 117) = W8 at X8 G8 Q8 K8 O8 B8 ⊢
      obtain ⟨cx, hcx⟩ : ∃ cx, cx = w7.heap.size := ⟨_, rfl⟩
      rw [← hcx] at X8 hxg hxq hxr hxw hxo ⊢
      clear hcx bx G7 Q7 K7 O7 B7 F7 C0 HG HQ HK HO HB
      have XW8 := X8
      have GW8 := G8
      have QW8 := Q8
      have KW8 := K8
      have OW8 := O8
      have BW8 := B8
      clear X8 G8 Q8 K8 O8 B8
      have C1 := Lib.hid (ras_txt (rtext_s gg u1 W8 GW8) E1.out)
      go_upto_region 9 with (go_at_call 44; with_reducible refine C1.out.mono ?_; rintro e v1 ⟨rfl, H1, f1⟩
                             have Y1 := XW8.frm f1 (fun e => hxg e)
                             have j1 := Y1.cell 1
                             have i1 := Y1.free 1)
      have FS1 : Frm (at1 cx) v1 (v1.setCell ⟨cx, 1, none⟩ (.string T1)) := (Frm.refl (at1 cx) v1).setCell (p := ⟨cx, 1, none⟩) (fun _ => rfl) _
      have XV1 : Blk (v1.setCell ⟨cx, 1, none⟩ (.string T1)) cx 117 #[.int .i64 x0, .string T1, .string ⟨#[]⟩, .string ⟨#[]⟩, .string ⟨#[]⟩] := by simpa using Y1.set_ 1 (.string T1)
      generalize v1.setCell ⟨cx, 1, none⟩ (.string T1) = V1 at FS1 XV1 ⊢
      have GV1 := H1.frm FS1 (fun e => hxg e.symm)
      have QV1 := (QW8.frm f1 (fun e => hqg e)).frm FS1 (fun e => hxq e.symm)
      have KV1 := (KW8.frm f1 (fun e => hrg e)).frm FS1 (fun e => hxr e.symm)
      have OV1 := own_frm (own_frm OW8 f1 (fun g hg h => by unfold at1 at h; subst h; exact Blk.own_ne GW8 OW8 (by decide) hg)) FS1 (fun g hg h => hxo g hg h)
      have BV1 : Below w.heap.size w V1 := below_frm (below_frm BW8 f1 (Nat.le_refl _) (fun i hi => by have h9 : i = gg := hi; omega)) FS1 (Nat.le_refl _) (fun i hi => by have h9 : i = cx := hi; omega)
      clear C1 H1 f1 Y1 j1 i1 FS1 GW8 QW8 KW8 OW8 BW8 XW8
      have C2 := Lib.hid (ras_txt (rtext_s gg u2 V1 GV1) E2.out)
      go_upto_region 10 with (go_at_call 44; with_reducible refine C2.out.mono ?_; rintro e v2 ⟨rfl, H2, f2⟩
                              have Y2 := XV1.frm f2 (fun e => hxg e)
                              have j2 := Y2.cell 2
                              have i2 := Y2.free 2)
      have FS2 : Frm (at1 cx) v2 (v2.setCell ⟨cx, 2, none⟩ (.string T2)) := (Frm.refl (at1 cx) v2).setCell (p := ⟨cx, 2, none⟩) (fun _ => rfl) _
      have XV2 : Blk (v2.setCell ⟨cx, 2, none⟩ (.string T2)) cx 117 #[.int .i64 x0, .string T1, .string T2, .string ⟨#[]⟩, .string ⟨#[]⟩] := by simpa using Y2.set_ 2 (.string T2)
      generalize v2.setCell ⟨cx, 2, none⟩ (.string T2) = V2 at FS2 XV2 ⊢
      have GV2 := H2.frm FS2 (fun e => hxg e.symm)
      have QV2 := (QV1.frm f2 (fun e => hqg e)).frm FS2 (fun e => hxq e.symm)
      have KV2 := (KV1.frm f2 (fun e => hrg e)).frm FS2 (fun e => hxr e.symm)
      have OV2 := own_frm (own_frm OV1 f2 (fun g hg h => by unfold at1 at h; subst h; exact Blk.own_ne GV1 OV1 (by decide) hg)) FS2 (fun g hg h => hxo g hg h)
      have BV2 : Below w.heap.size w V2 := below_frm (below_frm BV1 f2 (Nat.le_refl _) (fun i hi => by have h9 : i = gg := hi; omega)) FS2 (Nat.le_refl _) (fun i hi => by have h9 : i = cx := hi; omega)
      clear C2 H2 f2 Y2 j2 i2 FS2 GV1 QV1 KV1 OV1 BV1 XV1
      have C3 := Lib.hid (ras_txt (rtext_s gg u3 V2 GV2) E3.out)
      go_upto_region 11 with (go_at_call 44; with_reducible refine C3.out.mono ?_; rintro e v3 ⟨rfl, H3, f3⟩
                              have Y3 := XV2.frm f3 (fun e => hxg e)
                              have j3 := Y3.cell 3
                              have i3 := Y3.free 3)
      have FS3 : Frm (at1 cx) v3 (v3.setCell ⟨cx, 3, none⟩ (.string T3)) := (Frm.refl (at1 cx) v3).setCell (p := ⟨cx, 3, none⟩) (fun _ => rfl) _
      have XV3 : Blk (v3.setCell ⟨cx, 3, none⟩ (.string T3)) cx 117 #[.int .i64 x0, .string T1, .string T2, .string T3, .string ⟨#[]⟩] := by simpa using Y3.set_ 3 (.string T3)
      generalize v3.setCell ⟨cx, 3, none⟩ (.string T3) = V3 at FS3 XV3 ⊢
      have GV3 := H3.frm FS3 (fun e => hxg e.symm)
      have QV3 := (QV2.frm f3 (fun e => hqg e)).frm FS3 (fun e => hxq e.symm)
      have KV3 := (KV2.frm f3 (fun e => hrg e)).frm FS3 (fun e => hxr e.symm)
      have OV3 := own_frm (own_frm OV2 f3 (fun g hg h => by unfold at1 at h; subst h; exact Blk.own_ne GV2 OV2 (by decide) hg)) FS3 (fun g hg h => hxo g hg h)
      have BV3 : Below w.heap.size w V3 := below_frm (below_frm BV2 f3 (Nat.le_refl _) (fun i hi => by have h9 : i = gg := hi; omega)) FS3 (Nat.le_refl _) (fun i hi => by have h9 : i = cx := hi; omega)
      clear C3 H3 f3 Y3 j3 i3 FS3 GV2 QV2 KV2 OV2 BV2 XV2
      have C4 := Lib.hid (ras_txt (rtext_s gg u4 V3 GV3) E4.out)
      go_upto_region 12 with (go_at_call 44; with_reducible refine C4.out.mono ?_; rintro e v4 ⟨rfl, H4, f4⟩
                              have Y4 := XV3.frm f4 (fun e => hxg e)
                              have j4 := Y4.cell 4
                              have i4 := Y4.free 4)
      have FS4 : Frm (at1 cx) v4 (v4.setCell ⟨cx, 4, none⟩ (.string T4)) := (Frm.refl (at1 cx) v4).setCell (p := ⟨cx, 4, none⟩) (fun _ => rfl) _
      have XW : Blk (v4.setCell ⟨cx, 4, none⟩ (.string T4)) cx 117 #[.int .i64 x0, .string T1, .string T2, .string T3, .string T4] := by simpa using Y4.set_ 4 (.string T4)
      generalize v4.setCell ⟨cx, 4, none⟩ (.string T4) = W at FS4 XW ⊢
      have GW := H4.frm FS4 (fun e => hxg e.symm)
      have QW := (QV3.frm f4 (fun e => hqg e)).frm FS4 (fun e => hxq e.symm)
      have KW := (KV3.frm f4 (fun e => hrg e)).frm FS4 (fun e => hxr e.symm)
      have OW := own_frm (own_frm OV3 f4 (fun g hg h => by unfold at1 at h; subst h; exact Blk.own_ne GV3 OV3 (by decide) hg)) FS4 (fun g hg h => hxo g hg h)
      have BW : Below w.heap.size w W := below_frm (below_frm BV3 f4 (Nat.le_refl _) (fun i hi => by have h9 : i = gg := hi; omega)) FS4 (Nat.le_refl _) (fun i hi => by have h9 : i = cx := hi; omega)
      clear C4 H4 f4 Y4 j4 i4 FS4 GV3 QV3 KV3 OV3 BV3 XV3
      have X5 := XW
      have G5 := GW
      have Q5 := QW
      have K5 := KW
      have O5 := OW
      have B5 := BW
      clear XW GW QW KW OW BW
      have q2 : W.cell? ⟨gq, 2, none⟩ = some V := Q5.cell 2
      have x_0 : W.cell? ⟨cx, 0, none⟩ = some (.int .i64 x0) := X5.cell 0
      have x_1 : W.cell? ⟨cx, 1, none⟩ = some (.string T1) := X5.cell 1
      have x_2 : W.cell? ⟨cx, 2, none⟩ = some (.string T2) := X5.cell 2
      have x_3 : W.cell? ⟨cx, 3, none⟩ = some (.string T3) := X5.cell 3
      have x_4 : W.cell? ⟨cx, 4, none⟩ = some (.string T4) := X5.cell 4
      have hlo : w.heap.size ≤ W.heap.size := B5.size
      have RN : Rd (W.alloc (.cells #[.int .i64 x0, .string T1, .string T2, .string T3, .string T4] 117)) (some ⟨W.heap.size, 0, none⟩) [.int .i64 x0, .string T1, .string T2, .string T3, .string T4] := Rd.new W #[.int .i64 x0, .string T1, .string T2, .string T3, .string T4] 117
      clear X5
      go_wp2_with (first
        | (at_builtin
           refine wpList_app rfl (.tmp 50) (.tmp 52) 57 rfl w.heap.size 117 i0 _ 5 72 Tryz.underlying57 hi0 hz0 hz1 hz2 rfl (by omega) V k (flatCm xs) rfl (O5.alloc _) _ 1 1 [.int .i64 x0, .string T1, .string T2, .string T3, .string T4] rfl RN rfl (by simp [Value.oneCell']) (by unfold maxLen; omega) (by omega) (by simp; omega) ?_
           intro v9 w9 ho9 hg9 hb9 hat9
           obtain ⟨A9, c9, rfl, hc9⟩ := own_form ho9
           have Q9 := Blk.grown (Q5.alloc _) hg9 (Blk.own_ne Q5 O5 (by decide))
           have z9 := Q9.free 2
           have y9 := Q9.cell 2))
      have HFL : Hid (flatCm xs ++ [.int .i64 x0, .string T1, .string T2, .string T3, .string T4] = flatCm (xs ++ [⟨x0, T1, T2, T3, T4⟩])) := by
        unfold Hid; rw [flatCm_app]; rfl
      go_roundw
      case rel =>
        refine ⟨k + 1, .slice A9 (k + 1 : Nat) c9, by omega, by go_num, ?_, ?_, ?_, ?_, ?_⟩
        · rw [HNX.out]
          exact Blk.far (Blk.grown (Blk.alloc G5 _) hg9 (Blk.own_ne G5 O5 (by decide))) (p := ⟨gq, 2, none⟩) (fun e => hqg e.symm) _
        · show Blk _ _ _ _
          simpa using Q9.set_ 2 (.slice A9 (k + 1 : Nat) c9)
        · exact Blk.far (Blk.grown (Blk.alloc K5 _) hg9 (Blk.own_ne K5 O5 (by decide))) (p := ⟨gq, 2, none⟩) (fun e => hqr e.symm) _
        · rw [HNX.out]
          show World.ownsRow _ _ _ _ _ _ (flatCm (xs ++ [⟨x0, T1, T2, T3, T4⟩]))
          rw [← HFL.out]
          exact own_set Q9 ho9 (by decide) _
        · exact ((B5.alloc hlo _).trans hb9).setCell hqw _
      case measure => simp [intOf]; omega
    · have dk : decide ((k : Int) < (n : Int)) = false := decide_eq_false (by omega)
      obtain rfl : n = k := by omega
      obtain ⟨xs, hxs⟩ : ∃ xs, xs = (getCms n s3).1 := ⟨_, rfl⟩
      have hlen := getCms_len n s3
      have hgot := getCms_got n s3
      rw [← hxs] at HO hlen hgot
      have hshort : ∀ x ∈ xs, x.short := fun x hx => by
        have h1 := hgot x hx
        have h2 := HLS.out
        have h3 := HBZ.out
        unfold Cm.short maxLen
        omega
      have hRR := HRR.out
      rw [← hxs, ← hsk] at hRR
      subst hRR
      have hE := HE2.out
      have hO := HO2.out
      simp only [] at hE hO
      have HSH := Lib.hid hshort
      have HLN := Lib.hid hlen
      obtain ⟨A1, c1, rfl, hc1⟩ := own_form HO.out
      have hEnd := rend_s gg sk wr HG.out
      obtain ⟨sE, hsE⟩ : ∃ s, s = endG sk := ⟨_, rfl⟩
      rw [← hsE] at hEnd hE
      obtain ⟨lE, xE⟩ := sE
      simp only [] at hEnd hE
      have HEnd := Lib.hid hEnd
      clear hsE hEnd hsk hxs hlen hgot hshort HE2 HO2 HRR N1 N2 N3
      have HK1 := HK.out
      have HQ1 := HQ.out
      have hgrw : w.heap.size ≤ gr := by have := HGR.out; omega
      by_cases hx : xE = 0
      · subst hx
        rw [if_neg (by omega)] at hE
        obtain ⟨T, q, hTq⟩ : ∃ T q, layQ c0 q0 xs = (T, q) := ⟨_, _, rfl⟩
        rw [hTq] at hE
        have hqlay := fun W A c h1 => rqlay_any c0 q0 A n c xs W h1 HLN.out (by unfold maxLen; omega) HSH.out
        rw [hTq] at hqlay
        have HQL := Lib.hid hqlay
        unfold reqV at HQL
        clear hqlay hTq
        by_cases hq : q = 0
        · subst hq
          by_cases hT : T = b
          · subst hT
            rw [if_pos rfl] at hE
            have hO1 : O = ⟨c0, q0, xs, sk⟩ := by rw [hO, if_pos hE]
            have htt : (T.toList == T.toList) = true := by simp
            subst hE hO1
            clear hO
            go_wp2_with (first
              | (go_at_call 98; refine HL.out.mono ?_; rintro e w10 ⟨rfl, b10⟩
                 have K10 := K9.below b10
                 have Q10 := Q9.below b10
                 have O10 := own_frm O9 (Frm.of_below b10 (S := no)) (fun _ _ => id)
                 have B10 := B9.trans (b10.mono B9.size)
                 have r0 := K10.cell 0
                 have r1 := K10.cell 1
                 have r2 := K10.cell 2
                 have t0 := K10.free 0
                 have t1 := K10.free 1
                 have t2 := K10.free 2
                 have p0 := Q10.cell 0
                 have p1 := Q10.cell 1
                 have p2 := Q10.cell 2)
              | (go_at_call 46; with_reducible refine HEnd.out.mono ?_; rintro e w9 ⟨rfl, G9, F9⟩
                 have K9 := HK1.frm F9 (fun e => hrg e)
                 have Q9 := HQ1.frm F9 (fun e => hqg e)
                 have O9 := own_frm HO.out F9 (fun g hg h => by unfold at1 at h; subst h; exact Blk.own_ne HG.out HO.out (by decide) hg)
                 have B9 : Below w.heap.size w w9 := below_frm HB.out F9 (Nat.le_refl _) (fun i hi => by have h9 : i = gg := hi; omega)
                 have a0 := Q9.cell 0
                 have a1 := Q9.cell 1
                 have a2 := Q9.cell 2
                 have HL := Lib.hid (HQL.out w9 A1 c1 (Rd.of_own O9))))
            refine bodyPost_ret (v := .tuple #[.agg #[.int .i64 c0, .int .i64 q0, .slice A1 n c1], .int .i64 0]) (by rw [results_cell_tmp rfl]; go_simp <;> rfl) rfl ⟨.slice A1 n c1, rfl, ?_, ?_⟩
            · rw [HLN.out]
              exact own_set3q K10 O10 (by decide) _ _ _ _ _ _
            · repeat (refine Below.setCell ?_ (by exact hgrw) _)
              exact B10
          · have hE6 : E = 6 := by rw [hE, if_neg (fun e => hT (congrArg (fun x => x.1) e))]
            have hO1 : O = ⟨0, 0, [], ([], 0)⟩ := by rw [hO, if_neg (by rw [hE6]; decide)]
            have htt : (T.toList == b.toList) = false := by rw [str_beq, decide_eq_false_iff_not]; exact fun h => hT (bts_inj h)
            subst hE6 hO1
            clear hO hE
            go_wp2_with (first
              | (go_at_call 98; refine HL.out.mono ?_; rintro e w10 ⟨rfl, b10⟩
                 have K10 := K9.below b10
                 have Q10 := Q9.below b10
                 have O10 := own_frm O9 (Frm.of_below b10 (S := no)) (fun _ _ => id)
                 have B10 := B9.trans (b10.mono B9.size)
                 have r0 := K10.cell 0
                 have r1 := K10.cell 1
                 have r2 := K10.cell 2
                 have t0 := K10.free 0
                 have t1 := K10.free 1
                 have t2 := K10.free 2
                 have p0 := Q10.cell 0
                 have p1 := Q10.cell 1
                 have p2 := Q10.cell 2)
              | (go_at_call 46; with_reducible refine HEnd.out.mono ?_; rintro e w9 ⟨rfl, G9, F9⟩
                 have K9 := HK1.frm F9 (fun e => hrg e)
                 have Q9 := HQ1.frm F9 (fun e => hqg e)
                 have O9 := own_frm HO.out F9 (fun g hg h => by unfold at1 at h; subst h; exact Blk.own_ne HG.out HO.out (by decide) hg)
                 have B9 : Below w.heap.size w w9 := below_frm HB.out F9 (Nat.le_refl _) (fun i hi => by have h9 : i = gg := hi; omega)
                 have a0 := Q9.cell 0
                 have a1 := Q9.cell 1
                 have a2 := Q9.cell 2
                 have HL := Lib.hid (HQL.out w9 A1 c1 (Rd.of_own O9))))
            refine bodyPost_ret (v := .tuple #[.agg #[.int .i64 0, .int .i64 0, .slice none 0 0], .int .i64 6]) (by rw [results_cell_tmp rfl]; go_simp <;> rfl) rfl ⟨.slice none 0 0, rfl, World.ownsRow_nil _ _ _ _, ?_⟩
            repeat (refine Below.setCell ?_ (by exact hgrw) _)
            exact B10
        · have hE6 : E = 6 := by rw [hE, if_neg (fun e => hq (congrArg (fun x => x.2) e))]
          have hO1 : O = ⟨0, 0, [], ([], 0)⟩ := by rw [hO, if_neg (by rw [hE6]; decide)]
          have hb : (q != 0) = true := by simpa using hq
          subst hE6 hO1
          clear hO hE
          go_wp2_with (first
            | (go_at_call 98; refine HL.out.mono ?_; rintro e w10 ⟨rfl, b10⟩
               have K10 := K9.below b10
               have Q10 := Q9.below b10
               have O10 := own_frm O9 (Frm.of_below b10 (S := no)) (fun _ _ => id)
               have B10 := B9.trans (b10.mono B9.size)
               have r0 := K10.cell 0
               have r1 := K10.cell 1
               have r2 := K10.cell 2
               have t0 := K10.free 0
               have t1 := K10.free 1
               have t2 := K10.free 2
               have p0 := Q10.cell 0
               have p1 := Q10.cell 1
               have p2 := Q10.cell 2)
            | (go_at_call 46; with_reducible refine HEnd.out.mono ?_; rintro e w9 ⟨rfl, G9, F9⟩
               have K9 := HK1.frm F9 (fun e => hrg e)
               have Q9 := HQ1.frm F9 (fun e => hqg e)
               have O9 := own_frm HO.out F9 (fun g hg h => by unfold at1 at h; subst h; exact Blk.own_ne HG.out HO.out (by decide) hg)
               have B9 : Below w.heap.size w w9 := below_frm HB.out F9 (Nat.le_refl _) (fun i hi => by have h9 : i = gg := hi; omega)
               have a0 := Q9.cell 0
               have a1 := Q9.cell 1
               have a2 := Q9.cell 2
               have HL := Lib.hid (HQL.out w9 A1 c1 (Rd.of_own O9))))
          refine bodyPost_ret (v := .tuple #[.agg #[.int .i64 0, .int .i64 0, .slice none 0 0], .int .i64 6]) (by rw [results_cell_tmp rfl]; go_simp <;> rfl) rfl ⟨.slice none 0 0, rfl, World.ownsRow_nil _ _ _ _, ?_⟩
          repeat (refine Below.setCell ?_ (by exact hgrw) _)
          exact B10
      · rw [if_pos hx] at hE
        have hO1 : O = ⟨0, 0, [], ([], 0)⟩ := by rw [hO, if_neg (by rw [hE]; exact hx)]
        have hb : (xE != 0) = true := by simpa using hx
        subst hE hO1
        clear hO
        go_wp2_with (go_at_call 46; with_reducible refine HEnd.out.mono ?_; rintro e w9 ⟨rfl, G9, F9⟩
                     have K9 := HK1.frm F9 (fun e => hrg e)
                     have B9 : Below w.heap.size w w9 := below_frm HB.out F9 (Nat.le_refl _) (fun i hi => by have h9 : i = gg := hi; omega)
                     have r0 := K9.cell 0
                     have r1 := K9.cell 1
                     have r2 := K9.cell 2
                     have t0 := K9.free 0
                     have t1 := K9.free 1
                     have t2 := K9.free 2)
        refine bodyPost_ret (v := .tuple #[.agg #[.int .i64 0, .int .i64 0, .slice none 0 0], .int .i64 E]) (by rw [results_cell_tmp rfl]; go_simp <;> rfl) rfl ⟨.slice none 0 0, rfl, World.ownsRow_nil _ _ _ _, ?_⟩
        repeat (refine Below.setCell ?_ (by exact hgrw) _)
        exact B9
end Go.Proofs.YtgigkekajdgngaaGreat
