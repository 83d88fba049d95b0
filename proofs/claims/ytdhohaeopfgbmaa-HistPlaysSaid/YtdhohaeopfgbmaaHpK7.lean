/-
  HistPlays: a round, third stretch: what both tell. Conditions: as the stretch before leaves it.
-/
import Derived.Test.YtdhohaeopfgbmaaHpD
namespace Go.Proofs.Ytdhohaeopfgbmaa
open Go Go.RowKit
attribute [local go_sem] cell_set_if

set_option maxRecDepth 1000000 in
set_option maxHeartbeats 16000000 in
theorem hp_ph4 (i t : Int) (A0 : Option Addr) (n c0 : Nat) (a b m : Int) (w : World) (gl gr gb : Nat)
    (wr : World) (j N : Nat) (idx trm : Int) (es : List En) (v : Value) (rs : List En) (A : Option Addr) (c s : Nat) (HS : Hid (HPs w wr gl gr gb idx trm es v idx trm rs A c N s)) (HPL : Hid (es.map plE = rs.map plE)) (hmx : idx + es.length ≤ 1099511628508) (hle : es.length ≤ 732) (_hj : j < 60) (hN : N < 200) (x : OpH) (hn12 : (x.n : Int) ≤ 12)
    (go k0 : Nat) (B : Option Addr) (_z a' b' : Int) (news ys : List En) (g3 c3 : Nat) (HR : Hid (HRow w wr v go #[.int .i64 x.kind, .int .i64 a', .int .i64 b', .slice x.A x.n x.c, .bool x.own] B x.n k0 news g3 c3 ys)) (_HNL : Hid (news.length = x.n)) (_HIX : Hid (∀ q ∈ news, i64In q.index)) (HYL : Hid (ys.length = x.n)) (HYP : Hid (ys.map plE = news.map plE)) (hc3 : x.n + 1 ≤ c3) (_HA' : Hid (i64In a')) (Q : Exit → Act → World → Prop)
    (hQ : ∀ (s2 : Nat) (y : Act) (w' : World), (y.defers = [] ∧ y.tmps.size = 375 ∧ y.tmps[0]? = some (.int .i64 i) ∧ y.tmps[1]? = some (.int .i64 t) ∧ y.tmps[2]? = some (.slice A0 n c0) ∧ y.tmps[3]? = some (.int .i64 a) ∧ y.tmps[4]? = some (.int .i64 b) ∧ y.tmps[5]? = some (.int .i64 m) ∧ y.tmps[13]? = some (.pointer (some ⟨gl, 0, none⟩)) ∧ y.tmps[14]? = some (.pointer (some ⟨gr, 0, none⟩)) ∧ y.tmps[15]? = some (.pointer (some ⟨gb, 0, none⟩)) ∧ y.tmps[16]? = some (.int .i64 j)) → HPs w w' gl gr gb idx trm es v idx trm rs A c (N + 1) s2 → Q .normal y w')
    (y : Act) (hx : y.defers = [] ∧ y.tmps.size = 375 ∧ y.tmps[0]? = some (.int .i64 i) ∧ y.tmps[1]? = some (.int .i64 t) ∧ y.tmps[2]? = some (.slice A0 n c0) ∧ y.tmps[3]? = some (.int .i64 a) ∧ y.tmps[4]? = some (.int .i64 b) ∧ y.tmps[5]? = some (.int .i64 m) ∧ y.tmps[13]? = some (.pointer (some ⟨gl, 0, none⟩)) ∧ y.tmps[14]? = some (.pointer (some ⟨gr, 0, none⟩)) ∧ y.tmps[15]? = some (.pointer (some ⟨gb, 0, none⟩)) ∧ y.tmps[16]? = some (.int .i64 j) ∧ y.tmps[17]? = some (.pointer (some ⟨go, 0, none⟩)) ∧ y.tmps[18]? = some (.slice B x.n k0) ∧ y.tmps[21]? = some (.slice (some ⟨g3, 0, none⟩) x.n c3) ∧ y.tmps[22]? = some (.bool true)) : hpT8.wp Try.prog Q y wr := by
  obtain ⟨hd, hs, t0_, t1_, t2_, t3_, t4_, t5_, t13_, t14_, t15_, t16_, t17_, t18_, t21_, t22_⟩ := hx
  obtain ⟨f, rfl⟩ := hp_open _ hd hs
  have e0_ : f 0 = .int .i64 i := Option.some.inj t0_
  have e1_ : f 1 = .int .i64 t := Option.some.inj t1_
  have e2_ : f 2 = .slice A0 n c0 := Option.some.inj t2_
  have e3_ : f 3 = .int .i64 a := Option.some.inj t3_
  have e4_ : f 4 = .int .i64 b := Option.some.inj t4_
  have e5_ : f 5 = .int .i64 m := Option.some.inj t5_
  have e13_ : f 13 = .pointer (some ⟨gl, 0, none⟩) := Option.some.inj t13_
  have e14_ : f 14 = .pointer (some ⟨gr, 0, none⟩) := Option.some.inj t14_
  have e15_ : f 15 = .pointer (some ⟨gb, 0, none⟩) := Option.some.inj t15_
  have e16_ : f 16 = .int .i64 j := Option.some.inj t16_
  have e17_ : f 17 = .pointer (some ⟨go, 0, none⟩) := Option.some.inj t17_
  have e18_ : f 18 = .slice B x.n k0 := Option.some.inj t18_
  have e21_ : f 21 = .slice (some ⟨g3, 0, none⟩) x.n c3 := Option.some.inj t21_
  have e22_ : f 22 = .bool true := Option.some.inj t22_
  clear hd hs t0_ t1_ t2_ t3_ t4_ t5_ t13_ t14_ t15_ t16_ t17_ t18_ t21_ t22_
  rw [e0_, e1_, e2_, e3_, e4_, e5_, e13_, e14_, e15_, e16_, e17_, e18_, e21_, e22_]
  clear e0_ e1_ e2_ e3_ e4_ e5_ e13_ e14_ e15_ e16_ e17_ e18_ e21_ e22_
  conv => arg 2; whnf
  have HQ := Lib.hid hQ
  clear hQ
  have hlen : es.length = rs.length := by have h := congrArg List.length HPL.out; simpa only [List.length_map] using h
  have hsame : SameT (ents es) (ents rs) := pl_same HPL.out
  have hel := ents_len es
  have hi0_ : 0 ≤ idx := HS.out.L.L.i0
  have hSL := slice_gen wr w.heap.size gl idx trm es v a m HS.out.L (by omega)
  obtain ⟨S9, hS9⟩ : ∃ S9, S9 = sliceN idx es a m := ⟨_, rfl⟩
  rw [← hS9] at hSL
  have hS9l : S9.length ≤ 732 := by have h := sliceN_len idx es a m; rw [← hS9] at h; omega
  have HSL := Lib.hid hSL
  have hTM := fun (W : World) (h : LogM W w.heap.size gl idx trm es v) => term_any W w.heap.size gl idx trm (ents es) v a h.L
  have hRT := fun (W : World) (h : RefM W w.heap.size gr idx trm rs A c) => rat_m W w.heap.size gr idx trm rs A c a h
  rw [← termE_same hsame] at hRT
  obtain ⟨T0, hT0⟩ : ∃ T0, T0 = (termE idx trm (ents es) a).getD 0 := ⟨_, rfl⟩
  obtain ⟨O0, hO0⟩ : ∃ O0, O0 = (termE idx trm (ents es) a).isSome := ⟨_, rfl⟩
  rw [← hT0, ← hO0] at hTM hRT
  have HTM := Lib.hid hTM
  have HRT := Lib.hid hRT
  have HHL := Lib.hid hlen
  have HHS := Lib.hid hsame
  have HS9E := Lib.hid hS9
  clear hSL hTM hRT hlen hsame hT0 hO0 hS9
  go_upto_region 46 with (first
    | (go_at_call 22
       with_reducible refine HSL.out.mono ?_
       rintro e w4 ⟨⟨A4, n4, c4, y4, hn4, rfl, ho4, hp4, hm4⟩, b4⟩
       have hn4l : n4 ≤ 732 := by have h := congrArg List.length hp4; simp only [List.length_map] at h; omega
       have HR4 := Lib.hid (HR.out.below b4)
       have HH4 := Lib.hid (HS.out.below b4)
       have HEN := Lib.hid (hp_entries HH4.out (by omega) A4 n4 c4 y4 hn4 (by omega) (own_base ho4 HS.out.B.size) (fun z hz => (hm4 z hz).low HS.out.B.size) (fun k hk => by
         have h1 := (ho4.lt k hk).1
         have h2 := HS.out.sl
         refine ⟨by omega, fun e => ?_⟩
         have h3 := (HS.out.L.L.own.lt k e).2
         omega)))
    | (go_at_call 21
       with_reducible refine HEN.out.mono ?_
       rintro e w7 ⟨rfl, H7, S7, F7, T7⟩))
  have HR7 := Lib.hid (HR4.out.frm F7 T7 (by decide) (by decide) (by decide))
  have HH7 := Lib.hid H7
  have HO7 := Lib.hid (own_frm_ty ho4 F7 T7 (by decide))
  have HM7 : Hid (∀ q ∈ y4, q.mine w7 wr.heap.size) := fun q hq => (hm4 q hq).frm F7 T7 (by decide)
  obtain ⟨s7, hs7⟩ : ∃ s7, s7 = w7.heap.size := ⟨_, rfl⟩
  have HP4 := Lib.hid hp4
  have HN4 := Lib.hid hn4
  have HW7 : Hid (HPs w w7 gl gr gb idx trm es v idx trm rs A c (N + 1) s7) := by rw [hs7]; exact HH7.out
  clear H7 F7 T7 ho4 hm4 b4 hp4 hn4 HH4 HR4 HEN HH7 hs7
  go_upto_region 48 with (first
    | (go_at_call 23
       with_reducible refine (HTM.out _ HW7.out.L).mono ?_
       rintro e w8 ⟨rfl, q8⟩)
    | (go_at_call 9
       with_reducible refine (HRT.out _ (HW7.out.R.qt q8)).mono ?_
       rintro e w9 ⟨rfl, q9⟩))
  have q79 := q8.trans q9
  have HW := Lib.hid (HW7.out.qt q79)
  have HRW := Lib.hid (HR7.out.qt q79)
  have HOW := Lib.hid (own_frm HO7.out (S := no) (Frm.of_below (q79.below _)) (fun _ _ h => h))
  have HMW : Hid (∀ q ∈ y4, q.has w9) := fun q hq => ((HM7.out q hq).below (q79.below _)).has
  clear q8 q9 q79 HW7 HR7 HO7 HM7 HTM HRT
  have hlen := HHL.out
  have hsame := HHS.out
  have hST : ∀ W, Qt w9 W → Calls Try.prog 24 #[.slice (some ⟨g3, 0, none⟩) x.n c3, .slice B x.n k0] W fun e w' => e = .returned (.bool true) ∧ Qt W w' := fun W q => staysEn_any B g3 x.n c3 k0 ys news W (Rd.of_own (HRW.out.qt q).lent) (Rd.of_own (HRW.out.qt q).row) HYL.out hc3 (by omega) HYP.out (fun z hz => ((HRW.out.qt q).lm z hz).has) (fun z hz => (HRW.out.old z hz).below (HW.out.qt q).B)
  have hFI := fun (W : World) (q : Qt w9 W) => histfirst_any W w.heap.size gl idx trm (ents es) v (HW.out.qt q).L.L
  have hLA := fun (W : World) (q : Qt w9 W) => last_any W w.heap.size gl idx trm (ents es) v (HW.out.qt q).L.L
  have hRLA := fun (W : World) (q : Qt w9 W) => rlast_m W w.heap.size gr idx trm rs A c (HW.out.qt q).R
  rw [hel] at hLA
  rw [← hlen] at hRLA
  have hLT := fun (W : World) (q : Qt w9 W) => lastterm_any W w.heap.size gl idx trm (ents es) v (HW.out.qt q).L.L
  have hRLT := fun (W : World) (q : Qt w9 W) => rlastterm_m W w.heap.size gr idx trm rs A c (HW.out.qt q).R
  rw [← lastT_same hsame] at hRLT
  obtain ⟨L9, hL9⟩ : ∃ L9, L9 = lastT trm (ents es) := ⟨_, rfl⟩
  rw [← hL9] at hLT hRLT
  have hHA := fun (W : World) (q : Qt w9 W) => has_any W w.heap.size gl idx trm (ents es) v a b (HW.out.qt q).L.L
  have hRHA := fun (W : World) (q : Qt w9 W) => rhas_m W w.heap.size gr idx trm rs A c a b (HW.out.qt q).R
  rw [← hasB_same hsame] at hRHA
  obtain ⟨D9, hD9⟩ : ∃ D9, D9 = hasB idx trm (ents es) a b := ⟨_, rfl⟩
  rw [← hD9] at hHA hRHA
  have hBA := fun (W : World) (q : Qt w9 W) => back_any W w.heap.size gl idx trm (ents es) v a b (HW.out.qt q).L.L
  have hRBA := fun (W : World) (q : Qt w9 W) => rback_m W w.heap.size gr idx trm rs A c a b (HW.out.qt q).R
  rw [← backV_same hsame] at hRBA
  obtain ⟨K9, hK9⟩ : ∃ K9, K9 = backV idx trm (ents es) a b := ⟨_, rfl⟩
  rw [← hK9] at hBA hRBA
  have hNE := fun (W : World) (q : Qt w9 W) => newer_any W w.heap.size gl idx trm (ents es) v a b (HW.out.qt q).L.L
  have hRNE := fun (W : World) (q : Qt w9 W) => rnewer_m W w.heap.size gr idx trm rs A c a b (HW.out.qt q).R
  rw [← newerB_same hsame] at hRNE
  obtain ⟨N9, hN9⟩ : ∃ N9, N9 = newerB idx trm (ents es) a b := ⟨_, rfl⟩
  rw [← hN9] at hNE hRNE
  have hRS := fun (W : World) (q : Qt w9 W) => rslice_m W w.heap.size gr idx trm rs A c (HW.out.qt q).R a m
  obtain ⟨G9, hG9⟩ : ∃ G9, G9 = sliceN idx rs a m := ⟨_, rfl⟩
  rw [← hG9] at hRS
  have hyg : y4.map plE = G9.map plE := by rw [HP4.out, HS9E.out, hG9, sliceN_pl HPL.out]
  have hgo_ : ∀ q ∈ G9, q.has w := fun q hq => HW.out.old q (sliceN_mem (by rw [← hG9]; exact hq))
  have r0 := HW.out.R.blk.cell 0
  have hR0 : ∀ W, Qt w9 W → W.cell? ⟨gr, 0, none⟩ = some (.int .i64 idx) := fun W q => ((q.below w9.heap.size).cell (p := ⟨gr, 0, none⟩) HW.out.R.blk.lt).trans r0
  have HST := Lib.hid hST
  have HFI := Lib.hid hFI
  have HLA := Lib.hid hLA
  have HRLA := Lib.hid hRLA
  have HLT := Lib.hid hLT
  have HRLT := Lib.hid hRLT
  have HHA := Lib.hid hHA
  have HRHA := Lib.hid hRHA
  have HBA := Lib.hid hBA
  have HRBA := Lib.hid hRBA
  have HNE := Lib.hid hNE
  have HRNE := Lib.hid hRNE
  have HRS := Lib.hid hRS
  have HR0 := Lib.hid hR0
  have q0 : Qt w9 w9.drew := ⟨1, rfl⟩
  have rd : w9.drew.cell? ⟨gr, 0, none⟩ = some (.int .i64 idx) := r0
  have HWI : Hid (IntKind.i64.wrap (idx + 1) = idx + 1) := IntWalk.i64_in _ (by omega)
  have hwi := HWI.out
  have oo : (O0 != O0) = false := by simp
  have dd : (D9 != D9) = false := by simp
  have nn : (N9 != N9) = false := by simp
  clear hST hFI hLA hRLA hLT hRLT hHA hRHA hBA hRBA hNE hRNE hRS hR0 hL9 hD9 hK9 hN9 hG9 hlen hsame hel r0
  have HSA : Hid (∀ (W u : World) (A' : Option Addr) (n' c' : Nat), Qt w9 W → G9.length = n' → u.ownsRow W.heap.size 53 5 (.slice A' n' c') n' (flatEn G9) → Below W.heap.size W u → Calls Try.prog 20 #[.slice A4 n4 c4, .slice A' n' c'] u fun e w' => e = .returned (.bool true) ∧ Qt u w') := fun W u A' n' c' q hn' ho' hb => by
    obtain rfl : n4 = n' := by have h := congrArg List.length hyg; simp only [List.length_map] at h; have := HN4.out; omega
    have hbb : Below w9.heap.size w9 u := (q.below _).trans (hb.mono (q.below w9.heap.size).size)
    exact sameens_yes A4 A' n4 c4 c' y4 G9 u (Rd.of_own (own_frm HOW.out (S := no) (Frm.of_below hbb) (fun _ _ h => h))) (Rd.of_own ho') HN4.out (by omega) hyg (fun z hz => (HMW.out z hz).below hbb) (fun z hz => (hgo_ z hz).below (HW.out.below hbb).B)
  have HRB : Hid (∀ W u : World, Qt w9 W → Below W.heap.size W u → u.cell? ⟨gr, 0, none⟩ = some (.int .i64 idx)) := fun W u q hb => (hb.cell (p := ⟨gr, 0, none⟩) (Nat.lt_of_lt_of_le HW.out.R.blk.lt (q.below w9.heap.size).size)).trans (HR0.out W q)
  have HRC : Hid (∀ W u u' : World, Qt w9 W → Below W.heap.size W u → Qt u u' → u'.cell? ⟨gr, 0, none⟩ = some (.int .i64 idx)) := fun W u u' q hb q' => HRB.out W u' q (hb.trans (q'.below _))
  clear hyg hgo_ HHL HHS HS9E HP4
  go_upto_region 48 with fail
  dsimp only [List.append]
  refine wp_region_noPanic ?_
  go_region_held3 (fun W => W.cell? ⟨gr, 0, none⟩ = some (.int .i64 idx)) (with_reducible assumption)
    (first
        | (go_at_call 24
           with_reducible refine (HST.out _ q0).mono ?_
           rintro e u0 ⟨rfl, p0⟩
           have q1 := q0.trans p0
           have r0 := HR0.out _ q1)
        | (go_at_call 25
           with_reducible refine (HFI.out _ q1).mono ?_
           rintro e u1 ⟨rfl, p1⟩
           have q2 := q1.trans p1
           have r1 := HR0.out _ q2)
        | (go_at_call 26
           with_reducible refine (HLA.out _ q2).mono ?_
           rintro e u2 ⟨rfl, p2⟩
           have q3 := q2.trans p2
           have r2 := HR0.out _ q3)
        | (go_at_call 8
           with_reducible refine (HRLA.out _ q3).mono ?_
           rintro e u3 ⟨rfl, p3⟩
           have q4 := q3.trans p3
           have r3 := HR0.out _ q4)
        | (go_at_call 27
           with_reducible refine (HLT.out _ q4).mono ?_
           rintro e u4 ⟨rfl, p4⟩
           have q5 := q4.trans p4
           have r4 := HR0.out _ q5)
        | (go_at_call 10
           with_reducible refine (HRLT.out _ q5).mono ?_
           rintro e u5 ⟨rfl, p5⟩
           have q6 := q5.trans p5
           have r5 := HR0.out _ q6)
        | (go_at_call 28
           with_reducible refine (HHA.out _ q6).mono ?_
           rintro e u6 ⟨rfl, p6⟩
           have q7 := q6.trans p6
           have r6 := HR0.out _ q7)
        | (go_at_call 29
           with_reducible refine (HRHA.out _ q7).mono ?_
           rintro e u7 ⟨rfl, p7⟩
           have q8 := q7.trans p7
           have r7 := HR0.out _ q8)
        | (go_at_call 30
           with_reducible refine (HBA.out _ q8).mono ?_
           rintro e u8 ⟨rfl, p8⟩
           have q9 := q8.trans p8
           have r8 := HR0.out _ q9)
        | (go_at_call 31
           with_reducible refine (HRBA.out _ q9).mono ?_
           rintro e u9 ⟨rfl, p9⟩
           have q10 := q9.trans p9
           have r9 := HR0.out _ q10)
        | (go_at_call 32
           with_reducible refine (HNE.out _ q10).mono ?_
           rintro e u10 ⟨rfl, p10⟩
           have q11 := q10.trans p10
           have r10 := HR0.out _ q11)
        | (go_at_call 33
           with_reducible refine (HRNE.out _ q11).mono ?_
           rintro e u11 ⟨rfl, p11⟩
           have q12 := q11.trans p11
           have r11 := HR0.out _ q12)
        | (go_at_call 34
           with_reducible refine (HRS.out _ q12).mono ?_
           rintro e u12 ⟨⟨A12, n12, c12, hn12', rfl, ho12⟩, b12⟩
           have r12 := HRB.out _ _ q12 b12
           have HSE := Lib.hid (HSA.out _ u12 A12 n12 c12 q12 hn12' ho12 b12))
        | (go_at_call 20
           with_reducible refine HSE.out.mono ?_
           rintro e u13 ⟨rfl, p13⟩
           have r13 := HRC.out _ _ _ q12 b12 p13))
  have HB : Hid (Below w9.heap.size w9 u13) := ((q12.below w9.heap.size).trans (b12.mono (q12.below w9.heap.size).size)).trans (p13.below _)
  clear rd hwi r0 r1 r2 r3 r4 r5 r6 r7 r8 r9 r10 r11 r12 r13
  refine NoPanic.normal ?_
  go_wp2
  refine HQ.out s7 _ _ ?_ (HW.out.below HB.out)
  exact ⟨rfl, rfl, rfl, rfl, rfl, rfl, rfl, rfl, rfl, rfl, rfl, rfl⟩
end Go.Proofs.Ytdhohaeopfgbmaa
