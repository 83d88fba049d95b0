/-
  The document's entry, read. Condition: bytes that memory holds.
-/
import Derived.Test.YtgigkekajdgngaaGreatRefCmdC
import Derived.Test.YtgigkekajdgngaaGreatCmdF
namespace Go.Proofs.YtgigkekajdgngaaGreat
open Go Go.RowKit
attribute [local go_sem] cell_set_if

theorem getNum_full {n : Nat} {l : List UInt8} (h : n ≤ l.length) : getNum n (l, 0) = (sgn64 (numL (l.take n)), (l.drop n, 0)) := by
  unfold getNum getRaw
  rw [if_pos rfl, if_neg (by omega), if_neg (by simp only []; omega), Int.toNat_natCast]
theorem getNum_short {n : Nat} {l : List UInt8} (h : l.length < n) : (getNum n (l, 0)).2 = (l, 5) := by
  unfold getNum getRaw
  rw [if_pos rfl, if_neg (by omega), if_pos (by simp only []; omega)]
theorem errE_short {l : List UInt8} (h : l.length < 8) : errE l = 5 := by
  have hr : (restE l).2 = 5 := by
    unfold restE
    by_cases h4 : l.length < 4
    · have h5 : ((l, (5 : Int)) : PS).2 ≠ 0 := by show (5 : Int) ≠ 0; decide
      rw [getNum_short h4, numStuck h5]
    · rw [getNum_full (by omega)]
      simp only []
      rw [getNum_short (by rw [List.length_drop]; omega)]
  unfold errE
  rw [hr, if_pos (by decide)]
set_option maxRecDepth 100000 in
set_option maxHeartbeats 8000000 in
theorem reread_any (b : ByteArray) (w : World) (hb : b.size ≤ 100000000) :
    Calls Tryz.prog 45 #[.string b] w fun e w' => ∃ A c, e = .returned (.tuple #[(okE (bts b) A c).v, .int .i64 (errE (bts b))]) ∧
      w'.ownsRow w.heap.size 117 5 (okE (bts b) A c).row (okE (bts b) A c).cmds.length (flatCm (okE (bts b) A c).cmds) ∧ Below w.heap.size w w' := by
  obtain ⟨E, hE⟩ : ∃ E, E = errE (bts b) := ⟨_, rfl⟩
  obtain ⟨O, hO⟩ : ∃ O, O = okE (bts b) := ⟨_, rfl⟩
  rw [← hE, ← hO]
  have hbi : (b.size : Int) ≤ 100000000 := by omega
  have ba : Below w.heap.size w (w.alloc (.cells #[.int .i64 0, .int .i64 0, .int .i64 0, .int .i64 0, .slice none 0 0] 61)) := (Below.refl _ _).alloc (Nat.le_refl _) _
  have K0 := Blk.new w 61 #[.int .i64 0, .int .i64 0, .int .i64 0, .int .i64 0, .slice none 0 0]
  by_cases h8 : b.size < 8
  · have hE5 : E = 5 := by rw [hE]; exact errE_short (by rw [bts_len]; exact h8)
    have hO1 : O none 0 = enZ := by rw [hO]; unfold okE; rw [← hE, if_neg (by rw [hE5]; decide)]
    have HO1 := Lib.hid hO1
    have d8 : decide ((b.size : Int) < 8) = true := decide_eq_true (by omega)
    subst hE5
    clear hO hO1 hE
    have r0 := K0.cell 0
    have r1 := K0.cell 1
    have r2 := K0.cell 2
    have r3 := K0.cell 3
    have r4 := K0.cell 4
    have t0 := K0.free 0
    have t1 := K0.free 1
    have t2 := K0.free 2
    have t3 := K0.free 3
    have t4 := K0.free 4
    go_enter Tryz.func45, Tryz.ntmps45
    go_wp2
    refine bodyPost_ret (v := .tuple #[.agg #[.int .i64 0, .int .i64 0, .int .i64 0, .int .i64 0, .slice none 0 0], .int .i64 5]) (by rw [results_cell_tmp rfl]; go_simp <;> rfl) rfl ⟨none, 0, by rw [HO1.out]; rfl, by rw [HO1.out]; exact World.ownsRow_nil _ _ _ _, ?_⟩
    repeat (refine Below.setCell ?_ (by exact Nat.le_refl _) _)
    exact ba
  have d8 : decide ((b.size : Int) < 8) = false := decide_eq_false (by omega)
  obtain ⟨l2, hl2e⟩ : ∃ l2, l2 = (bts b).drop 8 := ⟨_, rfl⟩
  obtain ⟨m0, hm0⟩ : ∃ m, m = numL ((bts b).take 4) := ⟨_, rfl⟩
  obtain ⟨m1, hm1⟩ : ∃ m, m = numL (((bts b).drop 4).take 4) := ⟨_, rfl⟩
  have hlb : (bts b).length = b.size := bts_len b
  have hm04 : m0 < 4294967296 := by rw [hm0]; exact num_take (bts b) 4
  have hm14 : m1 < 4294967296 := by rw [hm1]; exact num_take ((bts b).drop 4) 4
  have e1 : getNum 4 (bts b, 0) = ((m0 : Int), ((bts b).drop 4, 0)) := by
    rw [getNum_full (by omega), ← hm0]; unfold sgn64; rw [if_pos (by omega)]
  have e2 : getNum 4 ((bts b).drop 4, 0) = ((m1 : Int), (l2, 0)) := by
    rw [getNum_full (by rw [List.length_drop]; omega), ← hm1, List.drop_drop, ← hl2e]; unfold sgn64; rw [if_pos (by omega)]
  have hrest : restE (bts b) = (l2, 0) := by unfold restE; rw [e1]; simp only []; rw [e2]
  have hO2 : ∀ A c, O A c = if E = 0 then ⟨m0, m1, (rdQ l2).client, (rdQ l2).seq, A, (rdQ l2).cmds.length, c, (rdQ l2).cmds⟩ else enZ := fun A c => by
    rw [hO, hE]; unfold okE enQ; rw [hrest, e1]; simp only []; rw [e2]
  have hE2 : E = if errQ l2 ≠ 0 then errQ l2 else if layE ⟨m0, m1, (rdQ l2).client, (rdQ l2).seq, none, 0, 0, (rdQ l2).cmds⟩ = (b, 0) then 0 else 6 := by
    rw [hE]; unfold errE enQ; rw [hrest, bs_bts, e1]; simp only []; rw [e2, if_neg (by decide)]
  have hl2 : l2.length ≤ 100000000 := by rw [hl2e, List.length_drop]; omega
  obtain ⟨b2, hb2⟩ : ∃ b2, b2 = b.extract 8 b.size := ⟨_, rfl⟩
  obtain ⟨b3, hb3⟩ : ∃ b3, b3 = b.extract 0 4 := ⟨_, rfl⟩
  obtain ⟨b4, hb4⟩ : ∃ b4, b4 = b.extract 4 8 := ⟨_, rfl⟩
  have hbb : bts b2 = l2 := by rw [hb2, bts_extract, hl2e, ← hlb, List.take_length]
  have hb3s : b3.size ≤ 8 := by rw [hb3, ByteArray.size_extract]; omega
  have hb4s : b4.size ≤ 8 := by rw [hb4, ByteArray.size_extract]; omega
  have hn3 : numL (bts b3) = m0 := by rw [hb3, bts_extract, hm0]; rfl
  have hn4 : numL (bts b4) = m1 := by rw [hb4, bts_extract, hm1, List.drop_take]
  have hc3 := fun W => refnum_any b3 W hb3s
  have hc4 := fun W => refnum_any b4 W hb4s
  rw [hn3, hb3] at hc3
  rw [hn4, hb4] at hc4
  have C3 := Lib.hid hc3
  have C4 := Lib.hid hc4
  have hcq := fun W => rqread_any b2 W (by rw [← bts_len, hbb]; exact hl2)
  rw [hbb, hb2] at hcq
  obtain ⟨q, hq⟩ : ∃ q, q = errQ l2 := ⟨_, rfl⟩
  have hokq : okQ l2 = if q = 0 then rdQ l2 else ⟨0, 0, [], ([], 0)⟩ := by rw [hq]; rfl
  rw [← hq] at hE2 hcq
  obtain ⟨P, hP⟩ : ∃ P, P = okQ l2 := ⟨_, rfl⟩
  rw [← hP] at hcq hokq
  obtain ⟨np, hnp⟩ : ∃ np, np = P.cmds.length := ⟨_, rfl⟩
  rw [← hnp] at hcq
  have HCQ := Lib.hid hcq
  have HNP := Lib.hid hnp
  have HOKQ := Lib.hid hokq
  have HEE := Lib.hid hE2
  have HOO := Lib.hid hO2
  have w0 : IntKind.i64.wrap (m0 : Int) = (m0 : Int) := IntWalk.i64_in _ (by omega)
  have w1 : IntKind.i64.wrap (m1 : Int) = (m1 : Int) := IntWalk.i64_in _ (by omega)
  have hbs8 : (8 : Int) ≤ (b.size : Int) := by omega
  have hbs4 : (4 : Int) ≤ (b.size : Int) := by omega
  clear hE hO hE2 hO2 e1 e2 hrest hb2 hb3 hb4 hbb hb3s hb4s hn3 hn4 hc3 hc4 hcq hq hokq hP hnp hl2e hm0 hm1 hlb
  go_enter Tryz.func45, Tryz.ntmps45
  go_upto_region 3 with fail
  obtain ⟨gr, hgr⟩ : ∃ gr, gr = w.heap.size := ⟨_, rfl⟩
  rw [← hgr] at K0 ⊢
  have hgrw : w.heap.size ≤ gr := by omega
  have HB0 := Lib.hid ba
  generalize w.alloc (.cells #[.int .i64 0, .int .i64 0, .int .i64 0, .int .i64 0, .slice none 0 0] 61) = W0 at K0 HB0 ba ⊢
  have HK0 := Lib.hid K0
  clear hgr K0 ba
  go_upto_region 4 with (go_at_call 107; refine (HCQ.out _).mono ?_; rintro e w9 ⟨V, rfl, ho9, b9⟩
                         obtain ⟨A1, c1, rfl, hc1⟩ := own_form ho9)
  have K9 := HK0.out.below b9
  have B9 : Below w.heap.size w w9 := HB0.out.trans (b9.mono HB0.out.size)
  have O9 := own_base ho9 HB0.out.size
  have bk : Below w9.heap.size w9 (w9.alloc (.cells #[.int .i64 P.client, .int .i64 P.seq, .slice A1 np c1] 59)) := (Below.refl _ _).alloc (Nat.le_refl _) _
  have R9 := Blk.new w9 59 #[.int .i64 P.client, .int .i64 P.seq, .slice A1 np c1]
  have K10 := K9.below bk
  have B10 := B9.trans (bk.mono B9.size)
  have O10 := own_frm O9 (Frm.of_below bk (S := no)) (fun _ _ => id)
  have hkr : w9.heap.size ≠ gr := fun e => by have := K9.lt; omega
  generalize w9.alloc (.cells #[.int .i64 P.client, .int .i64 P.seq, .slice A1 np c1] 59) = W at R9 K10 B10 O10 ⊢
  obtain ⟨gk, hgk⟩ : ∃ gk, gk = w9.heap.size := ⟨_, rfl⟩
  rw [← hgk] at R9 hkr ⊢
  clear hgk bk K9 B9 O9 ho9 b9 HCQ HK0 HB0
  have hokq := HOKQ.out
  have hE := HEE.out
  have hO := HOO.out
  clear HOKQ HEE HOO
  by_cases hq0 : q = 0
  · subst hq0
    rw [if_pos rfl] at hokq
    rw [← hokq] at hE
    simp only [← hokq] at hO
    have hsh : ∀ x ∈ P.cmds, x.short := by rw [hokq]; exact rdQ_short hl2
    have hnp255 : np ≤ 255 := by rw [HNP.out, hokq]; exact rdQ_few l2
    obtain ⟨cl, sq, cm, fi⟩ := P
    simp only [] at hE hO hsh HNP R9 O10 ⊢
    rw [if_neg (by omega)] at hE
    have HEE := Lib.hid hE
    have HOO := Lib.hid hO
    clear hE hO hokq
    have SK : W.cell? ⟨gk, 0, none⟩ = some (.int .i64 cl) ∧ W.cell? ⟨gk, 1, none⟩ = some (.int .i64 sq) ∧ W.cell? ⟨gk, 2, none⟩ = some (.slice A1 np c1) := ⟨R9.cell 0, R9.cell 1, R9.cell 2⟩
    go_upto_region 6 with fail
    have SD : W.drew.cell? ⟨gk, 0, none⟩ = some (.int .i64 cl) ∧ W.drew.cell? ⟨gk, 1, none⟩ = some (.int .i64 sq) ∧ W.drew.cell? ⟨gk, 2, none⟩ = some (.slice A1 np c1) := SK
    have baw : Below W.heap.size W ((W.alloc (.cells #[.int .i64 0, .int .i64 0, .int .i64 0, .int .i64 0, .slice none 0 0] 61)).drew) := ((Below.refl _ W).alloc (Nat.le_refl _) _).drew
    have X0 : Blk ((W.alloc (.cells #[.int .i64 0, .int .i64 0, .int .i64 0, .int .i64 0, .slice none 0 0] 61)).drew) W.heap.size 61 #[.int .i64 0, .int .i64 0, .int .i64 0, .int .i64 0, .slice none 0 0] := (Blk.new W 61 #[.int .i64 0, .int .i64 0, .int .i64 0, .int .i64 0, .slice none 0 0]).below (Below.refl _ _).drew
    have SA : ((W.alloc (.cells #[.int .i64 0, .int .i64 0, .int .i64 0, .int .i64 0, .slice none 0 0] 61)).drew).cell? ⟨gk, 0, none⟩ = some (.int .i64 cl) ∧ ((W.alloc (.cells #[.int .i64 0, .int .i64 0, .int .i64 0, .int .i64 0, .slice none 0 0] 61)).drew).cell? ⟨gk, 1, none⟩ = some (.int .i64 sq) ∧ ((W.alloc (.cells #[.int .i64 0, .int .i64 0, .int .i64 0, .int .i64 0, .slice none 0 0] 61)).drew).cell? ⟨gk, 2, none⟩ = some (.slice A1 np c1) := c3_below baw R9.lt SK
    have hkW : gk ≠ W.heap.size := fun e => by have := R9.lt; omega
    have baf : Below W.heap.size W ((W.alloc (.cells #[.int .i64 m0, .int .i64 m1, .int .i64 cl, .int .i64 sq, .slice A1 np c1] 61)).drew) := ((Below.refl _ W).alloc (Nat.le_refl _) _).drew
    have SB : ((W.alloc (.cells #[.int .i64 m0, .int .i64 m1, .int .i64 cl, .int .i64 sq, .slice A1 np c1] 61)).drew).cell? ⟨gk, 0, none⟩ = some (.int .i64 cl) ∧ ((W.alloc (.cells #[.int .i64 m0, .int .i64 m1, .int .i64 cl, .int .i64 sq, .slice A1 np c1] 61)).drew).cell? ⟨gk, 1, none⟩ = some (.int .i64 sq) ∧ ((W.alloc (.cells #[.int .i64 m0, .int .i64 m1, .int .i64 cl, .int .i64 sq, .slice A1 np c1] 61)).drew).cell? ⟨gk, 2, none⟩ = some (.slice A1 np c1) := c3_below baf R9.lt SK
    have XB : Blk ((W.alloc (.cells #[.int .i64 m0, .int .i64 m1, .int .i64 cl, .int .i64 sq, .slice A1 np c1] 61)).drew) W.heap.size 61 #[.int .i64 m0, .int .i64 m1, .int .i64 cl, .int .i64 sq, .slice A1 np c1] := (Blk.new W 61 #[.int .i64 m0, .int .i64 m1, .int .i64 cl, .int .i64 sq, .slice A1 np c1]).below (Below.refl _ _).drew
    have HXB := Lib.hid XB
    have HBF := Lib.hid baf
    clear XB baf baw X0
    have HK12 := Lib.hid (K10.below HBF.out)
    have HO12 := Lib.hid (own_frm O10 (Frm.of_below HBF.out (S := no)) (fun _ _ => id))
    have HB12 := Lib.hid (B10.trans (HBF.out.mono B10.size))
    have hen := rentry_any ⟨m0, m1, cl, sq, A1, np, c1, cm⟩ ((W.alloc (.cells #[.int .i64 m0, .int .i64 m1, .int .i64 cl, .int .i64 sq, .slice A1 np c1] 61)).drew) (Rd.of_own HO12.out) HNP.out.symm (by show np ≤ maxLen; unfold maxLen; omega) hsh
    have o0 : ((W.alloc (.cells #[.int .i64 m0, .int .i64 m1, .int .i64 cl, .int .i64 sq, .slice A1 np c1] 61)).drew).cell? ⟨W.heap.size, 0, none⟩ = some (.int .i64 m0) := HXB.out.cell 0
    have o1 : ((W.alloc (.cells #[.int .i64 m0, .int .i64 m1, .int .i64 cl, .int .i64 sq, .slice A1 np c1] 61)).drew).cell? ⟨W.heap.size, 1, none⟩ = some (.int .i64 m1) := HXB.out.cell 1
    have o2 : ((W.alloc (.cells #[.int .i64 m0, .int .i64 m1, .int .i64 cl, .int .i64 sq, .slice A1 np c1] 61)).drew).cell? ⟨W.heap.size, 2, none⟩ = some (.int .i64 cl) := HXB.out.cell 2
    have o3 : ((W.alloc (.cells #[.int .i64 m0, .int .i64 m1, .int .i64 cl, .int .i64 sq, .slice A1 np c1] 61)).drew).cell? ⟨W.heap.size, 3, none⟩ = some (.int .i64 sq) := HXB.out.cell 3
    have o4 : ((W.alloc (.cells #[.int .i64 m0, .int .i64 m1, .int .i64 cl, .int .i64 sq, .slice A1 np c1] 61)).drew).cell? ⟨W.heap.size, 4, none⟩ = some (.slice A1 np c1) := HXB.out.cell 4
    have hE := HEE.out
    have hO := HOO.out
    clear HEE HOO R9 K10 B10 O10 hsh
    have hlay : layE ⟨m0, m1, cl, sq, none, 0, 0, cm⟩ = layE ⟨m0, m1, cl, sq, A1, np, c1, cm⟩ := rfl
    rw [hlay] at hE
    obtain ⟨T, q, hTq⟩ : ∃ T q, layE ⟨m0, m1, cl, sq, A1, np, c1, cm⟩ = (T, q) := ⟨_, _, rfl⟩
    rw [hTq] at hE hen
    unfold En.v at hen
    simp only [] at hen
    have HEN := Lib.hid hen
    clear hen hTq hlay
    by_cases hq : q = 0
    · subst hq
      by_cases hT : T = b
      · subst hT
        rw [if_pos rfl] at hE
        have hO1 : O A1 c1 = ⟨m0, m1, cl, sq, A1, np, c1, cm⟩ := by rw [hO, if_pos hE, ← HNP.out]
        have htt : (T.toList == T.toList) = true := by simp
        have HO1 := Lib.hid hO1
        subst hE
        clear hO hO1
        go_region_held3 (fun W => W.cell? ⟨gk, 0, none⟩ = some (.int .i64 cl) ∧ W.cell? ⟨gk, 1, none⟩ = some (.int .i64 sq) ∧ W.cell? ⟨gk, 2, none⟩ = some (.slice A1 np c1)) (first | with_reducible exact SD | with_reducible exact SA | with_reducible exact SB | with_reducible assumption)
          (first
            | (go_at_call 105; with_reducible refine (C3.out _).mono ?_; rintro e w11 ⟨rfl, hw11⟩; obtain rfl := hw11.symm)
            | (go_at_call 105; with_reducible refine (C4.out _).mono ?_; rintro e w11 ⟨rfl, hw11⟩; obtain rfl := hw11.symm))
        all_goals
          go_wp2_with (go_at_call 35; (with_reducible refine HEN.out.mono ?_); rintro e w13 ⟨rfl, b13⟩
                       have K13 := HK12.out.below b13
                       have Q13 := HXB.out.below b13
                       have O13 := own_frm HO12.out (Frm.of_below b13 (S := no)) (fun _ _ => id)
                       have B13 := HB12.out.trans (b13.mono HB12.out.size)
                       have r0 := K13.cell 0
                       have t0 := K13.free 0
                       have p0 := Q13.cell 0
                       have r1 := K13.cell 1
                       have t1 := K13.free 1
                       have p1 := Q13.cell 1
                       have r2 := K13.cell 2
                       have t2 := K13.free 2
                       have p2 := Q13.cell 2
                       have r3 := K13.cell 3
                       have t3 := K13.free 3
                       have p3 := Q13.cell 3
                       have r4 := K13.cell 4
                       have t4 := K13.free 4
                       have p4 := Q13.cell 4)
          refine bodyPost_ret (v := .tuple #[.agg #[.int .i64 m0, .int .i64 m1, .int .i64 cl, .int .i64 sq, .slice A1 np c1], .int .i64 0]) (by rw [results_cell_tmp rfl]; go_simp <;> rfl) rfl ⟨A1, c1, by rw [HO1.out]; rfl, ?_, ?_⟩
          · rw [HO1.out]
            show World.ownsRow _ _ _ _ (.slice A1 np c1) cm.length (flatCm cm)
            rw [← HNP.out]
            exact own_set5e K13 O13 (by decide) _ _ _ _ _
          · repeat (refine Below.setCell ?_ (by exact hgrw) _)
            exact B13
      · have hE6 : E = 6 := by rw [hE, if_neg (fun e => hT (congrArg (fun x => x.1) e))]
        have hO1 : O none 0 = enZ := by rw [hO, if_neg (by rw [hE6]; decide)]
        have htt : (T.toList == b.toList) = false := by rw [str_beq, decide_eq_false_iff_not]; exact fun h => hT (bts_inj h)
        have HO1 := Lib.hid hO1
        subst hE6
        clear hO hE hO1
        go_region_held3 (fun W => W.cell? ⟨gk, 0, none⟩ = some (.int .i64 cl) ∧ W.cell? ⟨gk, 1, none⟩ = some (.int .i64 sq) ∧ W.cell? ⟨gk, 2, none⟩ = some (.slice A1 np c1)) (first | with_reducible exact SD | with_reducible exact SA | with_reducible exact SB | with_reducible assumption)
          (first
            | (go_at_call 105; with_reducible refine (C3.out _).mono ?_; rintro e w11 ⟨rfl, hw11⟩; obtain rfl := hw11.symm)
            | (go_at_call 105; with_reducible refine (C4.out _).mono ?_; rintro e w11 ⟨rfl, hw11⟩; obtain rfl := hw11.symm))
        all_goals
          go_wp2_with (go_at_call 35; (with_reducible refine HEN.out.mono ?_); rintro e w13 ⟨rfl, b13⟩
                       have K13 := HK12.out.below b13
                       have Q13 := HXB.out.below b13
                       have O13 := own_frm HO12.out (Frm.of_below b13 (S := no)) (fun _ _ => id)
                       have B13 := HB12.out.trans (b13.mono HB12.out.size)
                       have r0 := K13.cell 0
                       have t0 := K13.free 0
                       have p0 := Q13.cell 0
                       have r1 := K13.cell 1
                       have t1 := K13.free 1
                       have p1 := Q13.cell 1
                       have r2 := K13.cell 2
                       have t2 := K13.free 2
                       have p2 := Q13.cell 2
                       have r3 := K13.cell 3
                       have t3 := K13.free 3
                       have p3 := Q13.cell 3
                       have r4 := K13.cell 4
                       have t4 := K13.free 4
                       have p4 := Q13.cell 4)
          refine bodyPost_ret (v := .tuple #[.agg #[.int .i64 0, .int .i64 0, .int .i64 0, .int .i64 0, .slice none 0 0], .int .i64 6]) (by rw [results_cell_tmp rfl]; go_simp <;> rfl) rfl ⟨none, 0, by rw [HO1.out]; rfl, by rw [HO1.out]; exact World.ownsRow_nil _ _ _ _, ?_⟩
          repeat (refine Below.setCell ?_ (by exact hgrw) _)
          exact B13
    · have hE6 : E = 6 := by rw [hE, if_neg (fun e => hq (congrArg (fun x => x.2) e))]
      have hO1 : O none 0 = enZ := by rw [hO, if_neg (by rw [hE6]; decide)]
      have hb : (q != 0) = true := by simpa using hq
      have HO1 := Lib.hid hO1
      subst hE6
      clear hO hE hO1
      go_region_held3 (fun W => W.cell? ⟨gk, 0, none⟩ = some (.int .i64 cl) ∧ W.cell? ⟨gk, 1, none⟩ = some (.int .i64 sq) ∧ W.cell? ⟨gk, 2, none⟩ = some (.slice A1 np c1)) (first | with_reducible exact SD | with_reducible exact SA | with_reducible exact SB | with_reducible assumption)
        (first
          | (go_at_call 105; with_reducible refine (C3.out _).mono ?_; rintro e w11 ⟨rfl, hw11⟩; obtain rfl := hw11.symm)
          | (go_at_call 105; with_reducible refine (C4.out _).mono ?_; rintro e w11 ⟨rfl, hw11⟩; obtain rfl := hw11.symm))
      all_goals
        go_wp2_with (go_at_call 35; (with_reducible refine HEN.out.mono ?_); rintro e w13 ⟨rfl, b13⟩
                     have K13 := HK12.out.below b13
                     have Q13 := HXB.out.below b13
                     have O13 := own_frm HO12.out (Frm.of_below b13 (S := no)) (fun _ _ => id)
                     have B13 := HB12.out.trans (b13.mono HB12.out.size)
                     have r0 := K13.cell 0
                     have t0 := K13.free 0
                     have p0 := Q13.cell 0
                     have r1 := K13.cell 1
                     have t1 := K13.free 1
                     have p1 := Q13.cell 1
                     have r2 := K13.cell 2
                     have t2 := K13.free 2
                     have p2 := Q13.cell 2
                     have r3 := K13.cell 3
                     have t3 := K13.free 3
                     have p3 := Q13.cell 3
                     have r4 := K13.cell 4
                     have t4 := K13.free 4
                     have p4 := Q13.cell 4)
        refine bodyPost_ret (v := .tuple #[.agg #[.int .i64 0, .int .i64 0, .int .i64 0, .int .i64 0, .slice none 0 0], .int .i64 6]) (by rw [results_cell_tmp rfl]; go_simp <;> rfl) rfl ⟨none, 0, by rw [HO1.out]; rfl, by rw [HO1.out]; exact World.ownsRow_nil _ _ _ _, ?_⟩
        repeat (refine Below.setCell ?_ (by exact hgrw) _)
        exact B13
  · rw [if_pos hq0] at hE
    have hO1 : O none 0 = enZ := by rw [hO, if_neg (by rw [hE]; exact hq0)]
    have hb : (q != 0) = true := by simpa using hq0
    have HO1 := Lib.hid hO1
    subst hE
    clear hO hO1
    have r0 := K10.cell 0
    have r1 := K10.cell 1
    have r2 := K10.cell 2
    have r3 := K10.cell 3
    have r4 := K10.cell 4
    have t0 := K10.free 0
    have t1 := K10.free 1
    have t2 := K10.free 2
    have t3 := K10.free 3
    have t4 := K10.free 4
    go_wp2
    refine bodyPost_ret (v := .tuple #[.agg #[.int .i64 0, .int .i64 0, .int .i64 0, .int .i64 0, .slice none 0 0], .int .i64 E]) (by rw [results_cell_tmp rfl]; go_simp <;> rfl) rfl ⟨none, 0, by rw [HO1.out]; rfl, by rw [HO1.out]; exact World.ownsRow_nil _ _ _ _, ?_⟩
    repeat (refine Below.setCell ?_ (by exact hgrw) _)
    exact B10
end Go.Proofs.YtgigkekajdgngaaGreat
