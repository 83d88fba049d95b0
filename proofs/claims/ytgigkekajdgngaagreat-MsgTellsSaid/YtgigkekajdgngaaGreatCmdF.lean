/-
  An entry read. Condition: bytes that memory holds.
-/
import Derived.Test.YtgigkekajdgngaaGreatCmdE
namespace Go.Proofs.YtgigkekajdgngaaGreat
open Go Go.RowKit
attribute [local go_sem] cell_set_if

def enZ : En := ⟨0, 0, 0, 0, none, 0, 0, []⟩
/-- The entry that bytes tell; none, if they tell none. -/
def okE (b : List UInt8) (A : Option Addr) (c : Nat) : En := if errE b = 0 then enQ b A (rdQ (restE b).1).cmds.length c else enZ
def En.row (x : En) : Value := .slice x.A x.n x.c
theorem own_set5e {w : World} {g base n : Nat} {t e : TypeId} {cs : Array Value} {v : Value} {xs : List Value} {size : Nat} (hB : Blk w g t cs) (hO : w.ownsRow base e size v n xs) (hne : e ≠ t) (x0 x1 x2 x3 x4 : Value) :
    (((((w.setCell ⟨g, 0, none⟩ x0).setCell ⟨g, 1, none⟩ x1).setCell ⟨g, 2, none⟩ x2).setCell ⟨g, 3, none⟩ x3).setCell ⟨g, 4, none⟩ x4).ownsRow base e size v n xs :=
  own_frm hO ((((((Frm.refl (at1 g) w).setCell (p := ⟨g, 0, none⟩) (fun _ => rfl) x0).setCell (p := ⟨g, 1, none⟩) (fun _ => rfl) x1).setCell (p := ⟨g, 2, none⟩) (fun _ => rfl) x2).setCell (p := ⟨g, 3, none⟩) (fun _ => rfl) x3).setCell (p := ⟨g, 4, none⟩) (fun _ => rfl) x4) fun q hq he => (Blk.own_ne hB hO hne) (by unfold at1 at he; rw [hq, he])
theorem rdQ_few (l : List UInt8) : (rdQ l).cmds.length ≤ 255 := by
  have h := numByte (getNum 8 (getNum 8 (l, 0)).2).2
  show (getCms _ _).1.length ≤ 255
  rw [getCms_len]
  omega
theorem rdQ_short {l : List UInt8} (h : l.length ≤ 100000000) : ∀ x ∈ (rdQ l).cmds, x.short := fun x hx => by
  have h1 := getCms_got _ _ x hx
  have l1 := numLeft 8 (l, 0)
  have l2 := numLeft 8 (getNum 8 (l, 0)).2
  have l3 := numLeft 1 (getNum 8 (getNum 8 (l, 0)).2).2
  simp only [] at l1
  unfold Cm.short maxLen
  omega
set_option maxRecDepth 100000 in
set_option maxHeartbeats 8000000 in
theorem eread_any (b : ByteArray) (w : World) (hb : b.size ≤ 100000000) :
    Calls Tryz.prog 41 #[.string b] w fun e w' => ∃ A c, e = .returned (.tuple #[(okE (bts b) A c).v, .int .i64 (errE (bts b))]) ∧
      w'.ownsRow w.heap.size 117 5 (okE (bts b) A c).row (okE (bts b) A c).cmds.length (flatCm (okE (bts b) A c).cmds) ∧ Below w.heap.size w w' := by
  obtain ⟨E, hE⟩ : ∃ E, E = errE (bts b) := ⟨_, rfl⟩
  obtain ⟨O, hO⟩ : ∃ O, O = okE (bts b) := ⟨_, rfl⟩
  rw [← hE, ← hO]
  obtain ⟨x0, s1, e1⟩ : ∃ x s, getNum 4 (bts b, 0) = (x, s) := ⟨_, _, rfl⟩
  obtain ⟨x1, s2, e2⟩ : ∃ x s, getNum 4 s1 = (x, s) := ⟨_, _, rfl⟩
  have l1 := numLeft 4 (bts b, 0)
  have l2 := numLeft 4 s1
  rw [e1] at l1
  rw [e2] at l2
  simp only [bts_len] at l1 l2
  have hrest : restE (bts b) = s2 := by unfold restE; rw [e1]; simp only []; rw [e2]
  have hO2 : ∀ A c, O A c = if E = 0 then ⟨x0, x1, (rdQ s2.1).client, (rdQ s2.1).seq, A, (rdQ s2.1).cmds.length, c, (rdQ s2.1).cmds⟩ else enZ := fun A c => by
    rw [hO, hE]; unfold okE enQ; rw [hrest, e1]; simp only []; rw [e2]
  have hE2 : E = if s2.2 ≠ 0 then s2.2 else if errQ s2.1 ≠ 0 then errQ s2.1 else if layE ⟨x0, x1, (rdQ s2.1).client, (rdQ s2.1).seq, none, 0, 0, (rdQ s2.1).cmds⟩ = (b, 0) then 0 else 6 := by
    rw [hE]; unfold errE enQ; rw [hrest, bs_bts, e1]; simp only []; rw [e2]
  have hx0 := numIn (n := 4) (by omega) (bts b, 0)
  have hx1 := numIn (n := 4) (by omega) s1
  rw [e1] at hx0
  rw [e2] at hx1
  simp only [] at hx0 hx1
  have HE2 := Lib.hid hE2
  have HO2 := Lib.hid hO2
  have N1 := Lib.hid e1
  have N2 := Lib.hid e2
  have HLS := Lib.hid (show s1.1.length ≤ b.size ∧ s2.1.length ≤ b.size by omega)
  have HBZ := Lib.hid hb
  clear hE hO hE2 hO2 e1 e2 l1 l2 hb hrest
  have ba : Below w.heap.size w (w.alloc (.cells #[.int .i64 0, .int .i64 0, .int .i64 0, .int .i64 0, .slice none 0 0] 61)) := (Below.refl _ _).alloc (Nat.le_refl _) _
  have K0 := Blk.new w 61 #[.int .i64 0, .int .i64 0, .int .i64 0, .int .i64 0, .slice none 0 0]
  go_enter Tryz.func41, Tryz.ntmps41
  go_upto_region 2 with (go_at_call 37; refine (from_s b _).mono ?_; rintro e w1 ⟨rfl, G1, b1⟩)
  have K1 := K0.below b1
  have B1 : Below w.heap.size w w1 := ba.trans (b1.mono ba.size)
  obtain ⟨gr, hgr⟩ : ∃ gr, gr = w.heap.size := ⟨_, rfl⟩
  rw [← hgr] at K0 K1 ⊢
  have hsz : (w.alloc (.cells #[.int .i64 0, .int .i64 0, .int .i64 0, .int .i64 0, .slice none 0 0] 61)).heap.size = gr + 1 := by rw [hgr]; simp
  rw [hsz] at G1 b1
  obtain ⟨gg, hgg⟩ : ∃ gg, gg = gr + 1 := ⟨_, rfl⟩
  rw [← hgg] at G1 ⊢
  have hrg : gr ≠ gg := by omega
  have hbg : w.heap.size ≤ gg := by omega
  have hgrw : w.heap.size ≤ gr := by omega
  have HGR := Lib.hid hgr
  clear hgr hsz K0 ba b1 hgg
  have C1 := Lib.hid (as_num (gword_s gg _ w1 G1 (by have := HBZ.out; simp only [bts_len]; omega)) N1.out)
  go_upto_region 3 with (go_at_call 39; with_reducible refine C1.out.mono ?_; rintro e w2 ⟨rfl, G2, F2⟩)
  have K2 := K1.frm F2 (fun e => hrg e)
  have B2 : Below w.heap.size w w2 := below_frm B1 F2 (Nat.le_refl _) (fun i hi => by have h9 : i = gg := hi; omega)
  have bq : Below w2.heap.size w2 (w2.alloc (.cells #[.int .i64 x0, .int .i64 0, .int .i64 0, .int .i64 0, .slice none 0 0] 61)) := (Below.refl _ _).alloc (Nat.le_refl _) _
  have Q3 := Blk.new w2 61 #[.int .i64 x0, .int .i64 0, .int .i64 0, .int .i64 0, .slice none 0 0]
  have G3 := G2.below bq
  have K3 := K2.below bq
  have B3 := B2.trans (bq.mono B2.size)
  have hqg : w2.heap.size ≠ gg := fun e => by have := G2.lt; omega
  have hqr : w2.heap.size ≠ gr := fun e => by have := K2.lt; omega
  have hqw : w.heap.size ≤ w2.heap.size := B2.size
  generalize w2.alloc (.cells #[.int .i64 x0, .int .i64 0, .int .i64 0, .int .i64 0, .slice none 0 0] 61) = W3 at Q3 G3 K3 B3 ⊢
  obtain ⟨gq, hgq⟩ : ∃ gq, gq = w2.heap.size := ⟨_, rfl⟩
  rw [← hgq] at Q3 hqg hqr hqw ⊢
  clear C1 G1 K1 B1 G2 K2 B2 F2 bq hgq
  have C2 := Lib.hid (as_num (gword_s gg _ W3 G3 (by have := HBZ.out; have := HLS.out; omega)) N2.out)
  go_upto_region 4 with (go_at_call 39; with_reducible refine C2.out.mono ?_; rintro e w4 ⟨rfl, G4, F4⟩
                         have Q4 := Q3.frm F4 (fun e => hqg e)
                         have q41 := Q4.cell 1
                         have f41 := Q4.free 1)
  have K4 := K3.frm F4 (fun e => hrg e)
  have B4 : Below w.heap.size w w4 := below_frm B3 F4 (Nat.le_refl _) (fun i hi => by have h9 : i = gg := hi; omega)
  have Q5 : Blk (w4.setCell ⟨gq, 1, none⟩ (.int .i64 x1)) gq 61 #[.int .i64 x0, .int .i64 x1, .int .i64 0, .int .i64 0, .slice none 0 0] := by simpa using Q4.set_ 1 (.int .i64 x1)
  have G5 : GetS (w4.setCell ⟨gq, 1, none⟩ (.int .i64 x1)) gg s2 := Blk.far G4 (p := ⟨gq, 1, none⟩) (fun e => hqg e.symm) _
  have K5 := K4.far (p := ⟨gq, 1, none⟩) (fun e => hqr e.symm) (.int .i64 x1)
  have B5 : Below w.heap.size w (w4.setCell ⟨gq, 1, none⟩ (.int .i64 x1)) := B4.setCell hqw _
  generalize w4.setCell ⟨gq, 1, none⟩ (.int .i64 x1) = W5 at Q5 G5 K5 B5 ⊢
  clear C2 Q3 G3 K3 B3 Q4 q41 f41 K4 B4 G4 F4
  obtain ⟨l2, xE⟩ := s2
  have HG5 := Lib.hid G5
  have HBad := Lib.hid (gbad_s gg _ W5 G5)
  have hE := HE2.out
  have hO := HO2.out
  simp only [] at hE hO HBad
  clear HE2 HO2 N1 N2
  have r0 := K5.cell 0
  have r1 := K5.cell 1
  have r2 := K5.cell 2
  have r3 := K5.cell 3
  have r4 := K5.cell 4
  have t0 := K5.free 0
  have t1 := K5.free 1
  have t2 := K5.free 2
  have t3 := K5.free 3
  have t4 := K5.free 4
  by_cases hx : xE = 0
  · subst hx
    rw [if_neg (by omega)] at hE
    have hl2 : l2.length ≤ 100000000 := by have h1 := HLS.out.2; have h2 := HBZ.out; change l2.length ≤ b.size at h1; omega
    clear r0 r1 r2 r3 r4 t0 t1 t2 t3 t4 G5
    have hleft : leftP (l2, 0) = (l2.length : Int) := by simp [leftP]
    have hraw : getRaw (l2.length : Int) (l2, 0) = (l2, ([], 0)) := by
      unfold getRaw
      rw [if_pos rfl, if_neg (by omega), if_neg (by simp), Int.toNat_natCast, List.take_length, List.drop_length]
    have hcl := gleft_s gg _ W5 HG5.out
    rw [hleft] at hcl
    have hcr := graw_s gg _ (l2.length : Int) W5 HG5.out (by show l2.length ≤ _; omega)
    rw [hraw] at hcr
    have HCL := Lib.hid hcl
    obtain ⟨b2, hb2⟩ : ∃ b2, b2 = bs l2 := ⟨_, rfl⟩
    have hstr : str l2 = .string b2 := by rw [hb2]
    rw [hstr] at hcr
    have HCR := Lib.hid hcr
    have hbb : bts b2 = l2 := by rw [hb2, bts_bs]
    have hcq := fun W => qread_any b2 W (by rw [hb2, bs_size]; omega)
    rw [hbb] at hcq
    obtain ⟨q, hq⟩ : ∃ q, q = errQ l2 := ⟨_, rfl⟩
    have hokq : okQ l2 = if q = 0 then rdQ l2 else ⟨0, 0, [], ([], 0)⟩ := by rw [hq]; rfl
    rw [← hq] at hE hcq
    obtain ⟨P, hP⟩ : ∃ P, P = okQ l2 := ⟨_, rfl⟩
    rw [← hP] at hcq hokq
    have HCQ := Lib.hid hcq
    clear hcl hcr hcq hleft hraw hstr hb2 hbb hq hP
    obtain ⟨np, hnp⟩ : ∃ np, np = P.cmds.length := ⟨_, rfl⟩
    rw [← hnp] at HCQ
    have HNP := Lib.hid hnp
    have HOKQ := Lib.hid hokq
    have HEE := Lib.hid hE
    have HOO := Lib.hid hO
    have HK5 := Lib.hid K5
    have HQ5 := Lib.hid Q5
    have HB5 := Lib.hid B5
    clear hnp hokq hE hO
    go_upto_region 8 with (first
      | (go_at_call 102; with_reducible refine HBad.out.mono ?_; rintro e w6 ⟨rfl, hw6⟩; obtain rfl := hw6.symm)
      | (go_at_call 104; with_reducible refine HCL.out.mono ?_; rintro e w6 ⟨rfl, hw6⟩; obtain rfl := hw6.symm)
      | (go_at_call 100; with_reducible refine HCR.out.mono ?_; rintro e w7 ⟨rfl, G7, F7⟩
         have K7 := HK5.out.frm F7 (fun e => hrg e)
         have Q7 := HQ5.out.frm F7 (fun e => hqg e)
         have B7 : Below w.heap.size w w7 := below_frm HB5.out F7 (Nat.le_refl _) (fun i hi => by have h9 : i = gg := hi; omega))
      | (go_at_call 103; refine (HCQ.out _).mono ?_; rintro e w9 ⟨V, rfl, ho9, b9⟩
         obtain ⟨A1, c1, rfl, hc1⟩ := own_form ho9
         have K9 := K7.below b9
         have Q9 := Q7.below b9
         have B9 : Below w.heap.size w w9 := B7.trans (b9.mono B7.size)
         have O9 := own_base ho9 (show w.heap.size ≤ w7.heap.size from B7.size)))
    have bk : Below w9.heap.size w9 (w9.alloc (.cells #[.int .i64 P.client, .int .i64 P.seq, .slice A1 np c1] 59)) := (Below.refl _ _).alloc (Nat.le_refl _) _
    have R9 := Blk.new w9 59 #[.int .i64 P.client, .int .i64 P.seq, .slice A1 np c1]
    have K10 := K9.below bk
    have Q10 := Q9.below bk
    have B10 := B9.trans (bk.mono B9.size)
    have O10 := own_frm O9 (Frm.of_below bk (S := no)) (fun _ _ => id)
    have hkq : w9.heap.size ≠ gq := fun e => by have := Q9.lt; omega
    have hkr : w9.heap.size ≠ gr := fun e => by have := K9.lt; omega
    generalize w9.alloc (.cells #[.int .i64 P.client, .int .i64 P.seq, .slice A1 np c1] 59) = W at R9 K10 Q10 B10 O10 ⊢
    obtain ⟨gk, hgk⟩ : ∃ gk, gk = w9.heap.size := ⟨_, rfl⟩
    rw [← hgk] at R9 hkq hkr ⊢
    clear hgk bk K9 Q9 B9 O9 K7 Q7 B7 G7 F7 ho9 b9 HBad HCL HCR HCQ K5 Q5 B5 HK5 HQ5 HB5 HG5
    have hokq := HOKQ.out
    have hE := HEE.out
    have hO := HOO.out
    clear HOKQ HEE HOO
    by_cases hq0 : q = 0
    · subst hq0
      rw [if_pos rfl] at hokq
      rw [← hokq] at hE
      simp only [← hokq] at hO
      have hsh : ∀ x ∈ P.cmds, x.short := by rw [hokq]; exact rdQ_short hl2
      have hnp255 : np ≤ 255 := by rw [HNP.out, hokq]; exact rdQ_few l2
      obtain ⟨cl, sq, cm, fi⟩ := P
      simp only [] at hE hO hsh HNP R9 O10 ⊢
      rw [if_neg (by omega)] at hE
      have HEE := Lib.hid hE
      have HOO := Lib.hid hO
      clear hE hO hokq
      have k0 := R9.cell 0
      have k1 := R9.cell 1
      have k2 := R9.cell 2
      have j2 := Q10.cell 2
      have i2 := Q10.free 2
      have j3 := (Q10.set_ 2 (.int .i64 cl)).cell 3
      have i3 := (Q10.set_ 2 (.int .i64 cl)).free 3
      have j4 := ((Q10.set_ 2 (.int .i64 cl)).set_ 3 (.int .i64 sq)).cell 4
      have i4 := ((Q10.set_ 2 (.int .i64 cl)).set_ 3 (.int .i64 sq)).free 4
      go_upto_region 11 with fail
      have FS : Frm (at1 gq) W (((W.setCell ⟨gq, 2, none⟩ (.int .i64 cl)).setCell ⟨gq, 3, none⟩ (.int .i64 sq)).setCell ⟨gq, 4, none⟩ (.slice A1 np c1)) := (((Frm.refl (at1 gq) W).setCell (p := ⟨gq, 2, none⟩) (fun _ => rfl) (.int .i64 cl)).setCell (p := ⟨gq, 3, none⟩) (fun _ => rfl) (.int .i64 sq)).setCell (p := ⟨gq, 4, none⟩) (fun _ => rfl) (.slice A1 np c1)
      have Q12 : Blk (((W.setCell ⟨gq, 2, none⟩ (.int .i64 cl)).setCell ⟨gq, 3, none⟩ (.int .i64 sq)).setCell ⟨gq, 4, none⟩ (.slice A1 np c1)) gq 61 #[.int .i64 x0, .int .i64 x1, .int .i64 cl, .int .i64 sq, .slice A1 np c1] := by
        simpa using ((Q10.set_ 2 (.int .i64 cl)).set_ 3 (.int .i64 sq)).set_ 4 (.slice A1 np c1)
      generalize ((W.setCell ⟨gq, 2, none⟩ (.int .i64 cl)).setCell ⟨gq, 3, none⟩ (.int .i64 sq)).setCell ⟨gq, 4, none⟩ (.slice A1 np c1) = W2 at FS Q12 ⊢
      have K12 := K10.frm FS (fun e => hqr e.symm)
      have O12 := own_frm O10 FS (fun g hg h => by unfold at1 at h; subst h; exact Blk.own_ne Q10 O10 (by decide) hg)
      have B12 := below_frm B10 FS (Nat.le_refl _) (fun i hi => by have h9 : i = gq := hi; omega)
      have o0 := Q12.cell 0
      have o1 := Q12.cell 1
      have o2 := Q12.cell 2
      have o3 := Q12.cell 3
      have o4 := Q12.cell 4
      have hen := entry_any ⟨x0, x1, cl, sq, A1, np, c1, cm⟩ W2 (Rd.of_own O12) HNP.out.symm (by show np ≤ maxLen; unfold maxLen; omega) hsh
      clear FS k0 k1 k2 i2 i3 i4 j2 j3 j4 R9 K10 Q10 B10 O10 hsh
      have hE := HEE.out
      have hO := HOO.out
      clear HEE HOO
      have hlay : layE ⟨x0, x1, cl, sq, none, 0, 0, cm⟩ = layE ⟨x0, x1, cl, sq, A1, np, c1, cm⟩ := rfl
      rw [hlay] at hE
      obtain ⟨T, q, hTq⟩ : ∃ T q, layE ⟨x0, x1, cl, sq, A1, np, c1, cm⟩ = (T, q) := ⟨_, _, rfl⟩
      rw [hTq] at hE hen
      unfold En.v at hen
      simp only [] at hen
      have HEN := Lib.hid hen
      clear hen hTq hlay
      by_cases hq : q = 0
      · subst hq
        by_cases hT : T = b
        · subst hT
          rw [if_pos rfl] at hE
          have hO1 : O A1 c1 = ⟨x0, x1, cl, sq, A1, np, c1, cm⟩ := by rw [hO, if_pos hE, ← HNP.out]
          have htt : (T.toList == T.toList) = true := by simp
          have HO1 := Lib.hid hO1
          subst hE
          clear hO hO1
          go_wp2_with (go_at_call 31; (with_reducible refine HEN.out.mono ?_); rintro e w13 ⟨rfl, b13⟩
                       have K13 := K12.below b13
                       have Q13 := Q12.below b13
                       have O13 := own_frm O12 (Frm.of_below b13 (S := no)) (fun _ _ => id)
                       have B13 := B12.trans (b13.mono B12.size)
                       have r0 := K13.cell 0
                       have r1 := K13.cell 1
                       have r2 := K13.cell 2
                       have r3 := K13.cell 3
                       have r4 := K13.cell 4
                       have t0 := K13.free 0
                       have t1 := K13.free 1
                       have t2 := K13.free 2
                       have t3 := K13.free 3
                       have t4 := K13.free 4
                       have p0 := Q13.cell 0
                       have p1 := Q13.cell 1
                       have p2 := Q13.cell 2
                       have p3 := Q13.cell 3
                       have p4 := Q13.cell 4)
          refine bodyPost_ret (v := .tuple #[.agg #[.int .i64 x0, .int .i64 x1, .int .i64 cl, .int .i64 sq, .slice A1 np c1], .int .i64 0]) (by rw [results_cell_tmp rfl]; go_simp <;> rfl) rfl ⟨A1, c1, by rw [HO1.out]; rfl, ?_, ?_⟩
          · rw [HO1.out]
            show World.ownsRow _ _ _ _ (.slice A1 np c1) cm.length (flatCm cm)
            rw [← HNP.out]
            exact own_set5e K13 O13 (by decide) _ _ _ _ _
          · repeat (refine Below.setCell ?_ (by exact hgrw) _)
            exact B13
        · have hE6 : E = 6 := by rw [hE, if_neg (fun e => hT (congrArg (fun x => x.1) e))]
          have hO1 : O none 0 = enZ := by rw [hO, if_neg (by rw [hE6]; decide)]
          have htt : (T.toList == b.toList) = false := by rw [str_beq, decide_eq_false_iff_not]; exact fun h => hT (bts_inj h)
          have HO1 := Lib.hid hO1
          subst hE6
          clear hO hE hO1
          go_wp2_with (go_at_call 31; (with_reducible refine HEN.out.mono ?_); rintro e w13 ⟨rfl, b13⟩
                       have K13 := K12.below b13
                       have Q13 := Q12.below b13
                       have O13 := own_frm O12 (Frm.of_below b13 (S := no)) (fun _ _ => id)
                       have B13 := B12.trans (b13.mono B12.size)
                       have r0 := K13.cell 0
                       have r1 := K13.cell 1
                       have r2 := K13.cell 2
                       have r3 := K13.cell 3
                       have r4 := K13.cell 4
                       have t0 := K13.free 0
                       have t1 := K13.free 1
                       have t2 := K13.free 2
                       have t3 := K13.free 3
                       have t4 := K13.free 4
                       have p0 := Q13.cell 0
                       have p1 := Q13.cell 1
                       have p2 := Q13.cell 2
                       have p3 := Q13.cell 3
                       have p4 := Q13.cell 4)
          refine bodyPost_ret (v := .tuple #[.agg #[.int .i64 0, .int .i64 0, .int .i64 0, .int .i64 0, .slice none 0 0], .int .i64 6]) (by rw [results_cell_tmp rfl]; go_simp <;> rfl) rfl ⟨none, 0, by rw [HO1.out]; rfl, by rw [HO1.out]; exact World.ownsRow_nil _ _ _ _, ?_⟩
          repeat (refine Below.setCell ?_ (by exact hgrw) _)
          exact B13
      · have hE6 : E = 6 := by rw [hE, if_neg (fun e => hq (congrArg (fun x => x.2) e))]
        have hO1 : O none 0 = enZ := by rw [hO, if_neg (by rw [hE6]; decide)]
        have hb : (q != 0) = true := by simpa using hq
        have HO1 := Lib.hid hO1
        subst hE6
        clear hO hE hO1
        go_wp2_with (go_at_call 31; (with_reducible refine HEN.out.mono ?_); rintro e w13 ⟨rfl, b13⟩
                     have K13 := K12.below b13
                     have Q13 := Q12.below b13
                     have O13 := own_frm O12 (Frm.of_below b13 (S := no)) (fun _ _ => id)
                     have B13 := B12.trans (b13.mono B12.size)
                     have r0 := K13.cell 0
                     have r1 := K13.cell 1
                     have r2 := K13.cell 2
                     have r3 := K13.cell 3
                     have r4 := K13.cell 4
                     have t0 := K13.free 0
                     have t1 := K13.free 1
                     have t2 := K13.free 2
                     have t3 := K13.free 3
                     have t4 := K13.free 4
                     have p0 := Q13.cell 0
                     have p1 := Q13.cell 1
                     have p2 := Q13.cell 2
                     have p3 := Q13.cell 3
                     have p4 := Q13.cell 4)
        refine bodyPost_ret (v := .tuple #[.agg #[.int .i64 0, .int .i64 0, .int .i64 0, .int .i64 0, .slice none 0 0], .int .i64 6]) (by rw [results_cell_tmp rfl]; go_simp <;> rfl) rfl ⟨none, 0, by rw [HO1.out]; rfl, by rw [HO1.out]; exact World.ownsRow_nil _ _ _ _, ?_⟩
        repeat (refine Below.setCell ?_ (by exact hgrw) _)
        exact B13
    · rw [if_pos hq0] at hE
      rw [if_neg hq0] at hokq
      have hO1 : O none 0 = enZ := by rw [hO, if_neg (by rw [hE]; exact hq0)]
      have hb : (q != 0) = true := by simpa using hq0
      have HO1 := Lib.hid hO1
      subst hE
      clear hO hO1
      have r0 := K10.cell 0
      have r1 := K10.cell 1
      have r2 := K10.cell 2
      have r3 := K10.cell 3
      have r4 := K10.cell 4
      have t0 := K10.free 0
      have t1 := K10.free 1
      have t2 := K10.free 2
      have t3 := K10.free 3
      have t4 := K10.free 4
      go_wp2
      refine bodyPost_ret (v := .tuple #[.agg #[.int .i64 0, .int .i64 0, .int .i64 0, .int .i64 0, .slice none 0 0], .int .i64 E]) (by rw [results_cell_tmp rfl]; go_simp <;> rfl) rfl ⟨none, 0, by rw [HO1.out]; rfl, by rw [HO1.out]; exact World.ownsRow_nil _ _ _ _, ?_⟩
      repeat (refine Below.setCell ?_ (by exact hgrw) _)
      exact B10
  · rw [if_pos hx] at hE
    have hO1 : O none 0 = enZ := by rw [hO, if_neg (by rw [hE]; exact hx)]
    have hbx : (xE != 0) = true := by simpa using hx
    have HO1 := Lib.hid hO1
    subst hE
    clear hO hO1 G5
    go_wp2_with (go_at_call 102; with_reducible refine HBad.out.mono ?_; rintro e w9 ⟨rfl, hw9⟩; obtain rfl := hw9.symm)
    refine bodyPost_ret (v := .tuple #[.agg #[.int .i64 0, .int .i64 0, .int .i64 0, .int .i64 0, .slice none 0 0], .int .i64 E]) (by rw [results_cell_tmp rfl]; go_simp <;> rfl) rfl ⟨none, 0, by rw [HO1.out]; rfl, by rw [HO1.out]; exact World.ownsRow_nil _ _ _ _, ?_⟩
    repeat (refine Below.setCell ?_ (by exact hgrw) _)
    exact B5
end Go.Proofs.YtgigkekajdgngaaGreat
