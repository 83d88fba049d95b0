/-
  A request read. Condition: bytes that memory holds.
-/
import Derived.Test.YtgigkekajdgngaaGreatCmdD
import Derived.Test.YtgigkekajdgngaaGreatTyAt
import Derived.Laws.ResultCell
namespace Go.Proofs.YtgigkekajdgngaaGreat
open Go Go.RowKit
attribute [local go_sem] cell_set_if

theorem cmInfo : (Tryz.prog.info? 117).map (fun i => (i.zero, i.size, i.bytes)) = some (some (.agg #[.int .i64 0, .string ByteArray.empty, .string ByteArray.empty, .string ByteArray.empty, .string ByteArray.empty]), 5, 72) := by kernel_rfl
theorem flatCm_app (a b : List Cm) : flatCm (a ++ b) = flatCm a ++ flatCm b := by unfold flatCm; rw [List.flatMap_append]
/-- The request that bytes tell; none, if they tell none. -/
def okQ (b : List UInt8) : RdQ := if errQ b = 0 then rdQ b else ⟨0, 0, [], ([], 0)⟩
theorem Frm.set4 {w : World} {g : Nat} (a b c d : Value) : Frm (at1 g) w ((((w.setCell ⟨g, 1, none⟩ a).setCell ⟨g, 2, none⟩ b).setCell ⟨g, 3, none⟩ c).setCell ⟨g, 4, none⟩ d) :=
  ((((Frm.refl (at1 g) w).setCell (p := ⟨g, 1, none⟩) (fun _ => rfl) a).setCell (p := ⟨g, 2, none⟩) (fun _ => rfl) b).setCell (p := ⟨g, 3, none⟩) (fun _ => rfl) c).setCell (p := ⟨g, 4, none⟩) (fun _ => rfl) d
theorem own_set3q {w : World} {g base n : Nat} {t e : TypeId} {cs : Array Value} {v : Value} {xs : List Value} {size : Nat} (hB : Blk w g t cs) (hO : w.ownsRow base e size v n xs) (hne : e ≠ t) (i j k : Nat) (x y z : Value) :
    (((w.setCell ⟨g, i, none⟩ x).setCell ⟨g, j, none⟩ y).setCell ⟨g, k, none⟩ z).ownsRow base e size v n xs :=
  own_frm hO ((((Frm.refl (at1 g) w).setCell (p := ⟨g, i, none⟩) (fun _ => rfl) x).setCell (p := ⟨g, j, none⟩) (fun _ => rfl) y).setCell (p := ⟨g, k, none⟩) (fun _ => rfl) z) fun q hq he => (Blk.own_ne hB hO hne) (by unfold at1 at he; rw [hq, he])
set_option maxRecDepth 100000 in
set_option maxHeartbeats 8000000 in
theorem qread_any (b : ByteArray) (w : World) (hb : b.size ≤ 100000000) :
    Calls Tryz.prog 103 #[.string b] w fun e w' => ∃ V, e = .returned (.tuple #[.agg #[.int .i64 (okQ (bts b)).client, .int .i64 (okQ (bts b)).seq, V], .int .i64 (errQ (bts b))]) ∧
      w'.ownsRow w.heap.size 117 5 V (okQ (bts b)).cmds.length (flatCm (okQ (bts b)).cmds) ∧ Below w.heap.size w w' := by
  obtain ⟨i0, hi0, hz0, hz1, hz2⟩ := info_parts cmInfo
  obtain ⟨R, hR⟩ : ∃ R, R = rdQ (bts b) := ⟨_, rfl⟩
  obtain ⟨E, hE⟩ : ∃ E, E = errQ (bts b) := ⟨_, rfl⟩
  obtain ⟨O, hO⟩ : ∃ O, O = okQ (bts b) := ⟨_, rfl⟩
  rw [← hE, ← hO]
  have hE2 : E = if (endG R.fin).2 ≠ 0 then (endG R.fin).2 else if layQ R.client R.seq R.cmds = (b, 0) then 0 else 6 := by rw [hE, hR]; unfold errQ; rw [bs_bts]
  have hO2 : O = if E = 0 then R else ⟨0, 0, [], ([], 0)⟩ := by rw [hO, hE, hR]; rfl
  obtain ⟨c0, s1, e1⟩ : ∃ x s, getNum 8 (bts b, 0) = (x, s) := ⟨_, _, rfl⟩
  obtain ⟨q0, s2, e2⟩ : ∃ x s, getNum 8 s1 = (x, s) := ⟨_, _, rfl⟩
  obtain ⟨n0, s3, e3⟩ : ∃ x s, getNum 1 s2 = (x, s) := ⟨_, _, rfl⟩
  have hn0 := numByte s2
  rw [e3] at hn0
  simp only [] at hn0
  obtain ⟨n, rfl⟩ : ∃ n : Nat, n0 = (n : Int) := ⟨n0.toNat, by omega⟩
  have l1 := numLeft 8 (bts b, 0)
  have l2 := numLeft 8 s1
  have l3 := numLeft 1 s2
  rw [e1] at l1
  rw [e2] at l2
  rw [e3] at l3
  simp only [bts_len] at l1 l2 l3
  have hRR : R = ⟨c0, q0, (getCms n s3).1, (getCms n s3).2⟩ := by
    rw [hR]; unfold rdQ
    rw [e1]
    simp only []
    rw [e2]
    simp only []
    rw [e3]
    simp only [Int.toNat_natCast]
  have hc0 := numIn (n := 8) (by omega) (bts b, 0)
  have hq0 := numIn (n := 8) (by omega) s1
  rw [e1] at hc0
  rw [e2] at hq0
  simp only [] at hc0 hq0
  have hn255 : n < 256 := by omega
  have HE2 := Lib.hid hE2
  have HO2 := Lib.hid hO2
  have HRR := Lib.hid hRR
  have N1 := Lib.hid e1
  have N2 := Lib.hid e2
  have N3 := Lib.hid e3
  have HLS := Lib.hid (show s1.1.length ≤ b.size ∧ s2.1.length ≤ b.size ∧ s3.1.length ≤ b.size by omega)
  have HBZ := Lib.hid hb
  clear hE hO hR hE2 hO2 hRR e1 e2 e3 l1 l2 l3 hn0 hb
  have ba : Below w.heap.size w (w.alloc (.cells #[.int .i64 0, .int .i64 0, .slice none 0 0] 59)) := (Below.refl _ _).alloc (Nat.le_refl _) _
  have K0 := Blk.new w 59 #[.int .i64 0, .int .i64 0, .slice none 0 0]
  go_enter Tryz.func103, Tryz.ntmps103
  go_upto_region 2 with (go_at_call 37; refine (from_s b _).mono ?_; rintro e w1 ⟨rfl, G1, b1⟩)
  have K1 := K0.below b1
  have B1 : Below w.heap.size w w1 := ba.trans (b1.mono ba.size)
  obtain ⟨gr, hgr⟩ : ∃ gr, gr = w.heap.size := ⟨_, rfl⟩
  rw [← hgr] at K0 K1 ⊢
  have hsz : (w.alloc (.cells #[.int .i64 0, .int .i64 0, .slice none 0 0] 59)).heap.size = gr + 1 := by rw [hgr]; simp
  rw [hsz] at G1 b1
  obtain ⟨gg, hgg⟩ : ∃ gg, gg = gr + 1 := ⟨_, rfl⟩
  rw [← hgg] at G1 ⊢
  have hrg : gr ≠ gg := by omega
  have hbg : w.heap.size ≤ gg := by omega
  have HGR := Lib.hid hgr
  clear hgr hsz K0 ba b1 hgg
  have C1 := Lib.hid (as_num (gint_s gg _ w1 G1 (by have := HBZ.out; simp only [bts_len]; omega)) N1.out)
  go_upto_region 3 with (go_at_call 134; with_reducible refine C1.out.mono ?_; rintro e w2 ⟨rfl, G2, F2⟩)
  have K2 := K1.frm F2 (fun e => hrg e)
  have B2 : Below w.heap.size w w2 := below_frm B1 F2 (Nat.le_refl _) (fun i hi => by have h9 : i = gg := hi; omega)
  have bq : Below w2.heap.size w2 (w2.alloc (.cells #[.int .i64 c0, .int .i64 0, .slice none 0 0] 59)) := (Below.refl _ _).alloc (Nat.le_refl _) _
  have Q3 := Blk.new w2 59 #[.int .i64 c0, .int .i64 0, .slice none 0 0]
  have G3 := G2.below bq
  have K3 := K2.below bq
  have B3 := B2.trans (bq.mono B2.size)
  have hqg : w2.heap.size ≠ gg := fun e => by have := G2.lt; omega
  have hqr : w2.heap.size ≠ gr := fun e => by have := K2.lt; omega
  have hqw : w.heap.size ≤ w2.heap.size := B2.size
  generalize w2.alloc (.cells #[.int .i64 c0, .int .i64 0, .slice none 0 0] 59) = W3 at Q3 G3 K3 B3 ⊢
  obtain ⟨gq, hgq⟩ : ∃ gq, gq = w2.heap.size := ⟨_, rfl⟩
  rw [← hgq] at Q3 hqg hqr hqw ⊢
  clear C1 G1 K1 B1 G2 K2 B2 F2 bq hgq
  have C2 := Lib.hid (as_num (gint_s gg _ W3 G3 (by have := HBZ.out; have := HLS.out; omega)) N2.out)
  go_upto_region 4 with (go_at_call 134; with_reducible refine C2.out.mono ?_; rintro e w4 ⟨rfl, G4, F4⟩
                         have Q4 := Q3.frm F4 (fun e => hqg e)
                         have q41 := Q4.cell 1
                         have f41 := Q4.free 1)
  have K4 := K3.frm F4 (fun e => hrg e)
  have B4 : Below w.heap.size w w4 := below_frm B3 F4 (Nat.le_refl _) (fun i hi => by have h9 : i = gg := hi; omega)
  have Q5 : Blk (w4.setCell ⟨gq, 1, none⟩ (.int .i64 q0)) gq 59 #[.int .i64 c0, .int .i64 q0, .slice none 0 0] := by simpa using Q4.set_ 1 (.int .i64 q0)
  have G5 : GetS (w4.setCell ⟨gq, 1, none⟩ (.int .i64 q0)) gg s2 := Blk.far G4 (p := ⟨gq, 1, none⟩) (fun e => hqg e.symm) _
  have K5 := K4.far (p := ⟨gq, 1, none⟩) (fun e => hqr e.symm) (.int .i64 q0)
  have B5 : Below w.heap.size w (w4.setCell ⟨gq, 1, none⟩ (.int .i64 q0)) := B4.setCell hqw _
  generalize w4.setCell ⟨gq, 1, none⟩ (.int .i64 q0) = W5 at Q5 G5 K5 B5 ⊢
  clear C2 Q3 G3 K3 B3 Q4 q41 f41 K4 B4 G4 F4
  have C3 := Lib.hid (as_num (gbyte_s gg _ W5 G5 (by have := HBZ.out; have := HLS.out; omega)) N3.out)
  go_wp2_with (go_at_call 38; with_reducible refine C3.out.mono ?_; rintro e w6 ⟨rfl, G6, F6⟩
               have HG6 := Lib.hid G6
               have HQ6 := Lib.hid (Q5.frm F6 (fun e => hqg e))
               have HK6 := Lib.hid (K5.frm F6 (fun e => hrg e))
               have HB6 := Lib.hid (below_frm B5 F6 (Nat.le_refl _) (fun i hi => by have h9 : i = gg := hi; omega)))
  clear C3 Q5 G5 K5 B5 F6 G6
  go_loopw [6, 20] (fun _ u20 wr => ∃ (k : Nat) (V : Value), k ≤ n ∧ u20 = .int .i64 k ∧ Hid (GetS wr gg (getCms k s3).2) ∧ Hid (Blk wr gq 59 #[.int .i64 c0, .int .i64 q0, V]) ∧ Hid (Blk wr gr 59 #[.int .i64 0, .int .i64 0, .slice none 0 0]) ∧ Hid (wr.ownsRow w.heap.size 117 5 V k (flatCm (getCms k s3).1)) ∧ Hid (Below w.heap.size w wr)) (fun _ u20 _ => n - (intOf u20).toNat)
  case atStart => exact ⟨0, .slice none 0 0, by omega, rfl, HG6.out, HQ6.out, HK6.out, World.ownsRow_nil _ _ _ _, HB6.out⟩
  case round =>
    clear HG6 HQ6 HK6 HB6
    obtain ⟨k, V, hkn, rfl, HG, HQ, HK, HO, HB⟩ := hrel
    by_cases hlt : k < n
    · have hki : (k : Int) < (n : Int) := by omega
      obtain ⟨sk, hsk⟩ : ∃ sk, sk = (getCms k s3).2 := ⟨_, rfl⟩
      obtain ⟨xs, hxs⟩ : ∃ xs, xs = (getCms k s3).1 := ⟨_, rfl⟩
      have lk := getCms_left k s3
      rw [← hsk] at HG lk
      rw [← hxs] at HO
      obtain ⟨x0, u1, e0⟩ : ∃ x s, getNum 1 sk = (x, s) := ⟨_, _, rfl⟩
      obtain ⟨T1, u2, e1⟩ : ∃ T s, getText u1 = (bts T, s) := ⟨bs (getText u1).1, (getText u1).2, by rw [bts_bs]⟩
      obtain ⟨T2, u3, e2⟩ : ∃ T s, getText u2 = (bts T, s) := ⟨bs (getText u2).1, (getText u2).2, by rw [bts_bs]⟩
      obtain ⟨T3, u4, e3⟩ : ∃ T s, getText u3 = (bts T, s) := ⟨bs (getText u3).1, (getText u3).2, by rw [bts_bs]⟩
      obtain ⟨T4, u5, e4⟩ : ∃ T s, getText u4 = (bts T, s) := ⟨bs (getText u4).1, (getText u4).2, by rw [bts_bs]⟩
      have hcm : getCm sk = (⟨x0, T1, T2, T3, T4⟩, u5) := by
        unfold getCm
        simp only [e0, e1, e2, e3, e4, bs_bts]
      have hnx : getCms (k + 1) s3 = (xs ++ [⟨x0, T1, T2, T3, T4⟩], u5) := by
        show ((getCms k s3).1 ++ [(getCm (getCms k s3).2).1], (getCm (getCms k s3).2).2) = _
        rw [← hxs, ← hsk, hcm]
      have m1 := numLeft 1 sk
      have m2 := textLeft u1
      have m3 := textLeft u2
      have m4 := textLeft u3
      rw [e0] at m1
      rw [e1] at m2
      rw [e2] at m3
      rw [e3] at m4
      simp only [] at m1 m2 m3 m4
      have HMS := Lib.hid (show sk.1.length ≤ 100000000 ∧ u1.1.length ≤ 100000000 ∧ u2.1.length ≤ 100000000 ∧ u3.1.length ≤ 100000000 ∧ u4.1.length ≤ 100000000 by have := HLS.out; have := HBZ.out; omega)
      have hx0 := numIn (n := 1) (by omega) sk
      rw [e0] at hx0
      simp only [] at hx0
      have HNX := Lib.hid hnx
      have E1 := Lib.hid e1
      have E2 := Lib.hid e2
      have E3 := Lib.hid e3
      have E4 := Lib.hid e4
      have C0 := Lib.hid (as_num (gbyte_s gg sk wr HG.out (by have := HMS.out; omega)) e0)
      clear hsk hxs e0 e1 e2 e3 e4 hcm hnx lk m1 m2 m3 m4
      go_upto_region 7 with (go_at_call 38; with_reducible refine C0.out.mono ?_; rintro e w7 ⟨rfl, G7, F7⟩)
      have Q7 := HQ.out.frm F7 (fun e => hqg e)
      have K7 := HK.out.frm F7 (fun e => hrg e)
      have O7 := own_frm HO.out F7 (fun g hg h => by unfold at1 at h; subst h; exact Blk.own_ne HG.out HO.out (by decide) hg)
      have B7 := below_frm HB.out F7 (Nat.le_refl _) (fun i hi => by have h9 : i = gg := hi; omega)
      have bx : Below w7.heap.size w7 (w7.alloc (.cells #[.int .i64 x0, .string ⟨#[]⟩, .string ⟨#[]⟩, .string ⟨#[]⟩, .string ⟨#[]⟩] 117)) := (Below.refl _ _).alloc (Nat.le_refl _) _
      have X8 := Blk.new w7 117 #[.int .i64 x0, .string ⟨#[]⟩, .string ⟨#[]⟩, .string ⟨#[]⟩, .string ⟨#[]⟩]
      have G8 := G7.below bx
      have Q8 := Q7.below bx
      have K8 := K7.below bx
      have O8 := own_frm O7 (Frm.of_below bx (S := no)) (fun _ _ => id)
      have B8 := B7.trans (bx.mono B7.size)
      have hxg : w7.heap.size ≠ gg := fun e => by have := G7.lt; omega
      have hxq : w7.heap.size ≠ gq := fun e => by have := Q7.lt; omega
      have hxr : w7.heap.size ≠ gr := fun e => by have := K7.lt; omega
      have hxw : w.heap.size ≤ w7.heap.size := B7.size
      have hxo : ∀ g, V.ownBlock = some g → g ≠ w7.heap.size := fun g hg e => by have := (O7.lt g hg).2; omega
      generalize w7.alloc (.cells #[.int .i64 x0, .string ⟨#[]⟩, .string ⟨#[]⟩, .string ⟨#[]⟩, .string ⟨#[]⟩] 117) = W8 at X8 G8 Q8 K8 O8 B8 ⊢
      obtain ⟨cx, hcx⟩ : ∃ cx, cx = w7.heap.size := ⟨_, rfl⟩
      rw [← hcx] at X8 hxg hxq hxr hxw hxo ⊢
      clear hcx bx G7 Q7 K7 O7 B7 F7 C0 HG HQ HK HO HB
      have C1 := Lib.hid (as_txt (gtext_s gg u1 W8 G8 (by have := HMS.out; omega)) E1.out)
      go_upto_region 8 with (first
        | (go_at_call 40; with_reducible refine C4.out.mono ?_; rintro e v4 ⟨rfl, H4, f4⟩
           have X12 := X11.frm f4 (fun e => hxg e)
           have j1 := X12.cell 1
           have i1 := X12.free 1
           have j2 := (X12.set_ 1 (.string T1)).cell 2
           have i2 := (X12.set_ 1 (.string T1)).free 2
           have j3 := ((X12.set_ 1 (.string T1)).set_ 2 (.string T2)).cell 3
           have i3 := ((X12.set_ 1 (.string T1)).set_ 2 (.string T2)).free 3
           have j4 := (((X12.set_ 1 (.string T1)).set_ 2 (.string T2)).set_ 3 (.string T3)).cell 4
           have i4 := (((X12.set_ 1 (.string T1)).set_ 2 (.string T2)).set_ 3 (.string T3)).free 4
           have FF : Frm (at1 gg) W8 v4 := ((f1.then_ f2).then_ f3).then_ f4)
        | (go_at_call 40; with_reducible refine C3.out.mono ?_; rintro e v3 ⟨rfl, H3, f3⟩
           have X11 := X10.frm f3 (fun e => hxg e)
           have C4 := Lib.hid (as_txt (gtext_s gg u4 v3 H3 (by have := HMS.out; omega)) E4.out))
        | (go_at_call 40; with_reducible refine C2.out.mono ?_; rintro e v2 ⟨rfl, H2, f2⟩
           have X10 := X9.frm f2 (fun e => hxg e)
           have C3 := Lib.hid (as_txt (gtext_s gg u3 v2 H2 (by have := HMS.out; omega)) E3.out))
        | (go_at_call 40; with_reducible refine C1.out.mono ?_; rintro e v1 ⟨rfl, H1, f1⟩
           have X9 := X8.frm f1 (fun e => hxg e)
           have C2 := Lib.hid (as_txt (gtext_s gg u2 v1 H1 (by have := HMS.out; omega)) E2.out)))
      have F5 := Frm.set4 (w := v4) (g := cx) (.string T1) (.string T2) (.string T3) (.string T4)
      have X5 : Blk ((((v4.setCell ⟨cx, 1, none⟩ (.string T1)).setCell ⟨cx, 2, none⟩ (.string T2)).setCell ⟨cx, 3, none⟩ (.string T3)).setCell ⟨cx, 4, none⟩ (.string T4)) cx 117 #[.int .i64 x0, .string T1, .string T2, .string T3, .string T4] := by
        simpa using (((X12.set_ 1 (.string T1)).set_ 2 (.string T2)).set_ 3 (.string T3)).set_ 4 (.string T4)
      generalize (((v4.setCell ⟨cx, 1, none⟩ (.string T1)).setCell ⟨cx, 2, none⟩ (.string T2)).setCell ⟨cx, 3, none⟩ (.string T3)).setCell ⟨cx, 4, none⟩ (.string T4) = W at F5 X5 ⊢
      have G5 := H4.frm F5 (fun e => hxg e.symm)
      have Q5 := (Q8.frm FF (fun e => hqg e)).frm F5 (fun e => hxq e.symm)
      have K5 := (K8.frm FF (fun e => hrg e)).frm F5 (fun e => hxr e.symm)
      have O5 := own_frm (own_frm O8 FF (fun g hg h => by unfold at1 at h; subst h; exact Blk.own_ne G8 O8 (by decide) hg)) F5 (fun g hg h => hxo g hg h)
      have B5 : Below w.heap.size w W := below_frm (below_frm B8 FF (Nat.le_refl _) (fun i hi => by have h9 : i = gg := hi; omega)) F5 (Nat.le_refl _) (fun i hi => by have h9 : i = cx := hi; omega)
      have q2 : W.cell? ⟨gq, 2, none⟩ = some V := Q5.cell 2
      have x_0 : W.cell? ⟨cx, 0, none⟩ = some (.int .i64 x0) := X5.cell 0
      have x_1 : W.cell? ⟨cx, 1, none⟩ = some (.string T1) := X5.cell 1
      have x_2 : W.cell? ⟨cx, 2, none⟩ = some (.string T2) := X5.cell 2
      have x_3 : W.cell? ⟨cx, 3, none⟩ = some (.string T3) := X5.cell 3
      have x_4 : W.cell? ⟨cx, 4, none⟩ = some (.string T4) := X5.cell 4
      have hlo : w.heap.size ≤ W.heap.size := B5.size
      have RN : Rd (W.alloc (.cells #[.int .i64 x0, .string T1, .string T2, .string T3, .string T4] 117)) (some ⟨W.heap.size, 0, none⟩) [.int .i64 x0, .string T1, .string T2, .string T3, .string T4] := Rd.new W #[.int .i64 x0, .string T1, .string T2, .string T3, .string T4] 117
      clear H1 H2 H3 H4 f1 f2 f3 f4 X8 X9 X10 X11 X12 j1 j2 j3 j4 i1 i2 i3 i4 FF C1 C2 C3 C4 G8 Q8 K8 O8 B8 F5 X5
      go_wp2_with (first
        | (at_builtin
           refine wpList_app rfl (.tmp 38) (.tmp 40) 57 rfl w.heap.size 117 i0 _ 5 72 Tryz.underlying57 hi0 hz0 hz1 hz2 rfl (by omega) V k (flatCm xs) rfl (O5.alloc _) _ 1 1 [.int .i64 x0, .string T1, .string T2, .string T3, .string T4] rfl RN rfl (by simp [Value.oneCell']) (by unfold maxLen; omega) (by omega) (by simp; omega) ?_
           intro v9 w9 ho9 hg9 hb9 hat9
           obtain ⟨A9, c9, rfl, hc9⟩ := own_form ho9
           have Q9 := Blk.grown (Q5.alloc _) hg9 (Blk.own_ne Q5 O5 (by decide))
           have z9 := Q9.free 2
           have y9 := Q9.cell 2))
      have HFL : Hid (flatCm xs ++ [.int .i64 x0, .string T1, .string T2, .string T3, .string T4] = flatCm (xs ++ [⟨x0, T1, T2, T3, T4⟩])) := by
        unfold Hid; rw [flatCm_app]; rfl
      go_roundw
      case rel =>
        refine ⟨k + 1, .slice A9 (k + 1 : Nat) c9, by omega, by go_num, ?_, ?_, ?_, ?_, ?_⟩
        · rw [HNX.out]
          exact Blk.far (Blk.grown (Blk.alloc G5 _) hg9 (Blk.own_ne G5 O5 (by decide))) (p := ⟨gq, 2, none⟩) (fun e => hqg e.symm) _
        · show Blk _ _ _ _
          simpa using Q9.set_ 2 (.slice A9 (k + 1 : Nat) c9)
        · exact Blk.far (Blk.grown (Blk.alloc K5 _) hg9 (Blk.own_ne K5 O5 (by decide))) (p := ⟨gq, 2, none⟩) (fun e => hqr e.symm) _
        · rw [HNX.out]
          show World.ownsRow _ _ _ _ _ _ (flatCm (xs ++ [⟨x0, T1, T2, T3, T4⟩]))
          rw [← HFL.out]
          exact own_set Q9 ho9 (by decide) _
        · exact ((B5.alloc hlo _).trans hb9).setCell hqw _
      case measure => simp [intOf]; omega
    · obtain rfl : n = k := by omega
      obtain ⟨sk, hsk⟩ : ∃ sk, sk = (getCms n s3).2 := ⟨_, rfl⟩
      obtain ⟨xs, hxs⟩ : ∃ xs, xs = (getCms n s3).1 := ⟨_, rfl⟩
      have hlen := getCms_len n s3
      have hgot := getCms_got n s3
      rw [← hsk] at HG
      rw [← hxs] at HO hlen hgot
      have hshort : ∀ x ∈ xs, x.short := fun x hx => by
        have h1 := hgot x hx
        have h2 := HLS.out
        have h3 := HBZ.out
        unfold Cm.short maxLen
        omega
      have hRR := HRR.out
      rw [← hxs, ← hsk] at hRR
      subst hRR
      have hE := HE2.out
      have hO := HO2.out
      simp only [] at hE hO
      have HSH := Lib.hid hshort
      have HLN := Lib.hid hlen
      obtain ⟨A1, c1, rfl, hc1⟩ := own_form HO.out
      have hEnd := gend_s gg sk wr HG.out
      obtain ⟨sE, hsE⟩ : ∃ s, s = endG sk := ⟨_, rfl⟩
      rw [← hsE] at hEnd hE
      obtain ⟨lE, xE⟩ := sE
      simp only [] at hEnd hE
      have HEnd := Lib.hid hEnd
      clear hsE hEnd hsk hxs hlen hgot hshort HE2 HO2 HRR N1 N2 N3
      have HK1 := HK.out
      have HQ1 := HQ.out
      have hgrw : w.heap.size ≤ gr := by have := HGR.out; omega
      by_cases hx : xE = 0
      · subst hx
        rw [if_neg (by omega)] at hE
        obtain ⟨T, q, hTq⟩ : ∃ T q, layQ c0 q0 xs = (T, q) := ⟨_, _, rfl⟩
        rw [hTq] at hE
        have hqlay := fun W A c h1 => qlay_any c0 q0 A n c xs W h1 HLN.out (by unfold maxLen; omega) HSH.out
        rw [hTq] at hqlay
        have HQL := Lib.hid hqlay
        unfold reqV at HQL
        clear hqlay hTq
        by_cases hq : q = 0
        · subst hq
          by_cases hT : T = b
          · subst hT
            rw [if_pos rfl] at hE
            have hO1 : O = ⟨c0, q0, xs, sk⟩ := by rw [hO, if_pos hE]
            have htt : (T.toList == T.toList) = true := by simp
            subst hE hO1
            clear hO
            go_wp2_with (first
              | (go_at_call 95; refine HL.out.mono ?_; rintro e w10 ⟨rfl, b10⟩
                 have K10 := K9.below b10
                 have Q10 := Q9.below b10
                 have O10 := own_frm O9 (Frm.of_below b10 (S := no)) (fun _ _ => id)
                 have B10 := B9.trans (b10.mono B9.size)
                 have r0 := K10.cell 0
                 have r1 := K10.cell 1
                 have r2 := K10.cell 2
                 have t0 := K10.free 0
                 have t1 := K10.free 1
                 have t2 := K10.free 2
                 have p0 := Q10.cell 0
                 have p1 := Q10.cell 1
                 have p2 := Q10.cell 2)
              | (go_at_call 135; with_reducible refine HEnd.out.mono ?_; rintro e w9 ⟨rfl, G9, F9⟩
                 have K9 := HK1.frm F9 (fun e => hrg e)
                 have Q9 := HQ1.frm F9 (fun e => hqg e)
                 have O9 := own_frm HO.out F9 (fun g hg h => by unfold at1 at h; subst h; exact Blk.own_ne HG.out HO.out (by decide) hg)
                 have B9 : Below w.heap.size w w9 := below_frm HB.out F9 (Nat.le_refl _) (fun i hi => by have h9 : i = gg := hi; omega)
                 have a0 := Q9.cell 0
                 have a1 := Q9.cell 1
                 have a2 := Q9.cell 2
                 have HL := Lib.hid (HQL.out w9 A1 c1 (Rd.of_own O9))))
            refine bodyPost_ret (v := .tuple #[.agg #[.int .i64 c0, .int .i64 q0, .slice A1 n c1], .int .i64 0]) (by rw [results_cell_tmp rfl]; go_simp <;> rfl) rfl ⟨.slice A1 n c1, rfl, ?_, ?_⟩
            · rw [HLN.out]
              exact own_set3q K10 O10 (by decide) _ _ _ _ _ _
            · repeat (refine Below.setCell ?_ (by exact hgrw) _)
              exact B10
          · have hE6 : E = 6 := by rw [hE, if_neg (fun e => hT (congrArg (fun x => x.1) e))]
            have hO1 : O = ⟨0, 0, [], ([], 0)⟩ := by rw [hO, if_neg (by rw [hE6]; decide)]
            have htt : (T.toList == b.toList) = false := by rw [str_beq, decide_eq_false_iff_not]; exact fun h => hT (bts_inj h)
            subst hE6 hO1
            clear hO hE
            go_wp2_with (first
              | (go_at_call 95; refine HL.out.mono ?_; rintro e w10 ⟨rfl, b10⟩
                 have K10 := K9.below b10
                 have Q10 := Q9.below b10
                 have O10 := own_frm O9 (Frm.of_below b10 (S := no)) (fun _ _ => id)
                 have B10 := B9.trans (b10.mono B9.size)
                 have r0 := K10.cell 0
                 have r1 := K10.cell 1
                 have r2 := K10.cell 2
                 have t0 := K10.free 0
                 have t1 := K10.free 1
                 have t2 := K10.free 2
                 have p0 := Q10.cell 0
                 have p1 := Q10.cell 1
                 have p2 := Q10.cell 2)
              | (go_at_call 135; with_reducible refine HEnd.out.mono ?_; rintro e w9 ⟨rfl, G9, F9⟩
                 have K9 := HK1.frm F9 (fun e => hrg e)
                 have Q9 := HQ1.frm F9 (fun e => hqg e)
                 have O9 := own_frm HO.out F9 (fun g hg h => by unfold at1 at h; subst h; exact Blk.own_ne HG.out HO.out (by decide) hg)
                 have B9 : Below w.heap.size w w9 := below_frm HB.out F9 (Nat.le_refl _) (fun i hi => by have h9 : i = gg := hi; omega)
                 have a0 := Q9.cell 0
                 have a1 := Q9.cell 1
                 have a2 := Q9.cell 2
                 have HL := Lib.hid (HQL.out w9 A1 c1 (Rd.of_own O9))))
            refine bodyPost_ret (v := .tuple #[.agg #[.int .i64 0, .int .i64 0, .slice none 0 0], .int .i64 6]) (by rw [results_cell_tmp rfl]; go_simp <;> rfl) rfl ⟨.slice none 0 0, rfl, World.ownsRow_nil _ _ _ _, ?_⟩
            repeat (refine Below.setCell ?_ (by exact hgrw) _)
            exact B10
        · have hE6 : E = 6 := by rw [hE, if_neg (fun e => hq (congrArg (fun x => x.2) e))]
          have hO1 : O = ⟨0, 0, [], ([], 0)⟩ := by rw [hO, if_neg (by rw [hE6]; decide)]
          have hb : (q != 0) = true := by simpa using hq
          subst hE6 hO1
          clear hO hE
          go_wp2_with (first
            | (go_at_call 95; refine HL.out.mono ?_; rintro e w10 ⟨rfl, b10⟩
               have K10 := K9.below b10
               have Q10 := Q9.below b10
               have O10 := own_frm O9 (Frm.of_below b10 (S := no)) (fun _ _ => id)
               have B10 := B9.trans (b10.mono B9.size)
               have r0 := K10.cell 0
               have r1 := K10.cell 1
               have r2 := K10.cell 2
               have t0 := K10.free 0
               have t1 := K10.free 1
               have t2 := K10.free 2
               have p0 := Q10.cell 0
               have p1 := Q10.cell 1
               have p2 := Q10.cell 2)
            | (go_at_call 135; with_reducible refine HEnd.out.mono ?_; rintro e w9 ⟨rfl, G9, F9⟩
               have K9 := HK1.frm F9 (fun e => hrg e)
               have Q9 := HQ1.frm F9 (fun e => hqg e)
               have O9 := own_frm HO.out F9 (fun g hg h => by unfold at1 at h; subst h; exact Blk.own_ne HG.out HO.out (by decide) hg)
               have B9 : Below w.heap.size w w9 := below_frm HB.out F9 (Nat.le_refl _) (fun i hi => by have h9 : i = gg := hi; omega)
               have a0 := Q9.cell 0
               have a1 := Q9.cell 1
               have a2 := Q9.cell 2
               have HL := Lib.hid (HQL.out w9 A1 c1 (Rd.of_own O9))))
          refine bodyPost_ret (v := .tuple #[.agg #[.int .i64 0, .int .i64 0, .slice none 0 0], .int .i64 6]) (by rw [results_cell_tmp rfl]; go_simp <;> rfl) rfl ⟨.slice none 0 0, rfl, World.ownsRow_nil _ _ _ _, ?_⟩
          repeat (refine Below.setCell ?_ (by exact hgrw) _)
          exact B10
      · rw [if_pos hx] at hE
        have hO1 : O = ⟨0, 0, [], ([], 0)⟩ := by rw [hO, if_neg (by rw [hE]; exact hx)]
        have hb : (xE != 0) = true := by simpa using hx
        subst hE hO1
        clear hO
        go_wp2_with (go_at_call 135; with_reducible refine HEnd.out.mono ?_; rintro e w9 ⟨rfl, G9, F9⟩
                     have K9 := HK1.frm F9 (fun e => hrg e)
                     have B9 : Below w.heap.size w w9 := below_frm HB.out F9 (Nat.le_refl _) (fun i hi => by have h9 : i = gg := hi; omega)
                     have r0 := K9.cell 0
                     have r1 := K9.cell 1
                     have r2 := K9.cell 2
                     have t0 := K9.free 0
                     have t1 := K9.free 1
                     have t2 := K9.free 2)
        refine bodyPost_ret (v := .tuple #[.agg #[.int .i64 0, .int .i64 0, .slice none 0 0], .int .i64 E]) (by rw [results_cell_tmp rfl]; go_simp <;> rfl) rfl ⟨.slice none 0 0, rfl, World.ownsRow_nil _ _ _ _, ?_⟩
        repeat (refine Below.setCell ?_ (by exact hgrw) _)
        exact B9
end Go.Proofs.YtgigkekajdgngaaGreat
