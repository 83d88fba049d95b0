/-
  A message read. Condition: bytes that memory holds.
-/
import Derived.Test.YtgigkekajdgngaaGreatMsgR
import Derived.Test.YtgigkekajdgngaaGreatCmdF
import Derived.Test.YtgigkekajdgngaaGreatPostD
namespace Go.Proofs.YtgigkekajdgngaaGreat
open Go Go.RowKit
attribute [local go_sem] cell_set_if

theorem enInfo : (Tryz.prog.info? 61).map (fun i => (i.zero, i.size, i.bytes)) = some (some (.agg #[.int .i64 0, .int .i64 0, .int .i64 0, .int .i64 0, .slice none 0 0]), 5, 56) := by kernel_rfl
theorem flatEn_app (a b : List En) : flatEn (a ++ b) = flatEn a ++ flatEn b := by unfold flatEn; rw [List.flatMap_append]
/-- An entry whose commands lie in a row of one's own. -/
def En.owned (w : World) (base : Nat) (x : En) : Prop := w.ownsRow base 117 5 x.row x.n (flatCm x.cmds) ∧ x.cmds.length = x.n ∧ x.n ≤ 255 ∧ ∀ y ∈ x.cmds, y.short
theorem En.owned.lies {w : World} {base : Nat} {x : En} (h : x.owned w base) : x.lies w := ⟨Rd.of_own h.1, h.2.1, by have := h.2.2.1; unfold maxLen; omega, h.2.2.2⟩
theorem En.owned.frm {w w' : World} {base : Nat} {x : En} {S : Nat → Prop} {Ts : List TypeId} (h : x.owned w base) (k : Frm S w w') (hS : TyS w S Ts) (hn : 117 ∉ Ts) : x.owned w' base := ⟨own_frm_ty h.1 k hS hn, h.2⟩
theorem En.owned.below {w w' : World} {base : Nat} {x : En} (h : x.owned w base) (b : Below w.heap.size w w') : x.owned w' base := ⟨own_frm h.1 (Frm.of_below b (S := no)) (fun _ _ => id), h.2⟩
theorem eread2 (t : ByteArray) (w : World) (ht : t.size ≤ 100000000) :
    Calls Tryz.prog 41 #[.string t] w fun e w' => ∃ x : En, e = .returned (.tuple #[.agg #[.int .i64 x.index, .int .i64 x.term, .int .i64 x.client, .int .i64 x.seq, .slice x.A x.n x.c], .int .i64 (errE (bts t))]) ∧ (errE (bts t) = 0 → plE x = enP t) ∧ x.owned w' w.heap.size ∧ Below w.heap.size w w' := by
  refine (eread_any t w ht).mono fun e w' ⟨A, c, h1, h2, h3⟩ => ⟨okE (bts t) A c, h1, ?_, ?_, h3⟩
  · intro h0
    unfold okE
    rw [if_pos h0]
    rfl
  · unfold okE at h2 ⊢
    split
    · rename_i h0
      rw [if_pos h0] at h2
      refine ⟨h2, rfl, rdQ_few _, rdQ_short ?_⟩
      refine Nat.le_trans (numLeft 4 _) (Nat.le_trans (numLeft 4 _) ?_)
      show (bts t).length ≤ _
      rw [bts_len]; omega
    · exact ⟨World.ownsRow_nil _ _ _ _, rfl, by show 0 ≤ 255; omega, fun y hy => absurd hy (by simp [enZ])⟩
theorem Frm.set9 {w : World} {g : Nat} (v0 v1 v2 v3 v4 v5 v6 v7 v8 : Value) : Frm (at1 g) w (((((((((w.setCell ⟨g, 0, none⟩ v0).setCell ⟨g, 1, none⟩ v1).setCell ⟨g, 2, none⟩ v2).setCell ⟨g, 3, none⟩ v3).setCell ⟨g, 4, none⟩ v4).setCell ⟨g, 5, none⟩ v5).setCell ⟨g, 6, none⟩ v6).setCell ⟨g, 7, none⟩ v7).setCell ⟨g, 8, none⟩ v8) :=
  (((((((((Frm.refl (at1 g) w).setCell (p := ⟨g, 0, none⟩) (fun _ => rfl) v0).setCell (p := ⟨g, 1, none⟩) (fun _ => rfl) v1).setCell (p := ⟨g, 2, none⟩) (fun _ => rfl) v2).setCell (p := ⟨g, 3, none⟩) (fun _ => rfl) v3).setCell (p := ⟨g, 4, none⟩) (fun _ => rfl) v4).setCell (p := ⟨g, 5, none⟩) (fun _ => rfl) v5).setCell (p := ⟨g, 6, none⟩) (fun _ => rfl) v6).setCell (p := ⟨g, 7, none⟩) (fun _ => rfl) v7).setCell (p := ⟨g, 8, none⟩) (fun _ => rfl) v8
theorem En.owned.at1 {w w' : World} {base g : Nat} {t : TypeId} {cs : Array Value} {x : En} (h : x.owned w base) (k : Frm (at1 g) w w') (hb : Blk w g t cs) (hn : 117 ∉ [t]) : x.owned w' base := h.frm k (TyS.one hb) hn
def noM : Ms := ⟨0, 0, 0, 0, 0, 0, false, ByteArray.empty, []⟩
/-- The message that bytes tell; none, if they tell none. -/
def okM (b : ByteArray) : Ms := if errM b = 0 then rdM (openL (bts b)).1 else noM
def Ms.pl (m : Ms) : Ms := { m with es := m.es.map plE }
theorem openL_le (b : ByteArray) : (openL (bts b)).1.length ≤ b.size := by
  unfold openL
  rw [bts_len]
  split
  · simp
  · split
    · rw [List.length_take, bts_len]; omega
    · simp
set_option maxRecDepth 100000 in
set_option maxHeartbeats 16000000 in
theorem mread_any (b : ByteArray) (w : World) (hb : b.size ≤ 100000000) :
    Calls Tryz.prog 11 #[.string b] w fun e w' => ∃ (M : Ms) (A : Option Addr) (n c : Nat), e = .returned (.tuple #[M.v A n c, .int .i64 (errM b)]) ∧ M.pl = okM b ∧ M.es.length = n ∧
      w'.ownsRow w.heap.size 61 5 (.slice A n c) n (flatEn M.es) ∧ (∀ x ∈ M.es, x.owned w' w.heap.size) ∧ Below w.heap.size w w' := by
  obtain ⟨i0, hi0, hz0, hz1, hz2⟩ := info_parts enInfo
  obtain ⟨l, hl⟩ : ∃ l, l = (openL (bts b)).1 := ⟨_, rfl⟩
  obtain ⟨oe, hoe⟩ : ∃ oe : Int, oe = (openL (bts b)).2 := ⟨_, rfl⟩
  obtain ⟨E, hE⟩ : ∃ E, E = errM b := ⟨_, rfl⟩
  obtain ⟨O, hO⟩ : ∃ O, O = okM b := ⟨_, rfl⟩
  rw [← hE, ← hO]
  have hE2 : E = if oe ≠ 0 then oe else if okTs (tsM l) = false then 6 else if layM (rdM l) = (b, 0) then 0 else 6 := by rw [hE, hoe, hl]; rfl
  have hO2 : O = if E = 0 then rdM l else noM := by rw [hO, hE, hl]; rfl
  have hll : l.length ≤ b.size := by rw [hl]; exact openL_le b
  have hopen := fun W => open_any b W (by omega)
  rw [← hl] at hopen
  have hoe2 : (((openL (bts b)).2 : Nat) : Int) = oe := hoe.symm
  rw [hoe2] at hopen
  have HOP : Hid (∀ W, Calls Tryz.prog 36 #[.string b] W fun e w' => e = .returned (.tuple #[.string (bs l), .int .i64 oe]) ∧ Below W.heap.size W w') := hopen
  have HE2 := Lib.hid hE2
  have HO2 := Lib.hid hO2
  have HBZ := Lib.hid hb
  have HLL := Lib.hid hll
  clear hE hO hE2 hO2 hb hl hoe hoe2 hopen hll
  have ba : Below w.heap.size w (w.alloc (.cells #[.int .i64 0, .int .i64 0, .int .i64 0, .int .i64 0, .int .i64 0, .int .i64 0, .bool false, .string ByteArray.empty, .slice none 0 0] 24)) := (Below.refl _ _).alloc (Nat.le_refl _) _
  have K0 := Blk.new w 24 #[.int .i64 0, .int .i64 0, .int .i64 0, .int .i64 0, .int .i64 0, .int .i64 0, .bool false, .string ByteArray.empty, .slice none 0 0]
  go_enter Tryz.func11, Tryz.ntmps11
  go_upto_region 2 with (go_at_call 36; refine (HOP.out _).mono ?_; rintro e w1 ⟨rfl, b1⟩)
  have K1 := K0.below b1
  have B1 : Below w.heap.size w w1 := ba.trans (b1.mono ba.size)
  obtain ⟨gr, hgr⟩ : ∃ gr, gr = w.heap.size := ⟨_, rfl⟩
  rw [← hgr] at K1 ⊢
  have hgrw : w.heap.size ≤ gr := by omega
  have HGR := Lib.hid hgr
  clear hgr K0 ba b1
  by_cases hoe : oe = 0
  · subst hoe
    obtain ⟨T, hT⟩ : ∃ T, T = bs l := ⟨_, rfl⟩
    rw [← hT]
    have hfrom := from_s T w1
    rw [show bts T = l by rw [hT, bts_bs]] at hfrom
    have HFR := Lib.hid hfrom
    clear hT hfrom HOP
    obtain ⟨x0, s1, e1⟩ : ∃ x s, getNum 1 (l, 0) = (x, s) := ⟨_, _, rfl⟩
    obtain ⟨x1, s2, e2⟩ : ∃ x s, getNum 4 s1 = (x, s) := ⟨_, _, rfl⟩
    obtain ⟨x2, s3, e3⟩ : ∃ x s, getNum 4 s2 = (x, s) := ⟨_, _, rfl⟩
    obtain ⟨x3, s4, e4⟩ : ∃ x s, getNum 4 s3 = (x, s) := ⟨_, _, rfl⟩
    obtain ⟨x4, s5, e5⟩ : ∃ x s, getNum 4 s4 = (x, s) := ⟨_, _, rfl⟩
    obtain ⟨x5, s6, e6⟩ : ∃ x s, getNum 4 s5 = (x, s) := ⟨_, _, rfl⟩
    obtain ⟨x6, s7, e7⟩ : ∃ x s, getNum 1 s6 = (x, s) := ⟨_, _, rfl⟩
    obtain ⟨txt, s8, e8⟩ : ∃ T s, getText s7 = (bts T, s) := ⟨bs (getText s7).1, (getText s7).2, by rw [bts_bs]⟩
    obtain ⟨n0, s9, e9⟩ : ∃ x s, getNum 1 s8 = (x, s) := ⟨_, _, rfl⟩
    have hhd : hdM l = ⟨x0, x1, x2, x3, x4, x5, x6, txt, n0, s9⟩ := by
      unfold hdM
      simp only [e1, e2, e3, e4, e5, e6, e7, e8, e9, bs_bts]
    have hn0 := numByte s8
    rw [e9] at hn0
    simp only [] at hn0
    obtain ⟨n, rfl⟩ : ∃ n : Nat, n0 = (n : Int) := ⟨n0.toNat, by omega⟩
    have hn255 : n < 256 := by omega
    have q0 := numIn (n := 1) (by omega) (l, 0)
    have q1 := numIn (n := 4) (by omega) s1
    have q2 := numIn (n := 4) (by omega) s2
    have q3 := numIn (n := 4) (by omega) s3
    have q4 := numIn (n := 4) (by omega) s4
    have q5 := numIn (n := 4) (by omega) s5
    have q6 := numIn (n := 1) (by omega) s6
    have l1 := numLeft 1 (l, 0)
    have l2 := numLeft 4 s1
    have l3 := numLeft 4 s2
    have l4 := numLeft 4 s3
    have l5 := numLeft 4 s4
    have l6 := numLeft 4 s5
    have l7 := numLeft 1 s6
    have l8 := textLeft s7
    have l8t := textGot s7
    have l9 := numLeft 1 s8
    rw [e1] at l1 q0
    rw [e2] at l2 q1
    rw [e3] at l3 q2
    rw [e4] at l4 q3
    rw [e5] at l5 q4
    rw [e6] at l6 q5
    rw [e7] at l7 q6
    rw [e8] at l8 l8t
    rw [e9] at l9
    simp only [] at l1 l2 l3 l4 l5 l6 l7 l8 l9 q0 q1 q2 q3 q4 q5 q6
    rw [bts_len] at l8t
    have HLS := Lib.hid (show l.length ≤ 100000000 ∧ s1.1.length ≤ 100000000 ∧ s2.1.length ≤ 100000000 ∧ s3.1.length ≤ 100000000 ∧ s4.1.length ≤ 100000000 ∧ s5.1.length ≤ 100000000 ∧ s6.1.length ≤ 100000000 ∧ s7.1.length ≤ 100000000 ∧ s8.1.length ≤ 100000000 ∧ s9.1.length ≤ 100000000 ∧ txt.size ≤ 100000000 by have := HLL.out; have := HBZ.out; omega)
    have N1 := Lib.hid e1
    have N2 := Lib.hid e2
    have N3 := Lib.hid e3
    have N4 := Lib.hid e4
    have N5 := Lib.hid e5
    have N6 := Lib.hid e6
    have N7 := Lib.hid e7
    have N8 := Lib.hid e8
    have N9 := Lib.hid e9
    have HHD := Lib.hid hhd
    clear e1 e2 e3 e4 e5 e6 e7 e8 e9 l1 l2 l3 l4 l5 l6 l7 l8 l8t l9 hn0 hhd
    have hrg : gr ≠ w1.heap.size := fun e => by have := K1.lt; omega
    have hbg : w.heap.size ≤ w1.heap.size := B1.size
    obtain ⟨gg, hgg⟩ : ∃ gg, gg = w1.heap.size := ⟨_, rfl⟩
    rw [← hgg] at HFR hrg hbg
    have HGG := Lib.hid hgg
    clear hgg
    go_upto_region 6 with (first
      | (go_at_call 37; with_reducible refine HFR.out.mono ?_; rintro e w2 ⟨rfl, G2, b2⟩
         have K2 := K1.below (by rw [← HGG.out]; exact b2)
         have B2 := B1.trans (b2.mono hbg)
         have C1 := Lib.hid (as_num (gbyte_s gg _ w2 G2 (by have := HLS.out; show l.length ≤ _; omega)) N1.out))
      | (go_at_call 39; with_reducible refine C6.out.mono ?_; rintro e w8 ⟨rfl, G8, F8⟩
         have K8 := K7.frm F8 (fun e => hrg e)
         have B8 := below_frm B7 F8 (Nat.le_refl _) (fun i hi => by have h9 : i = gg := hi; omega))
      | (go_at_call 39; with_reducible refine C5.out.mono ?_; rintro e w7 ⟨rfl, G7, F7⟩
         have K7 := K6.frm F7 (fun e => hrg e)
         have B7 := below_frm B6 F7 (Nat.le_refl _) (fun i hi => by have h9 : i = gg := hi; omega)
         have C6 := Lib.hid (as_num (gword_s gg _ w7 G7 (by have := HLS.out; omega)) N6.out))
      | (go_at_call 39; with_reducible refine C4.out.mono ?_; rintro e w6 ⟨rfl, G6, F6⟩
         have K6 := K5.frm F6 (fun e => hrg e)
         have B6 := below_frm B5 F6 (Nat.le_refl _) (fun i hi => by have h9 : i = gg := hi; omega)
         have C5 := Lib.hid (as_num (gword_s gg _ w6 G6 (by have := HLS.out; omega)) N5.out))
      | (go_at_call 39; with_reducible refine C3.out.mono ?_; rintro e w5 ⟨rfl, G5, F5⟩
         have K5 := K4.frm F5 (fun e => hrg e)
         have B5 := below_frm B4 F5 (Nat.le_refl _) (fun i hi => by have h9 : i = gg := hi; omega)
         have C4 := Lib.hid (as_num (gword_s gg _ w5 G5 (by have := HLS.out; omega)) N4.out))
      | (go_at_call 39; with_reducible refine C2.out.mono ?_; rintro e w4 ⟨rfl, G4, F4⟩
         have K4 := K3.frm F4 (fun e => hrg e)
         have B4 := below_frm B3 F4 (Nat.le_refl _) (fun i hi => by have h9 : i = gg := hi; omega)
         have C3 := Lib.hid (as_num (gword_s gg _ w4 G4 (by have := HLS.out; omega)) N3.out))
      | (go_at_call 38; with_reducible refine C1.out.mono ?_; rintro e w3 ⟨rfl, G3, F3⟩
         have K3 := K2.frm F3 (fun e => hrg e)
         have B3 := below_frm B2 F3 (Nat.le_refl _) (fun i hi => by have h9 : i = gg := hi; omega)
         have C2 := Lib.hid (as_num (gword_s gg _ w3 G3 (by have := HLS.out; omega)) N2.out)))
    have ba8 : Below w8.heap.size w8 (w8.alloc (.cells #[.int .i64 x0, .int .i64 x1, .int .i64 x2, .int .i64 x3, .int .i64 x4, .int .i64 x5, .bool false, .string ⟨#[]⟩, .slice none 0 0] 24)) := (Below.refl _ _).alloc (Nat.le_refl _) _
    have X9 := Blk.new w8 24 #[.int .i64 x0, .int .i64 x1, .int .i64 x2, .int .i64 x3, .int .i64 x4, .int .i64 x5, .bool false, .string ⟨#[]⟩, .slice none 0 0]
    have G9 := G8.below ba8
    have K9 := K8.below ba8
    have B9 := B8.trans (ba8.mono B8.size)
    have hxg : w8.heap.size ≠ gg := fun e => by have := G8.lt; omega
    have hxk : gr ≠ w8.heap.size := fun e => by have := K8.lt; omega
    have hxw : w.heap.size ≤ w8.heap.size := B8.size
    generalize w8.alloc (.cells #[.int .i64 x0, .int .i64 x1, .int .i64 x2, .int .i64 x3, .int .i64 x4, .int .i64 x5, .bool false, .string ⟨#[]⟩, .slice none 0 0] 24) = W9 at ba8 X9 G9 K9 B9 ⊢
    obtain ⟨gx, hgx⟩ : ∃ gx, gx = w8.heap.size := ⟨_, rfl⟩
    rw [← hgx] at X9 hxg hxk hxw ⊢
    clear hgx ba8 G8 K8 B8 F8 C6 G7 K7 B7 F7 C5 G6 K6 B6 F6 C4 G5 K5 B5 F5 C3 G4 K4 B4 F4 C2 G3 K3 B3 F3 C1 G2 K2 B2 K1 B1 b2 HFR
    have C7 := Lib.hid (as_num (gbyte_s gg _ W9 G9 (by have := HLS.out; omega)) N7.out)
    go_upto_region 7 with (go_at_call 38; with_reducible refine C7.out.mono ?_; rintro e w10 ⟨rfl, G10, F10⟩
                           have K10 := K9.frm F10 (fun e => hrg e)
                           have X10 := X9.frm F10 (fun e => hxg e)
                           have B10 := below_frm B9 F10 (Nat.le_refl _) (fun i hi => by have h9 : i = gg := hi; omega)
                           have y6 := X10.cell 6
                           have f6 := X10.free 6)
    obtain ⟨ok, hok⟩ : ∃ ok : Bool, ok = (x6 == 1) := ⟨_, rfl⟩
    rw [← hok]
    have X11 : Blk (w10.setCell ⟨gx, 6, none⟩ (.bool ok)) gx 24 #[.int .i64 x0, .int .i64 x1, .int .i64 x2, .int .i64 x3, .int .i64 x4, .int .i64 x5, .bool ok, .string ⟨#[]⟩, .slice none 0 0] := by simpa using X10.set_ 6 (.bool ok)
    have G11 : GetS (w10.setCell ⟨gx, 6, none⟩ (.bool ok)) gg s7 := Blk.far G10 (p := ⟨gx, 6, none⟩) (fun e => hxg e.symm) _
    have K11 := K10.far (p := ⟨gx, 6, none⟩) hxk (.bool ok)
    have B11 : Below w.heap.size w (w10.setCell ⟨gx, 6, none⟩ (.bool ok)) := B10.setCell hxw _
    generalize w10.setCell ⟨gx, 6, none⟩ (.bool ok) = W11 at X11 G11 K11 B11 ⊢
    have HOK := Lib.hid hok
    clear hok G10 X10 K10 B10 F10 y6 f6 C7 X9 G9 K9 B9
    have C8 := Lib.hid (as_txt (gtext_s gg _ W11 G11 (by have := HLS.out; omega)) N8.out)
    go_upto_region 8 with (go_at_call 40; with_reducible refine C8.out.mono ?_; rintro e w12 ⟨rfl, G12, F12⟩
                           have K12 := K11.frm F12 (fun e => hrg e)
                           have X12 := X11.frm F12 (fun e => hxg e)
                           have B12 := below_frm B11 F12 (Nat.le_refl _) (fun i hi => by have h9 : i = gg := hi; omega)
                           have y7 := X12.cell 7
                           have f7 := X12.free 7)
    have X13 : Blk (w12.setCell ⟨gx, 7, none⟩ (.string txt)) gx 24 #[.int .i64 x0, .int .i64 x1, .int .i64 x2, .int .i64 x3, .int .i64 x4, .int .i64 x5, .bool ok, .string txt, .slice none 0 0] := by simpa using X12.set_ 7 (.string txt)
    have G13 : GetS (w12.setCell ⟨gx, 7, none⟩ (.string txt)) gg s8 := Blk.far G12 (p := ⟨gx, 7, none⟩) (fun e => hxg e.symm) _
    have K13 := K12.far (p := ⟨gx, 7, none⟩) hxk (.string txt)
    have B13 : Below w.heap.size w (w12.setCell ⟨gx, 7, none⟩ (.string txt)) := B12.setCell hxw _
    generalize w12.setCell ⟨gx, 7, none⟩ (.string txt) = W13 at X13 G13 K13 B13 ⊢
    clear G12 X12 K12 B12 F12 y7 f7 C8 X11 G11 K11 B11
    have C9 := Lib.hid (as_num (gbyte_s gg _ W13 G13 (by have := HLS.out; omega)) N9.out)
    go_wp2_with (go_at_call 38; with_reducible refine C9.out.mono ?_; rintro e w14 ⟨rfl, G14, F14⟩
                 have HK14 := Lib.hid (K13.frm F14 (fun e => hrg e))
                 have HX14 := Lib.hid (X13.frm F14 (fun e => hxg e))
                 have HB14 := Lib.hid (below_frm B13 F14 (Nat.le_refl _) (fun i hi => by have h9 : i = gg := hi; omega))
                 have HG14 := Lib.hid G14)
    clear C9 X13 G13 K13 B13 G14 F14
    go_loopw [3, 8, 9, 45] (fun u3 _ _ u45 wr => ∃ (k : Nat) (V : Value) (es : List En), k ≤ n ∧ u3 = .int .i64 0 ∧ u45 = .int .i64 k ∧ Hid (GetS wr gg (getTs k s9).2) ∧ Hid (Blk wr gx 24 #[.int .i64 x0, .int .i64 x1, .int .i64 x2, .int .i64 x3, .int .i64 x4, .int .i64 x5, .bool ok, .string txt, V]) ∧ Hid (Blk wr gr 24 #[.int .i64 0, .int .i64 0, .int .i64 0, .int .i64 0, .int .i64 0, .int .i64 0, .bool false, .string ByteArray.empty, .slice none 0 0]) ∧ Hid (wr.ownsRow w.heap.size 61 5 V k (flatEn es)) ∧ Hid (es.length = k ∧ es.map plE = (getTs k s9).1.map enP ∧ okTs (getTs k s9).1 = true) ∧ Hid (∀ x ∈ es, x.owned wr w.heap.size) ∧ Hid (Below w.heap.size w wr)) (fun _ _ _ u45 _ => n - (intOf u45).toNat)
    case atStart => exact ⟨0, .slice none 0 0, [], by omega, rfl, rfl, HG14.out, HX14.out, HK14.out, World.ownsRow_nil _ _ _ _, ⟨rfl, rfl, rfl⟩, fun x hx => absurd hx (by simp), HB14.out⟩
    case round =>
      clear HG14 HX14 HK14 HB14
      obtain ⟨k, V, es, hkn, rfl, rfl, HG, HX, HK, HO, HES, HOW, HB⟩ := hrel
      by_cases hlt : k < n
      · have hki : (k : Int) < (n : Int) := by omega
        obtain ⟨sk, hsk⟩ : ∃ sk, sk = (getTs k s9).2 := ⟨_, rfl⟩
        obtain ⟨ts, hts⟩ : ∃ ts, ts = (getTs k s9).1 := ⟨_, rfl⟩
        have lk := getTs_left k s9
        rw [← hsk] at HG lk
        rw [← hts] at HES
        obtain ⟨t, u1, e1⟩ : ∃ T s, getText sk = (bts T, s) := ⟨bs (getText sk).1, (getText sk).2, by rw [bts_bs]⟩
        have hnx : getTs (k + 1) s9 = (ts ++ [t], u1) := by
          show ((getTs k s9).1 ++ [bs (getText (getTs k s9).2).1], (getText (getTs k s9).2).2) = _
          rw [← hts, ← hsk, e1]
          simp only [bs_bts]
        have htg := textGot sk
        rw [e1] at htg
        simp only [bts_len] at htg
        have htz : t.size ≤ 100000000 := by have := HLS.out; omega
        have HNX := Lib.hid hnx
        have C1 := Lib.hid (as_txt (gtext_s gg sk wr HG.out (by have := HLS.out; omega)) e1)
        obtain ⟨q, hq⟩ : ∃ q, q = errE (bts t) := ⟨_, rfl⟩
        have hrd := fun W => eread2 t W htz
        rw [← hq] at hrd
        have HRD := Lib.hid hrd
        have HQ := Lib.hid hq
        clear hsk hts e1 hnx htg hrd hq lk
        go_upto_region 11 with (first
          | (go_at_call 40; with_reducible refine C1.out.mono ?_; rintro e w7 ⟨rfl, G7, F7⟩
             have K7 := HK.out.frm F7 (fun e => hrg e)
             have X7 := HX.out.frm F7 (fun e => hxg e)
             have O7 := own_frm HO.out F7 (fun g hg h => by unfold at1 at h; subst h; exact Blk.own_ne HG.out HO.out (by decide) hg)
             have W7 : ∀ y ∈ es, y.owned w7 w.heap.size := fun y hy => (HOW.out y hy).at1 F7 HG.out (by decide)
             have B7 := below_frm HB.out F7 (Nat.le_refl _) (fun i hi => by have h9 : i = gg := hi; omega))
          | (go_at_call 41; refine (HRD.out _).mono ?_; rintro e w8 ⟨x, rfl, hxq, ho8, b8⟩
             have G8 := G7.below b8
             have K8 := K7.below b8
             have X8 := X7.below b8
             have O8 := own_frm O7 (Frm.of_below b8 (S := no)) (fun _ _ => id)
             have W8 : ∀ y ∈ es, y.owned w8 w.heap.size := fun y hy => (W7 y hy).below b8
             have B8 := B7.trans (b8.mono B7.size)
             have V8 : x.owned w8 w.heap.size := ⟨own_base ho8.1 B7.size, ho8.2⟩))
        have bx : Below w8.heap.size w8 (w8.alloc (.cells #[.int .i64 x.index, .int .i64 x.term, .int .i64 x.client, .int .i64 x.seq, .slice x.A x.n x.c] 61)) := (Below.refl _ _).alloc (Nat.le_refl _) _
        have Y9 := Blk.new w8 61 #[.int .i64 x.index, .int .i64 x.term, .int .i64 x.client, .int .i64 x.seq, .slice x.A x.n x.c]
        have G9 := G8.below bx
        have K9 := K8.below bx
        have X9 := X8.below bx
        have O9 := own_frm O8 (Frm.of_below bx (S := no)) (fun _ _ => id)
        have W9 : ∀ y ∈ es, y.owned (w8.alloc (.cells #[.int .i64 x.index, .int .i64 x.term, .int .i64 x.client, .int .i64 x.seq, .slice x.A x.n x.c] 61)) w.heap.size := fun y hy => (W8 y hy).below bx
        have V9 := V8.below bx
        have B9 := B8.trans (bx.mono B8.size)
        generalize w8.alloc (.cells #[.int .i64 x.index, .int .i64 x.term, .int .i64 x.client, .int .i64 x.seq, .slice x.A x.n x.c] 61) = W at Y9 G9 K9 X9 O9 W9 V9 B9 ⊢
        obtain ⟨cx, hcx⟩ : ∃ cx, cx = w8.heap.size := ⟨_, rfl⟩
        rw [← hcx] at Y9 ⊢
        have HW9 := Lib.hid W9
        have HV9 := Lib.hid V9
        have HXQ := Lib.hid hxq
        clear hcx bx G8 K8 X8 O8 W8 V8 B8 G7 K7 X7 O7 W7 B7 F7 ho8 b8 hxq W9 V9 C1 HRD
        by_cases hq0 : q = 0
        · subst hq0
          have x8 : W.cell? ⟨gx, 8, none⟩ = some V := X9.cell 8
          have y_0 : W.cell? ⟨cx, 0, none⟩ = some (.int .i64 x.index) := Y9.cell 0
          have y_1 : W.cell? ⟨cx, 1, none⟩ = some (.int .i64 x.term) := Y9.cell 1
          have y_2 : W.cell? ⟨cx, 2, none⟩ = some (.int .i64 x.client) := Y9.cell 2
          have y_3 : W.cell? ⟨cx, 3, none⟩ = some (.int .i64 x.seq) := Y9.cell 3
          have y_4 : W.cell? ⟨cx, 4, none⟩ = some (.slice x.A x.n x.c) := Y9.cell 4
          have hlo : w.heap.size ≤ W.heap.size := B9.size
          have RN : Rd (W.alloc (.cells #[.int .i64 x.index, .int .i64 x.term, .int .i64 x.client, .int .i64 x.seq, .slice x.A x.n x.c] 61)) (some ⟨W.heap.size, 0, none⟩) [.int .i64 x.index, .int .i64 x.term, .int .i64 x.client, .int .i64 x.seq, .slice x.A x.n x.c] := Rd.new W #[.int .i64 x.index, .int .i64 x.term, .int .i64 x.client, .int .i64 x.seq, .slice x.A x.n x.c] 61
          go_wp2_with (first
            | (at_builtin
               refine wpList_app rfl (.tmp 57) (.tmp 59) 22 rfl w.heap.size 61 i0 _ 5 56 Tryz.underlying22 hi0 hz0 hz1 hz2 rfl (by omega) V k (flatEn es) rfl (O9.alloc _) _ 1 1 [.int .i64 x.index, .int .i64 x.term, .int .i64 x.client, .int .i64 x.seq, .slice x.A x.n x.c] rfl RN rfl (by simp [Value.oneCell']) (by unfold maxLen; omega) (by omega) (by simp; omega) ?_
               intro v9 w9 ho9 hg9 hb9 hat9
               obtain ⟨A9, c9, rfl, hc9⟩ := own_form ho9
               have F9 : Frm (fun k => V.ownBlock = some k) W w9 := ((Frm.refl _ W).alloc (.cells #[.int .i64 x.index, .int .i64 x.term, .int .i64 x.client, .int .i64 x.seq, .slice x.A x.n x.c] 61)).grown hg9 (fun k hk _ => hk)
               have T9 : TyS W (fun k => V.ownBlock = some k) [61] := fun k _ hk => ⟨_, by simp, own_ty O9 hk⟩
               have X10 := X9.frm_ty F9 T9 (by decide)
               have K10 := K9.frm_ty F9 T9 (by decide)
               have G10 : GetS w9 gg u1 := Blk.frm_ty G9 F9 T9 (by decide)
               have z10 := X10.free 8
               have y10 := X10.cell 8))
          have FS : Frm (at1 gx) w9 (w9.setCell ⟨gx, 8, none⟩ (.slice A9 (k + 1 : Nat) c9)) := (Frm.refl (at1 gx) w9).setCell (p := ⟨gx, 8, none⟩) (fun _ => rfl) _
          have HFL : Hid (flatEn es ++ [.int .i64 x.index, .int .i64 x.term, .int .i64 x.client, .int .i64 x.seq, .slice x.A x.n x.c] = flatEn (es ++ [x])) := by
            unfold Hid; rw [flatEn_app]; rfl
          go_roundw
          case rel =>
            refine ⟨k + 1, .slice A9 (k + 1 : Nat) c9, es ++ [x], by omega, rfl, by go_num, ?_, ?_, ?_, ?_, ?_, ?_, ?_⟩
            · rw [HNX.out]
              exact Blk.far G10 (p := ⟨gx, 8, none⟩) (fun e => hxg e.symm) _
            · show Blk _ _ _ _
              simpa using X10.set_ 8 (.slice A9 (k + 1 : Nat) c9)
            · exact K10.far (p := ⟨gx, 8, none⟩) hxk _
            · show World.ownsRow _ _ _ _ _ _ _
              rw [← HFL.out]
              exact own_set X10 ho9 (by decide) _
            · have h := HES.out
              unfold Hid
              rw [HNX.out]
              refine ⟨by rw [List.length_append, h.1]; rfl, ?_, ?_⟩
              · simp only [List.map_append, List.map_cons, List.map_nil]
                rw [h.2.1, HXQ.out rfl]
              · rw [okTs_iff]
                intro y hy
                rcases List.mem_append.1 hy with hy | hy
                · exact okTs_iff.1 h.2.2 y hy
                · rw [List.mem_singleton.1 hy]; exact HQ.out.symm
            · intro y hy
              rcases List.mem_append.1 hy with hy | hy
              · exact ((HW9.out y hy).frm F9 T9 (by decide)).at1 FS X10 (by decide)
              · rw [List.mem_singleton.1 hy]
                exact (HV9.out.frm F9 T9 (by decide)).at1 FS X10 (by decide)
            · exact ((B9.alloc hlo _).trans hb9).setCell hxw _
          case measure => simp [intOf]; omega
        · have hbq : (q != 0) = true := by simpa using hq0
          have hin : t ∈ tsM l := by
            unfold tsM
            rw [HHD.out]
            simp only [Int.toNat_natCast]
            refine (getTs_mono s9 (show k + 1 ≤ n by omega)).subset ?_
            rw [HNX.out]; simp
          have hno : okTs (tsM l) = false := by
            cases h : okTs (tsM l)
            · rfl
            · exact absurd (HQ.out.trans (okTs_iff.1 h t hin)) hq0
          have hE6 : E = 6 := by rw [HE2.out, if_neg (by omega), if_pos hno]
          have hO1 : O = noM := by rw [HO2.out, if_neg (by rw [hE6]; decide)]
          subst hE6 hO1
          have r0 := K9.cell 0
          have t0 := K9.free 0
          have r1 := K9.cell 1
          have t1 := K9.free 1
          have r2 := K9.cell 2
          have t2 := K9.free 2
          have r3 := K9.cell 3
          have t3 := K9.free 3
          have r4 := K9.cell 4
          have t4 := K9.free 4
          have r5 := K9.cell 5
          have t5 := K9.free 5
          have r6 := K9.cell 6
          have t6 := K9.free 6
          have r7 := K9.cell 7
          have t7 := K9.free 7
          have r8 := K9.cell 8
          have t8 := K9.free 8
          clear HE2 HO2 hin hno
          go_wp2
          refine bodyPost_ret (v := .tuple #[.agg #[.int .i64 0, .int .i64 0, .int .i64 0, .int .i64 0, .int .i64 0, .int .i64 0, .bool false, .string ByteArray.empty, .slice none 0 0], .int .i64 6]) (by rw [results_cell_tmp rfl]; go_simp <;> rfl) rfl ⟨noM, none, 0, 0, rfl, rfl, rfl, World.ownsRow_nil _ _ _ _, fun x hx => absurd hx (by simp [noM]), ?_⟩
          repeat (refine Below.setCell ?_ (by exact hgrw) _)
          exact B9
      · obtain rfl : n = k := by omega
        have hts : tsM l = (getTs n s9).1 := by unfold tsM; rw [HHD.out]; simp only [Int.toNat_natCast]
        have hE := HE2.out
        have hO := HO2.out
        obtain ⟨hes1, hes2, hes3⟩ := HES.out
        rw [hts, if_neg (by omega), if_neg (by rw [hes3]; decide)] at hE
        obtain ⟨M, hM⟩ : ∃ M : Ms, M = ⟨x0, x1, x2, x3, x4, x5, ok, txt, es⟩ := ⟨_, rfl⟩
        have hpl : ({ M with es := (tsM l).map enP } : Ms) = rdM l := by
          rw [hM]; unfold rdM; rw [HHD.out]; simp only []; rw [HOK.out]; rfl
        have hlay : layM (rdM l) = layM M := by
          rw [← hpl]
          refine (layM_plain M _ ?_).symm
          rw [hts, hM]
          show es.map plE = _
          rw [hes2, List.map_map]; rfl
        have hMpl : M.pl = rdM l := by
          rw [← hpl]
          unfold Ms.pl
          rw [hts, hM]
          show (⟨_, _, _, _, _, _, _, _, es.map plE⟩ : Ms) = _
          rw [hes2]
        obtain ⟨A1, c1, rfl, hc1⟩ := own_form HO.out
        have hcl := layM_any M A1 n c1 wr (by rw [hM]; exact Rd.of_own HO.out) (by rw [hM]; exact hes1) (by unfold maxLen; omega) (by rw [hM]; show txt.size ≤ _; have := HLS.out; unfold maxLen; omega) (by rw [hM]; exact fun x hx => (HOW.out x hx).lies)
        rw [hlay] at hE
        have hMv : M.v A1 n c1 = .agg #[.int .i64 x0, .int .i64 x1, .int .i64 x2, .int .i64 x3, .int .i64 x4, .int .i64 x5, .bool ok, .string txt, .slice A1 n c1] := by rw [hM]; rfl
        rw [hMv] at hcl
        obtain ⟨T2, q, hTq⟩ : ∃ T q, layM M = (T, q) := ⟨_, _, rfl⟩
        rw [hTq] at hE hcl
        have HL := Lib.hid hcl
        have HMV := Lib.hid hMv
        have HMP := Lib.hid hMpl
        have HME : Hid (M.es = es) := by rw [hM]; exact rfl
        have HEL := Lib.hid hes1
        have X0 := HX.out
        have v0 := X0.cell 0
        have v1 := X0.cell 1
        have v2 := X0.cell 2
        have v3 := X0.cell 3
        have v4 := X0.cell 4
        have v5 := X0.cell 5
        have v6 := X0.cell 6
        have v7 := X0.cell 7
        have v8 := X0.cell 8
        clear hts hes1 hes2 hes3 hpl hlay hMpl hcl hMv hTq hM HE2 HO2 X0 N1 N2 N3 N4 N5 N6 N7 N8 N9
        by_cases hq : q = 0
        · subst hq
          by_cases hT : T2 = b
          · subst hT
            rw [if_pos rfl] at hE
            have hO1 : O = rdM l := by rw [hO, if_pos hE]
            have htt : (T2.toList == T2.toList) = true := by simp
            have HO1 := Lib.hid hO1
            subst hE
            clear hO hO1
            go_wp2_with (go_at_call 8; refine HL.out.mono ?_; rintro e w15 ⟨rfl, b15⟩
                         have K15 := HK.out.below b15
                         have X15 := HX.out.below b15
                         have O15 := own_frm HO.out (Frm.of_below b15 (S := no)) (fun _ _ => id)
                         have B15 := HB.out.trans (b15.mono HB.out.size)
                         have r0 := K15.cell 0
                         have t0 := K15.free 0
                         have r1 := K15.cell 1
                         have t1 := K15.free 1
                         have r2 := K15.cell 2
                         have t2 := K15.free 2
                         have r3 := K15.cell 3
                         have t3 := K15.free 3
                         have r4 := K15.cell 4
                         have t4 := K15.free 4
                         have r5 := K15.cell 5
                         have t5 := K15.free 5
                         have r6 := K15.cell 6
                         have t6 := K15.free 6
                         have r7 := K15.cell 7
                         have t7 := K15.free 7
                         have r8 := K15.cell 8
                         have t8 := K15.free 8
                         have p0 := X15.cell 0
                         have p1 := X15.cell 1
                         have p2 := X15.cell 2
                         have p3 := X15.cell 3
                         have p4 := X15.cell 4
                         have p5 := X15.cell 5
                         have p6 := X15.cell 6
                         have p7 := X15.cell 7
                         have p8 := X15.cell 8)
            refine bodyPost_ret (v := .tuple #[.agg #[.int .i64 x0, .int .i64 x1, .int .i64 x2, .int .i64 x3, .int .i64 x4, .int .i64 x5, .bool ok, .string txt, .slice A1 n c1], .int .i64 0]) (by rw [results_cell_tmp rfl]; go_simp <;> rfl) rfl ⟨M, A1, n, c1, by rw [HMV.out], by rw [HMP.out, HO1.out], by rw [HME.out]; exact HEL.out, ?_, ?_, ?_⟩
            · rw [HME.out]
              exact own_frm O15 (Frm.set9 _ _ _ _ _ _ _ _ _) (fun g hg h => by unfold at1 at h; subst h; exact Blk.own_ne K15 O15 (by decide) hg)
            · rw [HME.out]
              exact fun x hx => ((HOW.out x hx).below b15).at1 (Frm.set9 _ _ _ _ _ _ _ _ _) K15 (by decide)
            · repeat (refine Below.setCell ?_ (by exact hgrw) _)
              exact B15
          · have hE6 : E = 6 := by rw [hE, if_neg (fun e => hT (congrArg (fun x => x.1) e))]
            have hO1 : O = noM := by rw [hO, if_neg (by rw [hE6]; decide)]
            have htt : (T2.toList == b.toList) = false := by rw [str_beq, decide_eq_false_iff_not]; exact fun h => hT (bts_inj h)
            subst hE6 hO1
            clear hO hE
            go_wp2_with (go_at_call 8; refine HL.out.mono ?_; rintro e w15 ⟨rfl, b15⟩
                         have K15 := HK.out.below b15
                         have X15 := HX.out.below b15
                         have O15 := own_frm HO.out (Frm.of_below b15 (S := no)) (fun _ _ => id)
                         have B15 := HB.out.trans (b15.mono HB.out.size)
                         have r0 := K15.cell 0
                         have t0 := K15.free 0
                         have r1 := K15.cell 1
                         have t1 := K15.free 1
                         have r2 := K15.cell 2
                         have t2 := K15.free 2
                         have r3 := K15.cell 3
                         have t3 := K15.free 3
                         have r4 := K15.cell 4
                         have t4 := K15.free 4
                         have r5 := K15.cell 5
                         have t5 := K15.free 5
                         have r6 := K15.cell 6
                         have t6 := K15.free 6
                         have r7 := K15.cell 7
                         have t7 := K15.free 7
                         have r8 := K15.cell 8
                         have t8 := K15.free 8
                         have p0 := X15.cell 0
                         have p1 := X15.cell 1
                         have p2 := X15.cell 2
                         have p3 := X15.cell 3
                         have p4 := X15.cell 4
                         have p5 := X15.cell 5
                         have p6 := X15.cell 6
                         have p7 := X15.cell 7
                         have p8 := X15.cell 8)
            refine bodyPost_ret (v := .tuple #[.agg #[.int .i64 0, .int .i64 0, .int .i64 0, .int .i64 0, .int .i64 0, .int .i64 0, .bool false, .string ByteArray.empty, .slice none 0 0], .int .i64 6]) (by rw [results_cell_tmp rfl]; go_simp <;> rfl) rfl ⟨noM, none, 0, 0, rfl, rfl, rfl, World.ownsRow_nil _ _ _ _, fun x hx => absurd hx (by simp [noM]), ?_⟩
            repeat (refine Below.setCell ?_ (by exact hgrw) _)
            exact B15
        · have hE6 : E = 6 := by rw [hE, if_neg (fun e => hq (congrArg (fun x => x.2) e))]
          have hO1 : O = noM := by rw [hO, if_neg (by rw [hE6]; decide)]
          have hb : (q != 0) = true := by simpa using hq
          subst hE6 hO1
          clear hO hE
          go_wp2_with (go_at_call 8; refine HL.out.mono ?_; rintro e w15 ⟨rfl, b15⟩
                       have K15 := HK.out.below b15
                       have X15 := HX.out.below b15
                       have O15 := own_frm HO.out (Frm.of_below b15 (S := no)) (fun _ _ => id)
                       have B15 := HB.out.trans (b15.mono HB.out.size)
                       have r0 := K15.cell 0
                       have t0 := K15.free 0
                       have r1 := K15.cell 1
                       have t1 := K15.free 1
                       have r2 := K15.cell 2
                       have t2 := K15.free 2
                       have r3 := K15.cell 3
                       have t3 := K15.free 3
                       have r4 := K15.cell 4
                       have t4 := K15.free 4
                       have r5 := K15.cell 5
                       have t5 := K15.free 5
                       have r6 := K15.cell 6
                       have t6 := K15.free 6
                       have r7 := K15.cell 7
                       have t7 := K15.free 7
                       have r8 := K15.cell 8
                       have t8 := K15.free 8
                       have p0 := X15.cell 0
                       have p1 := X15.cell 1
                       have p2 := X15.cell 2
                       have p3 := X15.cell 3
                       have p4 := X15.cell 4
                       have p5 := X15.cell 5
                       have p6 := X15.cell 6
                       have p7 := X15.cell 7
                       have p8 := X15.cell 8)
          refine bodyPost_ret (v := .tuple #[.agg #[.int .i64 0, .int .i64 0, .int .i64 0, .int .i64 0, .int .i64 0, .int .i64 0, .bool false, .string ByteArray.empty, .slice none 0 0], .int .i64 6]) (by rw [results_cell_tmp rfl]; go_simp <;> rfl) rfl ⟨noM, none, 0, 0, rfl, rfl, rfl, World.ownsRow_nil _ _ _ _, fun x hx => absurd hx (by simp [noM]), ?_⟩
          repeat (refine Below.setCell ?_ (by exact hgrw) _)
          exact B15
  · have HE3 := HE2.out
    rw [if_pos hoe] at HE3
    have hO1 : O = noM := by rw [HO2.out, if_neg (by rw [HE3]; exact hoe)]
    have hbb : (oe != 0) = true := by simpa using hoe
    have K9 := K1
    have r0 := K9.cell 0
    have t0 := K9.free 0
    have r1 := K9.cell 1
    have t1 := K9.free 1
    have r2 := K9.cell 2
    have t2 := K9.free 2
    have r3 := K9.cell 3
    have t3 := K9.free 3
    have r4 := K9.cell 4
    have t4 := K9.free 4
    have r5 := K9.cell 5
    have t5 := K9.free 5
    have r6 := K9.cell 6
    have t6 := K9.free 6
    have r7 := K9.cell 7
    have t7 := K9.free 7
    have r8 := K9.cell 8
    have t8 := K9.free 8
    subst HE3 hO1
    clear HE2 HO2
    go_wp2
    refine bodyPost_ret (v := .tuple #[.agg #[.int .i64 0, .int .i64 0, .int .i64 0, .int .i64 0, .int .i64 0, .int .i64 0, .bool false, .string ByteArray.empty, .slice none 0 0], .int .i64 E]) (by rw [results_cell_tmp rfl]; go_simp <;> rfl) rfl ⟨noM, none, 0, 0, rfl, rfl, rfl, World.ownsRow_nil _ _ _ _, fun x hx => absurd hx (by simp [noM]), ?_⟩
    repeat (refine Below.setCell ?_ (by exact hgrw) _)
    exact B1
end Go.Proofs.YtgigkekajdgngaaGreat
