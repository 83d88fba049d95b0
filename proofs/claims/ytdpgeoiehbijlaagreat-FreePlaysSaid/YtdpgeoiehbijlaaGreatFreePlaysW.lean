/-
  FreePlays: it is true. Conditions: lists that can be read.
-/
import Derived.Test.YtdpgeoiehbijlaaGreatFreePlaysC
import Derived.Deep.CutBlock
namespace Go.Proofs.YtdpgeoiehbijlaaGreat
open Go Go.RowKit
attribute [local go_sem] cell_set_if

set_option maxRecDepth 100000 in
set_option maxHeartbeats 16000000 in
theorem freeplays_walk (A1 A2 : Option Addr) (n1 c1 n2 c2 : Nat) (pages tx : Int) (l1 : List Int) (os : List OpF) (w : World) (hr1 : Rd w A1 (flatZ l1)) (hn1 : l1.length = n1) (hr2 : Rd w A2 (flatF os)) (hn2 : os.length = n2) (hm2 : n2 ≤ 9223372036854775807) (hf : ∀ o ∈ os, o.fits w) :
    Calls Tryz.prog 3 #[.int .i64 pages, .slice A1 n1 c1, .slice A2 n2 c2, .int .i64 tx] w fun e w' => e = .returned (.bool true) ∧ Below w.heap.size w w' := by
  have hli := lightF_any A2 n2 c2 os w hr2 hn2 hm2
  have HR1 := Lib.hid hr1
  have HN1 := Lib.hid hn1
  have HR2 := Lib.hid hr2
  have HN2 := Lib.hid hn2
  have HF := Lib.hid hf
  obtain ⟨lt, hlt⟩ : ∃ lt, lt = lightF os := ⟨_, rfl⟩
  rw [← hlt] at hli
  have HLI := Lib.hid hli
  have HLT := Lib.hid hlt
  clear hr1 hn1 hr2 hn2 hf hli hlt
  by_cases h200 : 200 < n1
  · have h2 : 200 < (n1 : Int) := by omega
    go_enter Tryz.func3, Tryz.ntmps3
    go_wp2_with (go_at_call 5; refine (alive7_any _).mono ?_; rintro e w1 ⟨rfl, b1⟩)
    go_ret
    exact ⟨rfl, b1⟩
  have h2 : (n1 : Int) ≤ 200 := by omega
  cases lt
  · go_enter Tryz.func3, Tryz.ntmps3
    go_wp2_with (first
      | (go_at_call 4; refine HLI.out.mono ?_; rintro e w0 ⟨rfl, hw0⟩; obtain rfl : w = w0 := hw0.symm)
      | (go_at_call 5; refine (alive7_any _).mono ?_; rintro e w1 ⟨rfl, b1⟩))
    go_ret
    exact ⟨rfl, b1⟩
  have hlight : n2 ≤ 50 ∧ ∀ o ∈ os, o.n ≤ 60 := by
    have h := HLT.out
    have hn := HN2.out
    unfold lightF at h
    rw [eq_comm, Bool.and_eq_true, decide_eq_true_eq] at h
    obtain ⟨h1, h3⟩ := h
    refine ⟨by omega, fun o ho => ?_⟩
    rw [List.take_of_length_le (by omega)] at h3
    have := List.all_eq_true.1 h3 o ho
    simpa using this
  obtain ⟨hn50, h60⟩ := hlight
  have H60 := Lib.hid h60
  have hn50i : (n2 : Int) ≤ 50 := by omega
  clear h60
  go_enter Tryz.func3, Tryz.ntmps3
  go_upto_region 4 with (first
    | (go_at_call 4; refine HLI.out.mono ?_; rintro e w0 ⟨rfl, hw0⟩; obtain rfl : w = w0 := hw0.symm)
    | (go_at_call 5; refine (alive7_any _).mono ?_; rintro e w1 ⟨rfl, b1⟩; have R1 := HR1.out.below b1)
    | (go_at_call 6; with_reducible refine (lentZ_any A1 n1 c1 l1 _ R1 HN1.out (by omega)).mono ?_; rintro e w2 ⟨⟨gl, nl, cl, hnl, hcl, rfl, ol⟩, b2⟩; obtain rfl : n1 = nl := HN1.out.symm.trans hnl))
  have RL : Rd w2 (some ⟨gl, 0, none⟩) (flatZ (l1 ++ [-77])) := Rd.of_own ol
  have RLp : Rd w2 (some ⟨gl, 0, none⟩) (flatZ l1) := by rw [flatZ_app] at RL; exact RL.pre
  have R2 := R1.below b2
  have HL := Lib.hid RL
  have HLp := Lib.hid RLp
  have HA := Lib.hid R2
  have hsB := b1.size
  have HB1 := Lib.hid b1
  obtain ⟨B, hB⟩ : ∃ B, B = w1.heap.size := ⟨_, rfl⟩
  have hb12 : Below B w1 w2 := by rw [hB]; exact b2
  have hB2 : B ≤ w2.heap.size := by have := b2.size; omega
  obtain ⟨i0, hi0, hz0, hz1, hz2⟩ := info_parts zinfo
  clear RL RLp R1 R2 ol b1 b2 hnl
  have hst : ∀ W, Below w2.heap.size w2 W → Calls Tryz.prog 8 #[.slice (some ⟨gl, 0, none⟩) n1 cl, .slice A1 n1 c1] W fun e w' => e = .returned (.bool true) ∧ Qt W w' := fun W h => staysZ_any A1 gl n1 n1 cl c1 l1 W (HL.out.below h) (HA.out.below h) HN1.out (by omega) (by omega)
  have HST := Lib.hid hst
  obtain ⟨bq, hbq⟩ : ∃ bq, bq = riseB pages l1 := ⟨_, rfl⟩
  have HRI : Hid (∀ W, Below w2.heap.size w2 W → Calls Tryz.prog 9 #[.int .i64 pages, .slice A1 n1 c1] W fun e w' => e = .returned (.bool bq) ∧ Qt W w') := fun W h => by
    have := rises_any pages A1 n1 c1 l1 W (HA.out.below h) HN1.out (by omega)
    rw [← hbq] at this
    exact this
  have HLL : Hid ((flatZ l1).length = n1 * 1) := by unfold Hid; rw [flatZ_len, HN1.out]
  have hload := fload_may (pages := pages) (c := cl) HLp.out HN1.out (by omega)
  rw [← hbq] at hload
  have HLOAD := Lib.hid hload
  have HBQ := Lib.hid hbq
  have HBE := Lib.hid hB
  have hBle := Nat.le_of_eq hB
  have hBge := Nat.le_of_eq hB.symm
  clear hst hload hbq hB
  go_upto_if 61 with (first
    | (go_at_call 7; refine HLOAD.out.mono ?_; rintro e w3 ⟨⟨xv, ev, rfl, hld⟩, b3⟩; have b23 : Below w2.heap.size w2 w3 := b3; have HLD := Lib.hid hld; clear hld b3)
    | (go_at_call 8; refine (HST.out _ b23).mono ?_; rintro e w4 ⟨rfl, q4⟩; have b24 := b23.trans (q4.below _))
    | (at_builtin
       refine wpList_app rfl (.const (.slice none 0 0)) (.tmp 54) 22 rfl w4.heap.size 3 i0 _ 1 8 Tryz.underlying22 hi0 hz0 hz1 hz2 rfl (by omega) (.slice none 0 0) 0 [] rfl (World.ownsRow_nil _ _ _ _) A1 n1 c1 (flatZ l1) rfl (HA.out.below b24) HLL.out (flatZ_one _) (by unfold maxLen; omega) (by omega) (Nat.le_refl _) ?_
       intro v5 w5 hown5 hg5 hb5 hat5
       rw [Nat.zero_add, List.nil_append] at hown5
       obtain ⟨A5, c5, rfl, _⟩ := own_form hown5
       have b25 := below_of hb5 b24 b24.size
       have b26 := b25.alloc b25.size (.cells #[.int .i64 pages, .slice A5 n1 c5, .slice none 0 0] 35))
    | (go_at_call 9; refine (HRI.out _ (by first | exact b26 | simpa using b26)).mono ?_; rintro e w7 ⟨rfl, q7⟩; have b27 := below_of (q7.below _) b26 b26.size))
  go_cut [10, 12] (fun u10 u12 wx => ∃ (s : Fs) (gx gr : Nat) (v1 v2 u1 u2 : Value), u10 = .pointer (some ⟨gx, 0, none⟩) ∧ u12 = .pointer (some ⟨gr, 0, none⟩) ∧ s.ok ∧ FreeAt wx B gx s v1 v2 ∧ FreeDoc wx B gr s u1 u2 ∧ (∀ q, mineF gx v1 v2 q → ¬ mineF gr u1 u2 q) ∧ Below B w1 wx)
  case first =>
    have Kr := Blk.new w5 35 #[.int .i64 pages, .slice A5 n1 c5, .slice none 0 0]
    have Kr7 := Kr.below (q7.below _)
    have O7 := own_frm hown5 (show Frm no w5 w7 from (((Frm.refl _ w5).alloc _).step (q7.below _))) (fun _ _ h => h)
    cases bq
    · have hld : xv = .pointer none ∧ ev = 1 := by
        rcases HLD.out with ⟨h, _⟩ | ⟨_, h⟩
        · cases h
        · exact h
      obtain ⟨rfl, rfl⟩ := hld
      go_wp2_with (go_at_call 10; refine (fnew_any pages _).mono ?_; rintro e w8 ⟨rfl, F8, b8⟩; have b28 := below_of b8 b27 b27.size)
      go_meet
      case rel =>
        have hs8 : B ≤ w8.heap.size := by have := b28.size; omega
        have ba : ∀ o, Below w8.heap.size w8 (w8.alloc o) := fun o => (Below.refl _ _).alloc (Nat.le_refl _) o
        refine ⟨⟨min (max pages 2) 4000, [], []⟩, w7.heap.size, w8.heap.size, _, _, .slice none 0 0, .slice none 0 0, rfl, rfl, ok_load (by omega) (by omega) List.Pairwise.nil (by simp), (F8.below (ba _)).base_ (by have := b27.size; omega), ⟨Blk.new _ _ _, hs8, World.ownsRow_nil _ _ _ _, World.ownsRow_nil _ _ _ _⟩, fun q hx hr => ?_, below_of (ba _) (below_of b28 hb12 hB2) hs8⟩
        have h1 := (F8.mine_lt q hx).2
        rcases hr with hr | hr | hr
        · omega
        · simp [Value.ownBlock] at hr
        · simp [Value.ownBlock] at hr
    · have hld : ∃ g v1, xv = .pointer (some ⟨g, 0, none⟩) ∧ ev = 0 ∧ FreeAt w3 w2.heap.size g ⟨pages, l1, []⟩ v1 (.slice none 0 0) := by
        rcases HLD.out with ⟨_, h⟩ | ⟨h, _⟩
        · exact h
        · cases h
      obtain ⟨gx, v1, rfl, rfl, F3⟩ := hld
      go_wp2
      go_meet
      case rel =>
        have hr7 : w7.heap.size = w7.heap.size := rfl
        have F7 := F3.below ((below_of (q7.below _) ((below_of hb5 ((q4.below w3.heap.size)) (q4.below w3.heap.size).size).alloc (by have := (q4.below w3.heap.size).size; have := hb5.size; omega) _) (by have := (q4.below w3.heap.size).size; have := hb5.size; simp; omega)))
        have FD : FreeDoc w7 B w5.heap.size ⟨pages, l1, []⟩ (.slice A5 n1 c5) (.slice none 0 0) := ⟨Kr7, by have := b25.size; omega, by show World.ownsRow _ _ _ _ _ l1.length _; rw [HN1.out]; exact own_base O7 (by have := b24.size; omega), World.ownsRow_nil _ _ _ _⟩
        obtain ⟨q0, q1, q2, q3⟩ := riseB_iff.1 HBQ.out.symm
        refine ⟨⟨pages, l1, []⟩, gx, w5.heap.size, _, _, _, _, rfl, rfl, ok_load q0 q1 q2 q3, F7.base_ hB2, FD, fun q hx hr => ?_, below_of b27 hb12 hB2⟩
        have h1 := (F3.mine_lt q hx).2
        have h3 := (q4.below w3.heap.size).size
        have h5 := hb5.size
        rcases hr with hr | hr | hr
        · omega
        · have := (hown5.lt q hr).1; omega
        · simp [Value.ownBlock] at hr
  case rest =>
    clear HST HRI HLL HLOAD HLD hown5 hg5 hb5 hat5 b25 b26 b27 q7 b23 b24 q4 HL HLp
    obtain ⟨s0, gx0, gr, v10, v20, u10, u20, rfl, rfl, hok0, F0, D0, xr0, hBc⟩ := hcut
    have HAc := Lib.hid ((HR2.out.below HB1.out).below (HBE.out ▸ hBc))
    have P0 : PlaysAt B (wc.alloc (.cells (bookZ (.slice none 0 0) (.slice none 0 0)) 49)) no s0 s0 gx0 v10 v20 gr u10 u20 wc.heap.size 0 (fun _ => []) (.slice none 0 0) (.slice none 0 0) [] [] := by
      have ba : Below wc.heap.size wc (wc.alloc (.cells (bookZ (.slice none 0 0) (.slice none 0 0)) 49)) := (Below.refl _ _).alloc (Nat.le_refl _) _
      have hno : ∀ q, bookAll wc.heap.size (.slice none 0 0) (.slice none 0 0) [] [] q → wc.heap.size ≤ q := fun q hq => by
        rcases hq with (rfl | hq | hq) | ⟨i, x, hx, _⟩ | ⟨i, x, hx, _⟩
        · exact Nat.le_refl _
        · simp [Value.ownBlock] at hq
        · simp [Value.ownBlock] at hq
        · simp at hx
        · simp at hx
      exact ⟨F0.below ba, D0.below ba, BookZ.start B wc (by have := hBc.size; omega) _, hok0, hok0, xr0, fun q hx hb => by have := hno q hb; have := (F0.mine_lt q hx).2; omega, fun q hr hb => by have := hno q hb; have := (D0.mine_lt q hr).2; omega, fun _ _ h => h, fun _ _ h => h, fun _ h => h.elim, fun i => by simp⟩
    have HP0 := Lib.hid P0
    have hBa : Below B w1 (wc.alloc (.cells (bookZ (.slice none 0 0) (.slice none 0 0)) 49)) := hBc.alloc (by have := hBc.size; omega) _
    have HBA := Lib.hid hBa
    unfold bookZ at HP0 HBA
    obtain ⟨gb, hgb⟩ : ∃ gb, gb = wc.heap.size := ⟨_, rfl⟩
    rw [← hgb] at HP0
    clear P0 hBa F0 D0 xr0 hok0
    go_wp2
    rw [← hgb]
    clear hgb
    go_loopw [10, 14] (fun u10 u14 wr => ∃ (k : Nat) (s : Fs) (gx : Nat) (v1 v2 u1 u2 : Value) (N : Nat) (f : Nat → List Int) (b1 b2 : Value) (V W : List Value), k ≤ n2 ∧ u10 = .pointer (some ⟨gx, 0, none⟩) ∧ u14 = .int .i64 k ∧ Hid (N = 3 * k) ∧ Hid (Below B w1 wr) ∧ Hid (PlaysAt B wr no s s gx v1 v2 gr u1 u2 gb N f b1 b2 V W)) (fun _ u14 _ => n2 - (intOf u14).toNat)
    case atStart => exact ⟨0, s0, gx0, _, _, _, _, 0, _, _, _, _, _, by omega, rfl, rfl, rfl, HBA.out, HP0.out⟩
    case round =>
      clear HP0 HBA
      obtain ⟨k, s, gx, v1, v2, u1, u2, N, f, b1, b2, V, W, hk, rfl, rfl, hN, HBr, HP⟩ := hrel
      by_cases hlt : k < n2
      · obtain ⟨bb, o, x, rfl, hbb, hx, q0, q1, q2⟩ := (HR2.out.below HB1.out).opf (k := k) (by have := HN2.out; omega)
        have hBr' : Below w1.heap.size w1 wr := HBE.out ▸ HBr.out
        have d0 := cell_bb hBr' hbb q0
        have d1 := cell_bb hBr' hbb q1
        have d2 := cell_bb hBr' hbb q2
        have hki : (k : Int) < (n2 : Int) := by omega
        have HFX := Lib.hid (HF.out x (List.mem_of_getElem? hx))
        have h60 := H60.out x (List.mem_of_getElem? hx)
        clear q0 q1 q2 hx hBr'
        have hsr : B ≤ wr.heap.size := HP.out.size
        have T8 := Blk.new wr 51 #[.int .i64 x.kind, .int .i64 x.a, .slice x.A x.n x.c]
        have ba : Below wr.heap.size wr (wr.alloc (.cells #[.int .i64 x.kind, .int .i64 x.a, .slice x.A x.n x.c] 51)) := (Below.refl _ _).alloc (Nat.le_refl _) _
        have P8 := HP.out.ext (E' := fun q => q = wr.heap.size) ba (fun q hq => .inr ⟨Nat.le_of_eq hq.symm, by simp; omega⟩)
        have B8 : Below B w1 (wr.alloc (.cells #[.int .i64 x.kind, .int .i64 x.a, .slice x.A x.n x.c] 51)) := HBr.out.alloc (by have := HBr.out.size; omega) _
        clear ba HP HBr
        go_upto_block 2 with fail
        generalize wr.alloc (.cells #[.int .i64 x.kind, .int .i64 x.a, .slice x.A x.n x.c] 51) = W8 at *
        obtain ⟨T, hT⟩ : ∃ T, T = wr.heap.size := ⟨_, rfl⟩
        rw [← hT] at T8 P8 hsr ⊢
        clear d0 d1 d2 hT wr hbb
        have t0 := T8.cell 0
        have t1 := T8.cell 1
        have t2 := T8.cell 2
        simp at t0 t1 t2
        have HT := Lib.hid T8
        have HP := Lib.hid P8
        have HB8 := Lib.hid B8
        have RX : Hid (Rd W8 x.A (flatZ x.l)) := (HFX.out.2.1.below HB1.out).below (HBE.out ▸ B8)
        have hxl := HFX.out.2.2
        have hAB : ∀ a, x.A = some a → 0 < x.n → a.block < B := fun a ha hn => by
          obtain ⟨b1, o1, e1, h2, _⟩ := (HFX.out.2.1.below HB1.out).flat (by rw [flatZ_len, hxl]; omega)
          rw [e1] at ha
          injection ha with ha
          rw [← ha]
          show b1 < B
          omega
        have HAB := Lib.hid hAB
        have HXL := Lib.hid hxl
        clear T8 P8 B8 hAB hxl
        go_cut [10] from 81 to 210 (fun u10 wx => ∃ (s : Fs) (gx : Nat) (v1 v2 u1 u2 : Value), u10 = .pointer (some ⟨gx, 0, none⟩) ∧ Hid (Below B w1 wx) ∧ Hid (PlaysAt B wx no s s gx v1 v2 gr u1 u2 gb N f b1 b2 V W))
        case first =>
          by_cases h1 : x.kind = 1
          · obtain ⟨⟨⟨a, e0⟩, s'⟩, ht⟩ : ∃ p, p = takeS s x.a := ⟨_, rfl⟩
            have HTX := Lib.hid (HP.out.takeX ht.symm)
            have HTE := Lib.hid ht
            clear ht
            go_wp2_with (first
              | (go_at_call 11; refine HTX.out.mono ?_; rintro e w5 ⟨rfl, ⟨y1, y2, P5⟩, F5⟩
                 have T5 := HT.out.outE F5 rfl
                 have t15 : w5.cell? ⟨T, 1, none⟩ = some (.int .i64 x.a) := T5.cell 1
                 have HTR := Lib.hid (P5.takeR HTE.out.symm))
              | (go_at_call 12; refine HTR.out.mono ?_; rintro e w6 ⟨rfl, ⟨z1, z2, P6⟩, F6⟩))
            go_meet
            case rel => exact ⟨s', gx, y1, y2, z1, z2, rfl, below_of ((F5.then_ F6).belowE HP.out.size) HB8.out (by have := HB8.out.size; omega), P6.less (fun _ h => h.elim)⟩
          by_cases h2 : x.kind = 2
          · obtain ⟨⟨s', kk⟩, hg⟩ : ∃ p, p = giveS s x.a x.l := ⟨_, rfl⟩
            have HG := Lib.hid hg
            have hkk : (kk : Int) ≤ 60 := by have := giveS_cnt s x.a x.l; rw [← hg] at this; have := HXL.out; simp only at *; omega
            clear hg
            go_upto_region 37 with (go_at_call 6; with_reducible refine (lentZ_any x.A x.n x.c x.l _ RX.out HXL.out (by omega)).mono ?_; rintro e w9 ⟨⟨gl2, nl2, cl2, hnl2, hcl2, rfl, ol2⟩, b9⟩; obtain rfl : x.n = nl2 := HXL.out.symm.trans hnl2)
            have hgl : W8.heap.size ≤ gl2 := (ol2.lt gl2 rfl).1
            have hgl2 : gl2 < w9.heap.size := (ol2.lt gl2 rfl).2
            have P9 := HP.out.ext (E' := fun q => q = T ∨ q = gl2) b9 (fun q hq => hq.elim (fun h => .inl h) (fun h => .inr (by subst h; exact ⟨hgl, hgl2⟩)))
            have B9 := below_of b9 HB8.out HP.out.size
            have T9 := HT.out.below b9
            have H9 := Lib.hid (P9.below ((Below.refl _ w9).drew))
            have HTd := Lib.hid (show Blk w9.drew T 51 _ from T9)
            have HO9 := Lib.hid (show w9.drew.ownsRow W8.heap.size _ _ _ _ _ from ol2)
            have HL9 : Hid (Rd w9.drew (some ⟨gl2, 0, none⟩) (flatZ x.l)) := by have h := Rd.of_own HO9.out; rw [flatZ_app] at h; exact h.pre
            have HX9 := Lib.hid ((RX.out.below b9).drew)
            have HE1 : Hid (0 < x.n → ∀ a, (some (⟨gl2, 0, none⟩ : Addr)) = some a → (a.block = T ∨ a.block = gl2) ∨ a.block < B) := fun _ a ha => by injection ha with ha; rw [← ha]; exact .inl (.inr rfl)
            have hE2 : ∀ a, x.A = some a → 0 < x.n → (a.block = T ∨ a.block = gl2) ∨ a.block < B := fun a ha hn => .inr (HAB.out a ha hn)
            have S0 : w9.drew.cell? ⟨T, 1, none⟩ = some (.int .i64 x.a) ∧ w9.drew.cell? ⟨T, 2, none⟩ = some (.slice x.A x.n x.c) := ⟨T9.cell 1, T9.cell 2⟩
            have HAX : Hid (0 < x.n → ∀ a, x.A = some a → (a.block = T ∨ a.block = gl2) ∨ a.block < B) := fun hn a ha => hE2 a ha hn
            have HAL : Hid (0 < (flatZ x.l).length → ∀ a, x.A = some a → (a.block = T ∨ a.block = gl2) ∨ a.block < B) := fun hn a ha => hE2 a ha (by rw [flatZ_len, HXL.out] at hn; omega)
            go_region_held3 (fun w' => w'.cell? ⟨T, 1, none⟩ = some (.int .i64 x.a) ∧ w'.cell? ⟨T, 2, none⟩ = some (.slice x.A x.n x.c)) (first | exact S0 | with_reducible assumption)
              (first
                | (go_at_call 13; with_reducible refine (P6r.giveX L6 HXL.out (by omega) HE1.out HG.out.symm).mono ?_; rintro e w7 ⟨rfl, ⟨y2, P7⟩, F7⟩
                   have T7 := T6.outE F7 (.inl rfl)
                   have S7 : w7.cell? ⟨T, 1, none⟩ = some (.int .i64 x.a) ∧ w7.cell? ⟨T, 2, none⟩ = some (.slice x.A x.n x.c) := ⟨T7.cell 1, T7.cell 2⟩
                   have O7 := own_outE O6 F7 (fun q hq => .inr (by injection hq with hq; exact hq.symm))
                   have X7 := X6.outE F7 HAL.out
                   have FF := F6.then_ F7)
                | (go_at_call 14; with_reducible refine (P5x.giveR X5 HXL.out (by omega) HAX.out HG.out.symm).mono ?_; rintro e w7 ⟨rfl, ⟨y2, P7⟩, F7⟩
                   have T7 := T5.outE F7 (.inl rfl)
                   have S7 : w7.cell? ⟨T, 1, none⟩ = some (.int .i64 x.a) ∧ w7.cell? ⟨T, 2, none⟩ = some (.slice x.A x.n x.c) := ⟨T7.cell 1, T7.cell 2⟩
                   have O7 := own_outE O5 F7 (fun q hq => .inr (by injection hq with hq; exact hq.symm))
                   have X7 := X5.outE F7 HAL.out
                   have FF := F5.then_ F7)
                | (go_at_call 13; with_reducible refine (H9.out.giveX HL9.out HXL.out (by omega) HE1.out HG.out.symm).mono ?_; rintro e w5 ⟨rfl, ⟨z2, P5x⟩, F5⟩
                   have T5 := HTd.out.outE F5 (.inl rfl)
                   have S5 : w5.cell? ⟨T, 1, none⟩ = some (.int .i64 x.a) ∧ w5.cell? ⟨T, 2, none⟩ = some (.slice x.A x.n x.c) := ⟨T5.cell 1, T5.cell 2⟩
                   have O5 := own_outE HO9.out F5 (fun q hq => .inr (by injection hq with hq; exact hq.symm))
                   have X5 := HX9.out.outE F5 HAL.out)
                | (go_at_call 14; with_reducible refine (H9.out.giveR HX9.out HXL.out (by omega) HAX.out HG.out.symm).mono ?_; rintro e w6 ⟨rfl, ⟨z2, P6r⟩, F6⟩
                   have T6 := HTd.out.outE F6 (.inl rfl)
                   have S6 : w6.cell? ⟨T, 1, none⟩ = some (.int .i64 x.a) ∧ w6.cell? ⟨T, 2, none⟩ = some (.slice x.A x.n x.c) := ⟨T6.cell 1, T6.cell 2⟩
                   have O6 := own_outE HO9.out F6 (fun q hq => .inr (by injection hq with hq; exact hq.symm))
                   have L6 : Rd w6 (some ⟨gl2, 0, none⟩) (flatZ x.l) := by have h := Rd.of_own O6; rw [flatZ_app] at h; exact h.pre
                   have X6 := HX9.out.outE F6 HAL.out)
                | (go_at_call 8; with_reducible refine (staysZ_any x.A gl2 x.n x.n cl2 x.c x.l w7 (Rd.of_own O7) X7 HXL.out (by omega) (by omega)).mono ?_; rintro e w8 ⟨rfl, q8⟩
                   have P8 := P7.below (q8.below _)
                   have S8 : w8.cell? ⟨T, 1, none⟩ = some (.int .i64 x.a) ∧ w8.cell? ⟨T, 2, none⟩ = some (.slice x.A x.n x.c) := ⟨cell_b (q8.below _) S7.1, cell_b (q8.below _) S7.2⟩
                   have FQ := (Frm.refl (outE B (fun q => q = T ∨ q = gl2)) w9).drew.then_ (FF.step (q8.below _))))
            all_goals
              go_wp2
              go_meet
              case rel => exact ⟨s', gx, _, _, _, _, rfl, below_of (FQ.belowE P9.size) B9 (Nat.le_refl _), P8.less (fun _ h => h.elim)⟩
          by_cases h3 : x.kind = 3
          · obtain ⟨⟨s', kk⟩, hg⟩ : ∃ p, p = relS s x.a := ⟨_, rfl⟩
            have HG := Lib.hid hg
            have h1' : (x.kind == 1) = false := by simpa using h1
            have h2' : (x.kind == 2) = false := by simpa using h2
            have hkk : (kk : Int) ≤ 4000 := by
              have h4 : kk = (outS (fun t => decide (t < x.a)) s).length := by unfold relS at hg; injection hg
              have h5 : (outS (fun t => decide (t < x.a)) s).length ≤ s.pd.length := by rw [← outK_all]; exact outK_len _ _ _
              have := HP.out.ox.len.2.1
              omega
            have H9 := Lib.hid (HP.out.below ((Below.refl _ W8).drew))
            have HTd := Lib.hid (show Blk W8.drew T 51 _ from HT.out)
            have S0 : W8.drew.cell? ⟨T, 1, none⟩ = some (.int .i64 x.a) := t1
            clear hg
            go_upto_region 40 with fail
            go_region_held3 (fun w' => w'.cell? ⟨T, 1, none⟩ = some (.int .i64 x.a)) (first | exact S0 | with_reducible assumption)
              (first
                | (go_at_call 15; with_reducible refine (P6r.relX HG.out.symm).mono ?_; rintro e w7 ⟨rfl, ⟨y1, y2, P7⟩, F7⟩
                   have S7 : w7.cell? ⟨T, 1, none⟩ = some (.int .i64 x.a) := (T6.outE F7 rfl).cell 1
                   have FF := (Frm.refl (outE B (fun q => q = T)) W8).drew.then_ (F6.then_ F7))
                | (go_at_call 16; with_reducible refine (P5x.relR HG.out.symm).mono ?_; rintro e w7 ⟨rfl, ⟨y1, y2, P7⟩, F7⟩
                   have S7 : w7.cell? ⟨T, 1, none⟩ = some (.int .i64 x.a) := (T5.outE F7 rfl).cell 1
                   have FF := (Frm.refl (outE B (fun q => q = T)) W8).drew.then_ (F5.then_ F7))
                | (go_at_call 15; with_reducible refine (H9.out.relX HG.out.symm).mono ?_; rintro e w5 ⟨rfl, ⟨z1, z2, P5x⟩, F5⟩
                   have T5 := HTd.out.outE F5 rfl
                   have S5 : w5.cell? ⟨T, 1, none⟩ = some (.int .i64 x.a) := T5.cell 1)
                | (go_at_call 16; with_reducible refine (H9.out.relR HG.out.symm).mono ?_; rintro e w6 ⟨rfl, ⟨z1, z2, P6r⟩, F6⟩
                   have T6 := HTd.out.outE F6 rfl
                   have S6 : w6.cell? ⟨T, 1, none⟩ = some (.int .i64 x.a) := T6.cell 1))
            all_goals
              go_wp2
              go_meet
              case rel => exact ⟨s', gx, _, _, _, _, rfl, below_of (FF.belowE HP.out.size) HB8.out (Nat.le_refl _), P7.less (fun _ h => h.elim)⟩
          · obtain ⟨⟨⟨a, e0⟩, s1⟩, ht⟩ : ∃ p, p = takeS s 3 := ⟨_, rfl⟩
            obtain ⟨⟨s2, k2⟩, hg⟩ : ∃ p, p = giveS s1 1 [2, 3, 4, 5] := ⟨_, rfl⟩
            obtain ⟨⟨s3, k3⟩, hr⟩ : ∃ p, p = relS s2 4611686018427387904 := ⟨_, rfl⟩
            have HTE := Lib.hid ht
            have HGE := Lib.hid hg
            have HRE := Lib.hid hr
            have HCX := Lib.hid HP.out.copyX
            clear ht hg hr
            have h1' : (x.kind == 1) = false := by simpa using h1
            have h2' : (x.kind == 2) = false := by simpa using h2
            have h3' : (x.kind == 3) = false := by simpa using h3
            go_wp2_with (first
              | (go_at_call 17; refine HCX.out.mono ?_; rintro e w5 ⟨⟨gy, y1, y2, rfl, Y5, P5, eb⟩, b5⟩
                 have B5 := below_of b5 HB8.out HP.out.size)
              | (go_at_call 11; refine (P5.takeX HTE.out.symm).mono ?_; rintro e w6 ⟨rfl, ⟨x1, x2, P6⟩, F6⟩
                 have Y6 := Y5.frm F6 (fun q hq hs => hs.2 hq)
                 have B6 := below_of (F6.belowE P5.size) B5 (by have := B5.size; omega)
                 have ba : Below w6.heap.size w6 (w6.alloc (.cells #[.int .i64 2, .int .i64 3, .int .i64 4, .int .i64 5] 3)) := (Below.refl _ _).alloc (Nat.le_refl _) _
                 have P6a := P6.ext (E' := fun q => mineF gy y1 y2 q ∨ q = w6.heap.size) ba (fun q hq => hq.elim .inl fun hq => .inr ⟨Nat.le_of_eq hq.symm, by simp; omega⟩)
                 have Y6a := Y6.below ba
                 have R6a := Rd.new w6 #[.int .i64 2, .int .i64 3, .int .i64 4, .int .i64 5] 3
                 have B6a := B6.alloc (by have := B6.size; omega) (.cells #[.int .i64 2, .int .i64 3, .int .i64 4, .int .i64 5] 3))
              | (go_at_call 13; go_loud (refine (P6a.giveX (n := 4) (ids := [2, 3, 4, 5]) R6a rfl (by omega) (fun _ a ha => .inl (.inr (by injection ha with ha; rw [← ha]))) HGE.out.symm).mono ?_); rintro e w7 ⟨rfl, ⟨x3, P7⟩, F7⟩
                 have Y7 := Y6a.frm F7 (fun q hq hs => hs.2 (.inl hq))
                 have B7 := below_of (F7.belowE P6a.size) B6a (by have := B6a.size; omega))
              | (go_at_call 15; refine (P7.relX HRE.out.symm).mono ?_; rintro e w8 ⟨rfl, ⟨x4, x5, P8⟩, F8⟩
                 have Y8 := Y7.frm F8 (fun q hq hs => hs.2 (.inl hq))
                 have B8 := below_of (F8.belowE P7.size) B7 (by have := B7.size; omega)))
            go_meet
            case rel => exact ⟨s, gy, y1, y2, u1, u2, rfl, B8, (P8.less (fun _ h => .inl h)).swap Y8 HP.out.ox eb⟩
        case rest =>
          obtain ⟨s2, gx2, p1, p2, r1, r2, rfl, HBc, HPc⟩ := hcut
          clear HP HB8 HT RX t0 t1 t2 HAB HXL HFX
          obtain ⟨na, hna⟩ : ∃ na, s2.fr.length = na := ⟨_, rfl⟩
          obtain ⟨lb, hlb⟩ : ∃ lb, lb = pendS s2 tx := ⟨_, rfl⟩
          obtain ⟨nb, hnb⟩ : ∃ nb, lb.length = nb := ⟨_, rfl⟩
          obtain ⟨lc, hlc⟩ : ∃ lc, lc = allS s2 := ⟨_, rfl⟩
          obtain ⟨nc, hnc⟩ : ∃ nc, lc.length = nc := ⟨_, rfl⟩
          have hok := HPc.out.ox
          have hla : na ≤ 4000 := by rw [← hna]; exact hok.len.1
          have hlbn : nb ≤ 4000 := by rw [← hnb, hlb]; unfold pendS; rw [sortZ_len]; rw [← outK_all]; exact Nat.le_trans (outK_len _ _ _) hok.len.2.1
          have hlcn : nc ≤ 4000 := by rw [← hnc, hlc]; exact allS_len' hok
          have hp0 : s2.pages = s2.pages := rfl
          obtain ⟨pg, hpg⟩ : ∃ pg, s2.pages = pg := ⟨_, rfl⟩
          have HNA := Lib.hid hna
          have HNB := Lib.hid hnb
          have HNC := Lib.hid hnc
          have HLB := Lib.hid hlb
          have HLC := Lib.hid hlc
          have HPG := Lib.hid hpg
          have hN3 : N ≤ 147 := by have := hN.out; omega
          have HVS : Hid (∀ q, VS V q → q < wc.heap.size) := fun q hq => (HPc.out.b.rV.vs_lt hq).2
          have HX1 : Hid (Calls Tryz.prog 18 #[.pointer (some ⟨gx2, 0, none⟩)] wc fun e w' => GivesZ wc.heap.size s2.fr e w' ∧ Below wc.heap.size wc w') := ffree_any B gx2 s2 p1 p2 wc HPc.out.x hok.len.1
          have HX2 : Hid (∀ w, FreeAt w B gx2 s2 p1 p2 → Calls Tryz.prog 19 #[.pointer (some ⟨gx2, 0, none⟩), .int .i64 tx] w fun e w' => GivesZ w.heap.size lb e w' ∧ Below w.heap.size w w') := fun w h => by rw [hlb]; exact fpend_any B gx2 s2 tx p1 p2 w h hok.len.2.1
          have HX3 : Hid (∀ w, FreeAt w B gx2 s2 p1 p2 → Calls Tryz.prog 20 #[.pointer (some ⟨gx2, 0, none⟩)] w fun e w' => GivesZ w.heap.size lc e w' ∧ Below w.heap.size w w') := fun w h => by rw [hlc]; exact fall_any B gx2 s2 p1 p2 w h hok.len.1 hok.len.2.1
          clear hna hnb hnc hlb hlc hpg hp0 hok
          go_upto_region 46 with (first
            | (go_at_call 18; refine HX1.out.mono ?_; intro e w5 hg; obtain ⟨Aa, ca, rfl, oa, la, P5, b5⟩ := HPc.out.gives HNA.out hg)
            | (go_at_call 19; refine (HX2.out _ P5.x).mono ?_; intro e w6 hg; obtain ⟨Ab, cb, rfl, ob, lb6, P6, b6⟩ := P5.gives HNB.out hg
               have oa6 := own_frm oa (Frm.of_below (S := no) b6) (fun _ _ h => h))
            | (go_at_call 20; refine (HX3.out _ P6.x).mono ?_; intro e w7 hg; obtain ⟨Ac, cc, rfl, oc, lc7, P7, b7⟩ := P6.gives HNC.out hg
               have oa7 := own_frm oa6 (Frm.of_below (S := no) b7) (fun _ _ h => h)
               have ob7 := own_frm ob (Frm.of_below (S := no) b7) (fun _ _ h => h)
               have B7 := below_of (b5.trans ((b6.mono b5.size).trans (b7.mono (Nat.le_trans b5.size b6.size)))) HBc.out HPc.out.size
               have sz := And.intro b5.size (And.intro b6.size b7.size))
            | (go_at_call 21; with_reducible refine (P9.adds (by omega) HNC.out (by omega) oc9 (fun q hq h => (vs_snoc h).elim (fun h => (vs_snoc h).elim (fun h => by have h1 := HVS.out q h; have h2 := (lc7 q hq).1; omega) (fun h => by have h1 := (la q h).2; have h2 := (lc7 q hq).1; omega)) (fun h => by have h1 := (lb6 q h).2; have h2 := (lc7 q hq).1; omega)) (fun q hq => .inr hq)).mono ?_
               rintro e w10 ⟨rfl, ⟨m1, m2, m3, P10⟩, F10, T10⟩
               have oa10 := own_frm_ty oa9 F10 T10 (by decide)
               have ob10 := own_frm_ty ob9 F10 T10 (by decide)
               have oc10 := own_frm_ty oc9 F10 T10 (by decide)
               have B10 := below_frm B9 F10 hBle (fun i hi => (P9.b.all_lt (.inl hi)).1))
            | (go_at_call 21; with_reducible refine (P8.adds (by omega) HNB.out (by omega) ob8 (fun q hq h => (vs_snoc h).elim (fun h => by have h1 := HVS.out q h; have h2 := (lb6 q hq).1; omega) (fun h => by have h1 := (la q h).2; have h2 := (lb6 q hq).1; omega)) (fun q hq => .inl (.inr hq))).mono ?_
               rintro e w9 ⟨rfl, ⟨m1, m2, m3, P9⟩, F9, T9⟩
               have oa9 := own_frm_ty oa8 F9 T9 (by decide)
               have ob9 := own_frm_ty ob8 F9 T9 (by decide)
               have oc9 := own_frm_ty oc8 F9 T9 (by decide)
               have B9 := below_frm B8 F9 hBle (fun i hi => (P8.b.all_lt (.inl hi)).1))
            | (go_at_call 21; with_reducible refine (P7.adds (by omega) HNA.out (by omega) oa7 (fun q hq h => by have h1 := HVS.out q h; have h2 := (la q hq).1; omega) (fun q hq => .inl (.inl (.inr hq)))).mono ?_
               rintro e w8 ⟨rfl, ⟨m1, m2, m3, P8⟩, F8, T8⟩
               have oa8 := own_frm_ty oa7 F8 T8 (by decide)
               have ob8 := own_frm_ty ob7 F8 T8 (by decide)
               have oc8 := own_frm_ty oc F8 T8 (by decide)
               have B8 := below_frm B7 F8 hBle (fun i hi => (P7.b.all_lt (.inl hi)).1)))
          obtain ⟨Ar, cr, _, _, hr1, _, rr1, _, _, _⟩ := P10.r.reads
          rw [HNA.out] at hr1
          have K10 := P10.r.blk
          rw [HPG.out, hr1] at K10
          have S0 : w10.drew.cell? ⟨gr, 0, none⟩ = some (.int .i64 pg) ∧ w10.drew.cell? ⟨gr, 1, none⟩ = some (.slice Ar na cr) := ⟨K10.cell 0, K10.cell 1⟩
          have hbd : Below w10.heap.size w10 w10.drew := (Below.refl _ _).drew
          have HRA := Lib.hid (Rd.of_own oa10)
          have HRB := Lib.hid (Rd.of_own ob10)
          have HRC := Lib.hid (Rd.of_own oc10)
          have HRR := Lib.hid rr1
          have HPP := Lib.hid P10
          have HBB := Lib.hid B10
          have hXP : ∀ w, Below w10.heap.size w10 w → Calls Tryz.prog 25 #[.pointer (some ⟨gx2, 0, none⟩)] w fun e w' => e = .returned (.int .i64 pg) ∧ w' = w := fun w h => fpages_of HPG.out w (P10.x.below h)
          have HXP := Lib.hid hXP
          clear P5 P6 P7 P8 P9 P10 oa oa6 oa7 oa8 oa9 oa10 ob ob7 ob8 ob9 ob10 oc oc8 oc9 oc10 la lb6 lc7 F8 F9 F10 T8 T9 T10 B7 B8 B9 B10 hr1 K10 rr1 hXP HX1 HX2 HX3
          go_region_held3 (fun W => W.cell? ⟨gr, 0, none⟩ = some (.int .i64 pg) ∧ W.cell? ⟨gr, 1, none⟩ = some (.slice Ar na cr)) (first | exact S0 | with_reducible assumption)
            (first
              | (go_at_call 22; with_reducible refine (sameZ_yes _ _ nc _ _ lc _ (HRC.out.below d14) (Rd.of_own o14) HNC.out (by omega)).mono ?_; rintro e w15 ⟨rfl, q15⟩
                 have d15 := d14.trans (q15.below _)
                 have S15 : w15.cell? ⟨gr, 0, none⟩ = some (.int .i64 pg) ∧ w15.cell? ⟨gr, 1, none⟩ = some (.slice Ar na cr) := ⟨cell_b (q15.below _) S14.1, cell_b (q15.below _) S14.2⟩)
              | (go_at_call 24; with_reducible refine (rall_of HLC.out HNC.out HPP.out.od (HPP.out.r.below d13)).mono ?_; rintro e w14 ⟨⟨A14, c14, rfl, o14⟩, b14⟩
                 have d14 := below_of b14 d13 d13.size
                 have S14 : w14.cell? ⟨gr, 0, none⟩ = some (.int .i64 pg) ∧ w14.cell? ⟨gr, 1, none⟩ = some (.slice Ar na cr) := ⟨cell_b b14 S13.1, cell_b b14 S13.2⟩)
              | (go_at_call 22; with_reducible refine (sameZ_yes _ _ nb _ _ lb _ (HRB.out.below d12) (Rd.of_own o12) HNB.out (by omega)).mono ?_; rintro e w13 ⟨rfl, q13⟩
                 have d13 := d12.trans (q13.below _)
                 have S13 : w13.cell? ⟨gr, 0, none⟩ = some (.int .i64 pg) ∧ w13.cell? ⟨gr, 1, none⟩ = some (.slice Ar na cr) := ⟨cell_b (q13.below _) S12.1, cell_b (q13.below _) S12.2⟩)
              | (go_at_call 23; with_reducible refine (rpend_of HLB.out HNB.out HPP.out.od (HPP.out.r.below d11)).mono ?_; rintro e w12 ⟨⟨A12, c12, rfl, o12⟩, b12⟩
                 have d12 := below_of b12 d11 d11.size
                 have S12 : w12.cell? ⟨gr, 0, none⟩ = some (.int .i64 pg) ∧ w12.cell? ⟨gr, 1, none⟩ = some (.slice Ar na cr) := ⟨cell_b b12 S11.1, cell_b b12 S11.2⟩)
              | (go_at_call 22; with_reducible refine (sameZ_yes _ _ na _ _ s2.fr _ (HRA.out.below hbd) (HRR.out.below hbd) HNA.out (by omega)).mono ?_; rintro e w11 ⟨rfl, q11⟩
                 have d11 := hbd.trans (q11.below _)
                 have S11 : w11.cell? ⟨gr, 0, none⟩ = some (.int .i64 pg) ∧ w11.cell? ⟨gr, 1, none⟩ = some (.slice Ar na cr) := ⟨cell_b (q11.below _) S0.1, cell_b (q11.below _) S0.2⟩)
              | (go_at_call 25; with_reducible refine (HXP.out _ d15).mono ?_; rintro e w16 ⟨rfl, hw16⟩; obtain rfl : w15 = w16 := hw16.symm))
          go_wp2
          go_roundw
          case rel => exact ⟨k + 1, s2, gx2, p1, p2, r1, r2, N + 1 + 1 + 1, _, _, _, _, _, by omega, rfl, by go_num, (by have := hN.out; unfold Hid; omega), below_of d15 HBB.out HPP.out.size, (HPP.out.below d15).less (fun _ h => h.elim)⟩
          case measure => simp [intOf]; omega
      · obtain rfl : n2 = k := by omega
        have hN3 : N ≤ 150 := by have := hN.out; omega
        have hfl := HP.out.fl
        have HB := Lib.hid HP.out.b
        have HSZ := Lib.hid HP.out.size
        go_wp2_with (first
          | (go_at_call 11; refine (ftake_nil _ _).mono ?_; rintro e w5 ⟨rfl, hw5⟩; obtain rfl : wr = w5 := hw5.symm; have ba : Below wr.heap.size wr (wr.alloc (.cells #[.int .i64 2] 3)) := (Below.refl _ _).alloc (Nat.le_refl _) _)
          | (go_at_call 13; refine (fgive_nil _ _ _).mono ?_; rintro e w6 ⟨rfl, hw6⟩; subst hw6)
          | (go_at_call 15; refine (frel_nil _ _).mono ?_; rintro e w7 ⟨rfl, b7⟩; have b07 := below_of b7 ba ba.size)
          | (go_at_call 25; refine (fpages_nil _).mono ?_; rintro e w8 ⟨rfl, hw8⟩; subst hw8)
          | (go_at_call 20; refine (fall_nil _).mono ?_; rintro e w9 ⟨rfl, hw9⟩; subst hw9)
          | (go_at_call 26; with_reducible refine (apartZ_any B gb N (fun i => (f i).length) f b1 b2 V W _ (HB.out.below b07) (by omega) (fun _ => rfl) hfl (Nat.le_trans HSZ.out b07.size)).mono ?_; rintro e w10 ⟨rfl, F10⟩))
        go_ret
        refine ⟨rfl, below_of (below_frm (below_of b07 HBr.out HSZ.out) F10 hBle (fun i hi => (HB.out.rV.vs_lt hi).1)) HB1.out (by omega)⟩
end Go.Proofs.YtdpgeoiehbijlaaGreat
