/-
  The net's Send. Conditions: no more packets than a net has; what is sent lies elsewhere.
-/
import Derived.Test.YtgigkekajdgngaaGreatNetE
namespace Go.Proofs.YtgigkekajdgngaaGreat
open Go Go.RowKit
attribute [local go_sem] cell_set_if

/-- Is a packet lost? -/
def lostK (l : List Pk) (c : List Ct) (p : Pk) : Bool := decide (2000 ≤ l.length) || c.any (isT (min p.src p.dst) (max p.src p.dst))
/-- What is on its way once the first k are sent; how many were. -/
def sendN (c : List Ct) (l : List Pk) (ps : List Pk) : Nat → List Pk × Nat
  | 0 => (l, 0)
  | k + 1 => match ps[k]? with
    | some p => if lostK (sendN c l ps k).1 c p then sendN c l ps k else ((sendN c l ps k).1 ++ [p], (sendN c l ps k).2 + 1)
    | none => sendN c l ps k
theorem sendN_lost {c : List Ct} {l ps : List Pk} {k : Nat} {p : Pk} (h : ps[k]? = some p) (hb : lostK (sendN c l ps k).1 c p = true) : sendN c l ps (k + 1) = sendN c l ps k := by
  rw [sendN, h]; simp only [hb, if_true]
theorem sendN_sent {c : List Ct} {l ps : List Pk} {k : Nat} {p : Pk} (h : ps[k]? = some p) (hb : lostK (sendN c l ps k).1 c p = false) : sendN c l ps (k + 1) = ((sendN c l ps k).1 ++ [p], (sendN c l ps k).2 + 1) := by
  rw [sendN, h]; simp only [hb, Bool.false_eq_true, if_false]
theorem sendN_le (c : List Ct) (l ps : List Pk) (k : Nat) : (sendN c l ps k).2 ≤ k := by
  induction k with
  | zero => exact Nat.le_refl _
  | succ k ih =>
    cases h : ps[k]? with
    | none => rw [sendN, h]; simp only; omega
    | some p =>
      cases hb : lostK (sendN c l ps k).1 c p with
      | true => rw [sendN_lost h hb]; omega
      | false => rw [sendN_sent h hb]; show _ + 1 ≤ _; omega
theorem sendN_few {c : List Ct} {l ps : List Pk} (k : Nat) (hl : l.length ≤ 2000) : (sendN c l ps k).1.length ≤ 2000 := by
  induction k with
  | zero => exact hl
  | succ k ih =>
    cases h : ps[k]? with
    | none => rw [sendN, h]; exact ih
    | some p =>
      cases hb : lostK (sendN c l ps k).1 c p with
      | true => rw [sendN_lost h hb]; exact ih
      | false =>
        rw [sendN_sent h hb]
        unfold lostK at hb
        rw [Bool.or_eq_false_iff] at hb
        have := of_decide_eq_false hb.1
        show (_ ++ [p]).length ≤ 2000
        rw [List.length_append, List.length_singleton]; omega
set_option maxRecDepth 100000 in
set_option maxHeartbeats 8000000 in
theorem nsend_any {w : World} {base g : Nat} {l : List Pk} {c : List Ct} {v1 v2 : Value} (A : Option Addr) (n cp : Nat) (ps : List Pk) (h : NetAt w base g l c v1 v2) (hb : base ≤ w.heap.size) (hl : l.length ≤ 2000) (hc : c.length ≤ 100000)
    (hr : Rd w A (flatK ps)) (hn : ps.length = n) (hm : n ≤ 100000) (hA : 0 < n → ∀ a, A = some a → ¬ mineN g v1 v2 a.block) (hs : ∀ p ∈ ps, p.data.size ≤ 281474976710656) :
    Calls Tryz.prog 20 #[.pointer (some ⟨g, 0, none⟩), .slice A n cp] w fun e w' => e = .returned (.int .i64 ((sendN c l ps n).2 : Nat)) ∧ ∃ v1', NetAt w' base g (sendN c l ps n).1 c v1' v2 ∧ TurnN g v1 v2 w v1' v2 w' := by
  obtain ⟨i0, hi0, hz0, hz1, hz2⟩ := info_parts pkInfo
  obtain ⟨_, A2, c2, hv2, hcc⟩ := h.form
  obtain ⟨nc, hnc⟩ : ∃ nc, nc = c.length := ⟨_, rfl⟩
  rw [← hnc] at hv2
  have HV2 := Lib.hid hv2
  have HNC := Lib.hid hnc
  have HH := Lib.hid h
  have HR := Lib.hid hr
  have HN := Lib.hid hn
  have HA := Lib.hid hA
  have HS := Lib.hid hs
  have HL := Lib.hid hl
  have hni : (n : Int) ≤ 100000 := by omega
  have hgl := h.blk.lt
  clear h hr hn hA hs hv2 hnc hl
  go_enter Tryz.func20, Tryz.ntmps20
  go_wp2
  go_loopw [5, 12] (fun u5 u12 wr => ∃ (k st : Nat) (v1' : Value), k ≤ n ∧ u12 = .int .i64 k ∧ u5 = .int .i64 st ∧ st ≤ k ∧ Hid (st = (sendN c l ps k).2) ∧ Hid (NetAt wr base g (sendN c l ps k).1 c v1' v2) ∧ Hid (TurnN g v1 v2 w v1' v2 wr)) (fun _ u12 _ => n - (intOf u12).toNat)
  case atStart => exact ⟨0, 0, v1, by omega, rfl, rfl, by omega, rfl, HH.out, TurnN.refl _ _ _ _⟩
  case round =>
    obtain ⟨k, st, v1', hk, rfl, rfl, hst, HST, HF, HT⟩ := hrel
    by_cases hlt : k < n
    · have hki : (k : Int) < (n : Int) := by omega
      obtain ⟨bb, oo, x, rfl, hbl, hx, d0, d1, d2⟩ := HR.out.pk (k := k) (by have := HN.out; omega)
      have hnm : ¬ mineN g v1 v2 bb := HA.out (by omega) _ rfl
      have e0 : wr.cell? ⟨bb, oo + k * 3, none⟩ = some (.int .i64 x.src) := (HT.out.frm.cell (p := ⟨bb, oo + k * 3, none⟩) hbl hnm).trans d0
      have e1 : wr.cell? ⟨bb, oo + k * 3 + 1, none⟩ = some (.int .i64 x.dst) := (HT.out.frm.cell (p := ⟨bb, oo + k * 3 + 1, none⟩) hbl hnm).trans d1
      have e2 : wr.cell? ⟨bb, oo + k * 3 + 2, none⟩ = some (.string x.data) := (HT.out.frm.cell (p := ⟨bb, oo + k * 3 + 2, none⟩) hbl hnm).trans d2
      have HXS : Hid (x.data.size ≤ 281474976710656) := HS.out x (List.mem_of_getElem? hx)
      obtain ⟨x1, x2, x3⟩ := x
      simp only at e0 e1 e2 HXS
      have ba : Below wr.heap.size wr (wr.alloc (.cells #[.int .i64 x1, .int .i64 x2, .string x3] 65)) := (Below.refl _ _).alloc (Nat.le_refl _) _
      have X := Blk.new wr 65 #[.int .i64 x1, .int .i64 x2, .string x3]
      have HF1 := HF.out.below ba
      have HT1 := HT.out.step ba
      have HX := Lib.hid hx
      have hgr : g < wr.heap.size := HF.out.blk.lt
      obtain ⟨m, hm2⟩ : ∃ m, m = (sendN c l ps k).1.length := ⟨_, rfl⟩
      have hm2k : m ≤ 2000 := by rw [hm2]; exact sendN_few k HL.out
      have HM := Lib.hid hm2
      obtain ⟨⟨A1, c1, hv1, _⟩, _⟩ := HF.out.form
      rw [← hm2] at hv1
      subst hv1
      clear hx d0 d1 d2 hm2
      go_upto_region 7 with fail
      obtain ⟨gx, hgx⟩ : ∃ gx, gx = wr.heap.size := ⟨_, rfl⟩
      generalize wr.alloc (.cells #[.int .i64 x1, .int .i64 x2, .string x3] 65) = W at ba X HF1 HT1 ⊢
      rw [← hgx] at X ⊢
      have y0 : W.cell? ⟨g, 0, none⟩ = some (.slice A1 m c1) := HF1.blk.cell 0
      have y1 : W.cell? ⟨g, 1, none⟩ = some (.slice A2 nc c2) := by rw [← HV2.out]; exact HF1.blk.cell 1
      have z0 : W.cell? ⟨gx, 0, none⟩ = some (.int .i64 x1) := X.cell 0
      have z1 : W.cell? ⟨gx, 1, none⟩ = some (.int .i64 x2) := X.cell 1
      have z2 : W.cell? ⟨gx, 2, none⟩ = some (.string x3) := X.cell 2
      have HX2 := Lib.hid X
      have HFW := Lib.hid HF1
      have HTW := Lib.hid HT1
      have hxg : gx ≠ g := by omega
      have HGX : Hid (w.heap.size ≤ gx) := by unfold Hid; have := HT.out.frm.size; omega
      have HGR : Hid (gx < W.heap.size) := X.lt
      have HMN : Hid (∀ q, mineN g (.slice A1 m c1) v2 q → q ≠ gx) := fun q hq e => by have := (HF.out.mine_lt q hq).2; omega
      clear X HF1 HT1 e0 e1 e2 ba HF HT
      obtain ⟨q, hq⟩ : ∃ q : Bool, q = c.any (isT (min x1 x2) (max x1 x2)) := ⟨_, rfl⟩
      have hct : ∀ r : NewM W, Calls Tryz.prog 85 #[.slice A2 nc c2, .agg #[.int .i64 (min x1 x2), .int .i64 (max x1 x2)]] r.w' fun e w' => e = .returned (.bool q) ∧ Below r.w'.heap.size r.w' w' := fun r => by
        rw [hq]
        refine tcontains_any A2 nc c2 c _ _ _ ?_ HNC.out.symm (by have := HNC.out; omega)
        have ho := HFW.out.o2
        rw [HV2.out] at ho
        exact (Rd.of_own (HNC.out ▸ ho)).below r.h
      have htw : ∀ r : NewM W, Calls Tryz.prog 86 #[.int .i64 x1, .int .i64 x2] r.w' fun e w' => e = .returned (.agg #[.int .i64 (min x1 x2), .int .i64 (max x1 x2)]) ∧ Below r.w'.heap.size r.w' w' := fun r => ntwo_any x1 x2 _
      have HCT := Lib.hid hct
      have HTWO := Lib.hid htw
      have HQ := Lib.hid hq
      have n0 := NewM.cell y0
      have n1 := NewM.cell y1
      have n2 := NewM.cell z0
      have n3 := NewM.cell z1
      clear hct htw hq hgx
      by_cases hfull : 2000 ≤ m
      · have hfi : (2000 : Int) ≤ (m : Int) := by omega
        have hdf : decide ((2000 : Int) ≤ (m : Int)) = true := decide_eq_true hfi
        have HE : Hid (sendN c l ps (k + 1) = sendN c l ps k) := sendN_lost HX.out (by unfold lostK; rw [← HM.out, decide_eq_true hfull]; rfl)
        refine wp_region_quiet_new (by kernel_rfl) (by kernel_rfl) ?_
        repeat (go_big_quiet_step (fail))
        refine wpQuiet_nil ?_
        rintro _ ⟨r, rfl⟩
        go_wp2
        go_roundw
        case rel => exact ⟨k + 1, st, _, by omega, by go_num, rfl, by omega, by rw [HE.out]; exact HST.out, by rw [HE.out]; exact HFW.out.below r.h, HTW.out.step r.h⟩
        case measure => simp [intOf]; omega
      · have hfi : ¬ (2000 : Int) ≤ (m : Int) := by omega
        have hdf : decide ((2000 : Int) ≤ (m : Int)) = false := decide_eq_false hfi
        have hlk : lostK (sendN c l ps k).1 c ⟨x1, x2, x3⟩ = q := by unfold lostK; rw [← HM.out, decide_eq_false hfull, HQ.out]; rfl
        have HLK := Lib.hid hlk
        clear hlk
        cases q
        · have HE : Hid (sendN c l ps (k + 1) = ((sendN c l ps k).1 ++ [⟨x1, x2, x3⟩], (sendN c l ps k).2 + 1)) := sendN_sent HX.out HLK.out
          refine wp_region_quiet_new (by kernel_rfl) (by kernel_rfl) ?_
          repeat (go_big_quiet_step (first
            | (go_at_call 86; with_reducible exact NewM.call (HTWO.out _))
            | (go_at_call 85; with_reducible exact NewM.call (HCT.out _))))
          refine wpQuiet_nil ?_
          rintro _ ⟨r, rfl⟩
          have HFR := Lib.hid (HFW.out.below r.h)
          have HTR := Lib.hid (HTW.out.step r.h)
          have XR := Lib.hid (HX2.out.below r.h)
          have z2r := cell_b r.h z2
          have hsr := r.h.size
          generalize r.w' = V at HFR HTR XR z2r hsr ⊢
          clear n0 n1 n2 n3 HCT HTWO y0 y1 z0 z1 z2 HFW HTW HX2
          go_upto_region 9 with (go_at_call 87; refine (clone_any x3 _ HXS.out).mono ?_; rintro e w6 ⟨rfl, b6⟩
                                 have X6 := XR.out.below b6
                                 have H6 := HFR.out.below b6
                                 have t2 : w6.cell? ⟨gx, 2, none⟩ = some (.string x3) := X6.cell 2
                                 have f2 := X6.free 2)
          have FS : Frm (at1 gx) w6 (w6.setCell ⟨gx, 2, none⟩ (.string x3)) := (Frm.refl (at1 gx) w6).setCell (p := ⟨gx, 2, none⟩) (fun _ => rfl) _
          have X7 : Blk (w6.setCell ⟨gx, 2, none⟩ (.string x3)) gx 65 #[.int .i64 x1, .int .i64 x2, .string x3] := by simpa using X6.set_ 2 (.string x3)
          have H7 := H6.frm FS (fun q hq e => HMN.out q hq e)
          have T7 : TurnN g v1 v2 w (.slice A1 m c1) v2 (w6.setCell ⟨gx, 2, none⟩ (.string x3)) := ⟨(HTR.out.step b6).frm.setCell (p := ⟨gx, 2, none⟩) (fun h => absurd h (by have := HGX.out; show ¬ gx < _; omega)) _, (HTR.out.step b6).own⟩
          have hbs : base ≤ (w6.setCell ⟨gx, 2, none⟩ (.string x3)).heap.size := by have := T7.frm.size; omega
          generalize w6.setCell ⟨gx, 2, none⟩ (.string x3) = U at FS X7 H7 T7 hbs ⊢
          obtain ⟨L, hLL⟩ : ∃ L, L = (sendN c l ps k).1 := ⟨_, rfl⟩
          rw [← hLL] at H7 HM
          have HLE := Lib.hid hLL
          have H7' := Lib.hid H7
          have T7' := Lib.hid T7
          have u0 : U.drew.cell? ⟨g, 0, none⟩ = some (.slice A1 m c1) := H7.blk.cell 0
          have u0a : (U.alloc (.cells #[.int .i64 x1, .int .i64 x2, .string x3] 65)).cell? ⟨g, 0, none⟩ = some (.slice A1 m c1) := (H7.blk.alloc _).cell 0
          have s0 : U.drew.cell? ⟨gx, 0, none⟩ = some (.int .i64 x1) := X7.cell 0
          have s1 : U.drew.cell? ⟨gx, 1, none⟩ = some (.int .i64 x2) := X7.cell 1
          have s2 : U.drew.cell? ⟨gx, 2, none⟩ = some (.string x3) := X7.cell 2
          have O5 : U.drew.ownsRow base 65 3 (.slice A1 m c1) m (flatK L) := by have := H7.o1; rw [← HM.out] at this; exact this
          have RN : Rd (U.drew.alloc (.cells #[.int .i64 x1, .int .i64 x2, .string x3] 65)) (some ⟨U.drew.heap.size, 0, none⟩) [.int .i64 x1, .int .i64 x2, .string x3] := Rd.new U.drew #[.int .i64 x1, .int .i64 x2, .string x3] 65
          have HTY : Hid (TyS U (fun k => (Value.slice A1 m c1).ownBlock = some k) [65]) := fun k _ hk => ⟨_, by simp, own_ty O5 hk⟩
          have hmi : (m : Int) ≤ 2000 := by omega
          clear FS X6 H6 t2 f2 hLL H7 T7 X7 z2r hsr b6
          go_region_law (refine step_app rfl (.tmp 42) (.tmp 44) 118 rfl base 65 i0 _ 3 32 Tryz.underlying118 hi0 hz0 hz1 hz2 rfl (by omega) (.slice A1 m c1) m _ rfl (O5.alloc _) _ 1 1 [.int .i64 x1, .int .i64 x2, .string x3] rfl RN rfl (by simp [Value.oneCell']) (by unfold maxLen; omega) (by omega) (by simp; omega) ?_
                         intro v3 w5 ho5 hg5 hb5 hat5
                         obtain ⟨A3, c3, rfl, hc3⟩ := own_form ho5
                         have F5 : Frm (fun k => (Value.slice A1 m c1).ownBlock = some k) U w5 := ((Frm.refl _ U).step (Below.refl _ U).drew).then_ (((Frm.refl _ U.drew).alloc (.cells #[.int .i64 x1, .int .i64 x2, .string x3] 65)).grown hg5 (fun k hk _ => hk))
                         have B5 := H7'.out.blk.frm_ty F5 HTY.out (by decide)
                         have P5 := own_frm_ty H7'.out.o2 F5 HTY.out (by decide)
                         have y5 : w5.cell? ⟨g, 0, none⟩ = some (.slice A1 m c1) := B5.cell 0
                         have z5 := B5.free 0)
          all_goals
            go_wp2
            go_roundw
            case rel =>
              refine ⟨k + 1, st + 1, .slice A3 (m + 1 : Nat) c3, by omega, by go_num, by go_num, by omega, by rw [HE.out]; unfold Hid; rw [HST.out], ?_, ?_⟩
              · rw [HE.out]
                refine ⟨by simpa using B5.set_ 0 (.slice A3 (m + 1 : Nat) c3), HH.out.low, ?_, own_frm P5 ((Frm.refl (at1 g) _).setCell (p := ⟨g, 0, none⟩) (fun _ => rfl) _) (fun q hq e => B5.own_ne P5 (by decide) (e ▸ hq))⟩
                show World.ownsRow _ _ _ _ _ ((sendN c l ps k).1 ++ [(⟨x1, x2, x3⟩ : Pk)]).length (flatK ((sendN c l ps k).1 ++ [(⟨x1, x2, x3⟩ : Pk)]))
                rw [← HLE.out, List.length_append, ← HM.out, flatK_app]
                exact own_frm ho5 ((Frm.refl (at1 g) _).setCell (p := ⟨g, 0, none⟩) (fun _ => rfl) _) (fun q hq e => B5.own_ne ho5 (by decide) (e ▸ hq))
              · refine T7'.out.trans (TurnN.same ((F5.mono fun i _ hi => .inr (.inl hi)).setCell (p := ⟨g, 0, none⟩) (fun _ => .inl rfl) _) fun q hq => ?_)
                rcases hat5 with e | e
                · exact .inl (by rw [← e]; exact hq)
                · rw [e] at hq; injection hq with hq; refine .inr ?_; simp at hq; omega
            case measure => simp [intOf]; omega
        · have HE : Hid (sendN c l ps (k + 1) = sendN c l ps k) := sendN_lost HX.out HLK.out
          refine wp_region_quiet_new (by kernel_rfl) (by kernel_rfl) ?_
          repeat (go_big_quiet_step (first
            | (go_at_call 86; with_reducible exact NewM.call (HTWO.out _))
            | (go_at_call 85; with_reducible exact NewM.call (HCT.out _))))
          refine wpQuiet_nil ?_
          rintro _ ⟨r, rfl⟩
          go_wp2
          go_roundw
          case rel => exact ⟨k + 1, st, _, by omega, by go_num, rfl, by omega, by rw [HE.out]; exact HST.out, by rw [HE.out]; exact HFW.out.below r.h, HTW.out.step r.h⟩
          case measure => simp [intOf]; omega
    · obtain rfl : n = k := by omega
      go_wp2
      go_ret
      exact ⟨by (rw [← HST.out]) <;> rfl, v1', HF.out, HT.out⟩
end Go.Proofs.YtgigkekajdgngaaGreat
