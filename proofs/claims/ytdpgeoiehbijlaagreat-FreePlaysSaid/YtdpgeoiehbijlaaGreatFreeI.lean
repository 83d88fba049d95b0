/-
  free.List's Release: what it gives. Conditions: the list is in order.
-/
import Derived.Test.YtdpgeoiehbijlaaGreatFreeE
import Derived.Test.YtdpgeoiehbijlaaGreatFreeH
namespace Go.Proofs.YtdpgeoiehbijlaaGreat
open Go Go.RowKit
attribute [local go_sem] cell_set_if

/-- The list while Release frees: k pending pages are looked at. -/
def relK (s : Fs) (b : Int) (k : Nat) : Fs := { s with fr := s.fr ++ outK (fun t => decide (t < b)) s.pd k }
theorem relK_zero (s : Fs) (b : Int) : relK s b 0 = s := by unfold relK outK idsP; simp
theorem TurnF.app {g base : Nat} {v1 v2 v3 : Value} {w w3 : World} {x : Value} {j : Nat} (F : Frm (fun k => v1.ownBlock = some k) w w3) (hat : v3.ownBlock = v1.ownBlock ∨ ∃ q, v3.ownBlock = some q ∧ w.heap.size ≤ q) (_hb : base = base) : TurnF g v1 v2 w v3 v2 (w3.setCell ⟨g, j, none⟩ x) :=
  ⟨(F.mono fun i _ hi => .inr (.inl hi)).setCell (p := ⟨g, j, none⟩) (fun _ => .inl rfl) _, fun k hk => by
    rcases hk with hk | hk | hk
    · exact .inl (.inl hk)
    · rcases hat with e | ⟨q, e, hq⟩
      · exact .inl (.inr (.inl (by rw [← e]; exact hk)))
      · rw [e] at hk; injection hk with hk; exact .inr (by omega)
    · exact .inl (.inr (.inr hk))⟩
set_option maxRecDepth 100000 in
set_option maxHeartbeats 8000000 in
theorem frel_any (base g : Nat) (s : Fs) (b : Int) (v1 v2 : Value) (w : World) (h : FreeAt w base g s v1 v2) (hok : s.ok) (hbase : base ≤ w.heap.size) :
    Calls Tryz.prog 15 #[.pointer (some ⟨g, 0, none⟩), .int .i64 b] w fun e w' => e = .returned (.int .i64 ((relS s b).2 : Nat)) ∧ ∃ v1' v2', FreeAt w' base g (relS s b).1 v1' v2' ∧ TurnF g v1 v2 w v1' v2' w' := by
  obtain ⟨i0, hi0, hz0, hz1, hz2⟩ := info_parts zinfo
  obtain ⟨A1, c1, A2, c2, hv1, hv2, _, _, _, _⟩ := h.reads
  obtain ⟨n, hn⟩ : ∃ n, n = s.pd.length := ⟨_, rfl⟩
  obtain ⟨f, hf⟩ : ∃ f, f = s.fr.length := ⟨_, rfl⟩
  have hlen := hok.len
  have hfn : f + n ≤ 4000 := by omega
  have HN := Lib.hid hn
  have HFF := Lib.hid hf
  have hni : (n : Int) ≤ 4000 := by omega
  have hfi : (f : Int) ≤ 4000 := by omega
  have h0 := h.below ((Below.refl _ w).alloc (Nat.le_refl _) (.cells #[.int .i64 b] 3))
  have K0 := Blk.new w 3 #[.int .i64 b]
  have hgb : ¬ mineF g v1 v2 w.heap.size := fun hm => by have := h.mine_lt _ hm; omega
  have T0 : TurnF g v1 v2 w v1 v2 (w.alloc (.cells #[.int .i64 b] 3)) := (TurnF.refl _ _ _ _).step ((Below.refl _ w).alloc (Nat.le_refl _) _)
  have hs0 : base ≤ (w.alloc (.cells #[.int .i64 b] 3)).heap.size := by simp; omega
  rw [← hn] at hv2
  rw [← hf] at hv1
  clear h hlen hok hn hf
  go_enter Tryz.func15, Tryz.ntmps15
  go_upto_region 1 with fail
  obtain ⟨gb, hgbe⟩ : ∃ gb, gb = w.heap.size := ⟨_, rfl⟩
  rw [← hgbe] at K0 hgb ⊢
  generalize w.alloc (.cells #[.int .i64 b] 3) = W at h0 K0 T0 hs0 ⊢
  have HT0 := Lib.hid T0
  have HG := Lib.hid hgb
  have k1 : W.cell? ⟨g, 1, none⟩ = some (.slice A1 f c1) := by rw [← hv1]; exact h0.blk.cell 1
  have k2 : W.cell? ⟨g, 2, none⟩ = some (.slice A2 n c2) := by rw [← hv2]; exact h0.blk.cell 2
  have HK0 := Lib.hid K0
  have HV1 := Lib.hid hv1
  have HV2 := Lib.hid hv2
  have H0 := Lib.hid h0
  clear hv1 hv2 T0 hgb K0 h0 hgbe
  go_wp2
  go_loopw [20] (fun u20 wr => ∃ (k : Nat) (v1' : Value), k ≤ n ∧ u20 = .int .i64 k ∧ Hid (FreeAt wr base g (relK s b k) v1' v2) ∧ Hid (TurnF g v1 v2 W v1' v2 wr)) (fun u20 _ => n - (intOf u20).toNat)
  case atStart => exact ⟨0, v1, by omega, rfl, by rw [relK_zero]; exact H0.out, TurnF.refl _ _ _ _⟩
  case round =>
    obtain ⟨k, v1', hk, rfl, HF, HT⟩ := hrel
    have kb : wr.cell? ⟨gb, 0, none⟩ = some (.int .i64 b) := (HT.out.frm.cell (p := ⟨gb, 0, none⟩) HK0.out.lt HG.out).trans (HK0.out.cell 0)
    obtain ⟨B1, d1, B2, d2, hw1, hw2, _, hr2, _, _⟩ := HF.out.reads
    obtain ⟨m, hm⟩ : ∃ m, m = (relK s b k).fr.length := ⟨_, rfl⟩
    have hmb : m ≤ f + k := by rw [hm]; unfold relK; rw [List.length_append, ← HFF.out]; have := outK_len (fun t => decide (t < b)) s.pd k; omega
    rw [← hm] at hw1
    have e2 : Value.slice A2 n c2 = .slice B2 n d2 := by rw [← HV2.out, hw2, HN.out]; rfl
    obtain rfl : A2 = B2 := by injection e2
    obtain rfl : c2 = d2 := by injection e2
    subst hw1
    have HM := Lib.hid hm
    have HR2 : Hid (Rd wr A2 (flatP s.pd)) := hr2
    clear e2 hw2 hm hr2
    by_cases hlt : k < n
    · obtain ⟨b1, o1, x, rfl, _, hx, e0, e1⟩ := HR2.out.pair (k := k) (by have := HN.out; omega)
      have hki : (k : Int) < (n : Int) := by omega
      obtain ⟨x1, x2⟩ := x
      have K := Blk.new wr 71 #[.int .i64 x1, .int .i64 x2]
      have HFa := HF.out.below ((Below.refl _ wr).alloc (Nat.le_refl _) (.cells #[.int .i64 x1, .int .i64 x2] 71))
      have kba : (wr.alloc (.cells #[.int .i64 x1, .int .i64 x2] 71)).cell? ⟨gb, 0, none⟩ = some (.int .i64 b) := cell_b ((Below.refl _ wr).alloc (Nat.le_refl _) _) kb
      have HTa := HT.out.step ((Below.refl _ wr).alloc (Nat.le_refl _) (.cells #[.int .i64 x1, .int .i64 x2] 71))
      by_cases hxb : x1 < b
      · have HE : Hid ((relK s b (k + 1)) = { relK s b k with fr := (relK s b k).fr ++ [x2] }) := by unfold Hid relK; rw [outK_yes hx (by simpa using hxb)]; simp
        have hd : decide (x1 < b) = true := decide_eq_true hxb
        have hsz : wr.heap.size < (wr.alloc (.cells #[.int .i64 x1, .int .i64 x2] 71)).heap.size := by simp
        have hss := HT.out.frm.size
        have HXB := Lib.hid hxb
        clear hx hxb
        go_upto_region 8 with fail
        generalize wr.alloc (.cells #[.int .i64 x1, .int .i64 x2] 71) = V at K HFa HTa hsz kba ⊢
        have KV := Lib.hid K
        have HFV := Lib.hid HFa
        have HTV := Lib.hid HTa
        have p1 : V.drew.cell? ⟨wr.heap.size, 1, none⟩ = some (.int .i64 x2) := K.cell 1
        have y1 : V.drew.cell? ⟨g, 1, none⟩ = some (.slice B1 m d1) := HFa.blk.cell 1
        have y1a : (V.alloc (.cells #[.int .i64 x2] 3)).cell? ⟨g, 1, none⟩ = some (.slice B1 m d1) := (HFa.blk.alloc _).cell 1
        have O1 : V.drew.ownsRow base 3 1 (.slice B1 m d1) m (flatZ (relK s b k).fr) := by have := HFa.o1; rw [← HM.out] at this; exact this
        have BV : Blk V.drew g 65 #[.int .i64 s.pages, .slice B1 m d1, v2] := HFa.blk
        have PV : V.drew.ownsRow base 71 2 v2 s.pd.length (flatP s.pd) := HFa.o2
        clear K HFa HTa
        go_region_law (refine step_app rfl (.tmp 32) (.tmp 35) 22 rfl base 3 i0 _ 1 8 Tryz.underlying22 hi0 hz0 hz1 hz2 rfl (by omega) (.slice B1 m d1) m _ rfl (O1.alloc _) _ 1 1 [.int .i64 x2] rfl (Rd.one _ _ _) rfl (by simp [Value.oneCell']) (by unfold maxLen; omega) (by omega) (by simp; omega) ?_
                       intro v3 w3 ho3 hg3 hb3 hat3
                       obtain ⟨A3, c3, rfl, hc3⟩ := own_form ho3
                       have F3 : Frm (fun k => (Value.slice B1 m d1).ownBlock = some k) V.drew w3 := ((Frm.refl _ V.drew).alloc (.cells #[.int .i64 x2] 3)).grown hg3 (fun k hk _ => hk)
                       have T3 : TyS V.drew (fun k => (Value.slice B1 m d1).ownBlock = some k) [3] := fun k _ hk => ⟨_, by simp, own_ty O1 hk⟩
                       have B3 := BV.frm_ty F3 T3 (by decide)
                       have P3 := own_frm_ty PV F3 T3 (by decide)
                       have y3 : w3.cell? ⟨g, 1, none⟩ = some (.slice B1 m d1) := B3.cell 1
                       have z3 := B3.free 1)
        all_goals
          go_wp2
          go_roundw
          case rel =>
            have hl3 : ((relK s b k).fr ++ [x2]).length = m + 1 := by rw [List.length_append, ← HM.out]; rfl
            refine ⟨k + 1, .slice A3 (m + 1 : Nat) c3, by omega, by go_num, ?_, ?_⟩
            · rw [HE.out]
              refine ⟨?_, HFV.out.low, ?_, ?_⟩
              · have := B3.set_ 1 (.slice A3 (m + 1 : Nat) c3)
                show Blk _ g _ #[.int .i64 s.pages, _, v2]
                simpa using this
              · show World.ownsRow _ _ _ _ _ ((relK s b k).fr ++ [x2]).length (flatZ ((relK s b k).fr ++ [x2]))
                rw [hl3, flatZ_app]
                exact own_frm ho3 ((Frm.refl (at1 g) _).setCell (p := ⟨g, 1, none⟩) (fun _ => rfl) _) (fun q hq e => B3.own_ne ho3 (by decide) (e ▸ hq))
              · exact own_frm P3 ((Frm.refl (at1 g) _).setCell (p := ⟨g, 1, none⟩) (fun _ => rfl) _) (fun q hq e => B3.own_ne P3 (by decide) (e ▸ hq))
            · refine (HTV.out.step (Below.refl _ V).drew).trans (TurnF.app (base := base) F3 ?_ rfl)
              rcases hat3 with e | e
              · exact .inl e
              · exact .inr ⟨_, e, by simp⟩
          case measure => simp [intOf]; omega
      · have HE : Hid (relK s b (k + 1) = relK s b k) := by unfold Hid relK; rw [outK_no hx (by simpa using hxb)]
        have hd : decide (x1 < b) = false := decide_eq_false hxb
        have HFV := Lib.hid HFa
        have HTV := Lib.hid HTa
        clear hx hxb HFa HTa
        go_wp2
        go_roundw
        case rel => exact ⟨k + 1, .slice B1 m d1, by omega, by go_num, by rw [HE.out]; exact HFV, HTV⟩
        case measure => simp [intOf]; omega
    · obtain rfl : n = k := by omega
      have hout : outK (fun t => decide (t < b)) s.pd n = outS (fun t => decide (t < b)) s := by rw [HN.out]; exact outK_all _ _
      have hfr : (relK s b n).fr = s.fr ++ outS (fun t => decide (t < b)) s := by rw [← hout]; rfl
      obtain ⟨r, hr⟩ : ∃ r, r = (outS (fun t => decide (t < b)) s).length := ⟨_, rfl⟩
      have hmr : m = f + r := by rw [HM.out, hfr, List.length_append, ← HFF.out, hr]
      have hsub : (m : Int) - (f : Int) = (r : Int) := by omega
      have hmi : (m : Int) ≤ 4000 := by omega
      have o1 := HF.out.o1
      rw [← HM.out] at o1
      have hrel : relS s b = ({ s with fr := sortZ (relK s b n).fr, pd := s.pd.filter fun q => !decide (q.1 < b) }, r) := by unfold relS; rw [hfr, hr]
      have HREL := Lib.hid hrel
      have HS := Lib.hid (sortO_any base m d1 B1 _ wr HM.out.symm o1 (by omega))
      have y1 : wr.cell? ⟨g, 1, none⟩ = some (.slice B1 m d1) := HF.out.blk.cell 1
      have T1 : TyS wr (fun k => (Value.slice B1 m d1).ownBlock = some k) [3] := fun k _ hk => ⟨_, by simp, own_ty o1 hk⟩
      have hne1 : (Value.slice B1 m d1).ownBlock ≠ some gb := fun e => by
        rcases HT.out.own gb (.inr (.inl e)) with hq | hq
        · exact HG.out hq
        · have := HK0.out.lt; omega
      have hne2 : (Value.slice A2 n c2).ownBlock ≠ some gb := fun e => HG.out (.inr (.inr (by rw [HV2.out]; exact e)))
      have HNE1 := Lib.hid hne1
      have HNE2 := Lib.hid hne2
      have HT1 := Lib.hid T1
      have HSUB := Lib.hid hmr
      have hr0 : (r : Int) ≤ 4000 := by omega
      clear hout hfr hr hmr o1 hrel T1 hne1 hne2 hlt
      go_wp2_with (first
        | (go_at_call 35; refine HS.out.mono ?_; rintro e w5 ⟨rfl, o5, F5⟩
           have B5 := HF.out.blk.frm_ty F5 HT1.out (by decide)
           have P5 := own_frm_ty HF.out.o2 F5 HT1.out (by decide)
           have k5 : w5.cell? ⟨gb, 0, none⟩ = some (.int .i64 b) := (F5.cell (p := ⟨gb, 0, none⟩) (block_lt_of_cell kb) HNE1.out).trans kb
           have y25 : w5.cell? ⟨g, 2, none⟩ = some (.slice A2 n c2) := by rw [← HV2.out]; exact B5.cell 2
           have hD := delP_any base n c2 gb A2 s.pd b w5 (by have := P5; rw [HV2.out] at this; exact (show w5.ownsRow _ _ _ _ _ _ from HN.out ▸ this)) HN.out.symm k5 HNE2.out (by omega)
           have HD := Lib.hid hD
           clear hD)
        | (go_at_call 36; refine HD.out.mono ?_; rintro e w6 ⟨p, hp1, hp2, rfl, o6, F6⟩
           have T6 : TyS w5 (fun k => (Value.slice A2 n c2).ownBlock = some k) [71] := fun k _ hk => ⟨_, by simp, own_ty P5 (by rw [HV2.out]; exact hk)⟩
           have B6 := B5.frm_ty F6 T6 (by decide)
           have O6 := own_frm_ty o5 F6 T6 (by decide)
           have y16 : w6.cell? ⟨g, 1, none⟩ = some (.slice B1 m d1) := B6.cell 1
           have y26 : w6.cell? ⟨g, 2, none⟩ = some (.slice A2 n c2) := by rw [← HV2.out]; exact B6.cell 2
           have z26 := B6.free 2))
      go_ret
      refine ⟨by (rw [HREL.out]) <;> rfl, .slice B1 m d1, .slice A2 p c2, ?_, ?_⟩
      · rw [HREL.out]
        refine ⟨?_, HF.out.low, ?_, ?_⟩
        · have := B6.set_ 2 (.slice A2 p c2)
          show Blk _ g _ #[.int .i64 (relK s b n).pages, .slice B1 m d1, .slice A2 p c2]
          simpa using this
        · show World.ownsRow _ _ _ _ _ (sortZ (relK s b n).fr).length (flatZ (sortZ (relK s b n).fr))
          rw [sortZ_len, ← HM.out]
          exact own_frm O6 ((Frm.refl (at1 g) _).setCell (p := ⟨g, 2, none⟩) (fun _ => rfl) _) (fun q hq e => B6.own_ne O6 (by decide) (e ▸ hq))
        · show World.ownsRow _ _ _ _ _ (s.pd.filter fun q => !decide (q.1 < b)).length (flatP (s.pd.filter fun q => !decide (q.1 < b)))
          rw [hp2]
          exact own_frm o6 ((Frm.refl (at1 g) _).setCell (p := ⟨g, 2, none⟩) (fun _ => rfl) _) (fun q hq e => B6.own_ne o6 (by decide) (e ▸ hq))
      · have hsame : (Value.slice A2 p c2).ownBlock = v2.ownBlock := by rw [HV2.out]; cases A2 <;> rfl
        refine (HT0.out.trans HT.out).trans ⟨((F5.mono fun i _ hi => .inr (.inl hi)).then_ (F6.mono fun i _ hi => .inr (.inr (by rw [HV2.out]; exact hi)))).setCell (p := ⟨g, 2, none⟩) (fun _ => .inl rfl) _, fun k hk => .inl ?_⟩
        rcases hk with hk | hk | hk
        · exact .inl hk
        · exact .inr (.inl hk)
        · exact .inr (.inr (by rw [← hsame]; exact hk))
end Go.Proofs.YtdpgeoiehbijlaaGreat
