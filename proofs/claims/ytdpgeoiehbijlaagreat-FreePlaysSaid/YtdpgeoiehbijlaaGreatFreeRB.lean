/-
  The document's Free: Give: what it does. Conditions: the list is in order; ids that lie in other memory.
-/
import Derived.Test.YtdpgeoiehbijlaaGreatFreeRA
import Derived.Test.YtdpgeoiehbijlaaGreatFreeL
namespace Go.Proofs.YtdpgeoiehbijlaaGreat
open Go Go.RowKit
attribute [local go_sem] cell_set_if

theorem waitInfo : (Tryz.prog.info? 73).map (fun i => (i.zero, i.size, i.bytes)) = some (some (.agg #[.int .i64 0, .int .i64 0]), 2, 16) := by kernel_rfl
theorem allS_has {s : Fs} {id : Int} : decide (id ∈ allS s) = hasS s id := by
  unfold hasS allS
  rw [Bool.eq_iff_iff]
  simp only [decide_eq_true_eq, Bool.or_eq_true, sortZ_mem, List.mem_append]
theorem allS_len' {s : Fs} (h : s.ok) : (allS s).length ≤ 4000 := by
  unfold allS idsP; rw [sortZ_len, List.length_append, List.length_map]; exact h.len.2.2
theorem rall_of {base g m : Nat} {s : Fs} {v1 v2 : Value} {L : List Int} {w : World} (hL : L = allS s) (hm : L.length = m) (hok : s.ok) (h : FreeDoc w base g s v1 v2) :
    Calls Tryz.prog 24 #[.pointer (some ⟨g, 0, none⟩)] w fun e w' => (∃ A c, e = .returned (.slice A m c) ∧ w'.ownsRow w.heap.size 3 1 (.slice A m c) m (flatZ L)) ∧ Below w.heap.size w w' := by
  subst hm hL
  exact rall_any base g s v1 v2 w h hok
set_option maxRecDepth 100000 in
set_option maxHeartbeats 4000000 in
theorem rgive_any (base g : Nat) (s : Fs) (tx : Int) (v1 v2 : Value) (w : World) (h : FreeDoc w base g s v1 v2) (hok : s.ok) (A : Option Addr) (n c : Nat) (ids : List Int) (hr : Rd w A (flatZ ids)) (hn : ids.length = n) (hm : n ≤ 5000)
    (hA : 0 < n → ∀ a, A = some a → ¬ mineF g v1 v2 a.block) (hbase : base ≤ w.heap.size) :
    Calls Tryz.prog 14 #[.pointer (some ⟨g, 0, none⟩), .int .i64 tx, .slice A n c] w fun e w' => e = .returned (.int .i64 ((giveS s tx ids).2 : Nat)) ∧ ∃ v2', FreeDoc w' base g (giveS s tx ids).1 v1 v2' ∧ TurnF g v1 v2 w v1 v2' w' := by
  obtain ⟨i0, hi0, hz0, hz1, hz2⟩ := info_parts waitInfo
  have HR := Lib.hid hr
  have HN := Lib.hid hn
  have HF := Lib.hid h
  have HA := Lib.hid hA
  have hni : (n : Int) ≤ 5000 := by omega
  clear hr hn h hA
  go_enter Tryz.func14, Tryz.ntmps14
  go_wp2
  go_loopw [7, 8] (fun u7 u8 wr => ∃ (k : Nat) (v2' : Value), k ≤ n ∧ u8 = .int .i64 k ∧ u7 = .int .i64 ((giveS s tx (ids.take k)).2 : Nat) ∧ Hid (FreeDoc wr base g (giveS s tx (ids.take k)).1 v1 v2') ∧ Hid (TurnF g v1 v2 w v1 v2' wr)) (fun _ u8 _ => n - (intOf u8).toNat)
  case atStart => exact ⟨0, v2, by omega, rfl, rfl, HF.out, TurnF.refl _ _ _ _⟩
  case round =>
    obtain ⟨k, v2', hk, rfl, rfl, HF2, HT2⟩ := hrel
    clear HF
    by_cases hlt : k < n
    · have hlen := HN.out
      obtain ⟨b1, o1, id, hA1, _, hid, d0⟩ := (HR.out.frm HT2.out.frm (HA.out (by omega))).num (k := k) (by omega)
      have hki : (k : Int) < (n : Int) := by omega
      have hnx := giveS_next s tx ids k id hid
      have hcnt := giveS_cnt s tx (ids.take k)
      rw [List.length_take] at hcnt
      have hok2 := giveS_ok hok tx (ids.take k)
      obtain ⟨Q, hQ⟩ : ∃ Q, Q = giveS s tx (ids.take k) := ⟨_, rfl⟩
      rw [← hQ] at hnx hcnt hok2 HF2 ⊢
      obtain ⟨s', q⟩ := Q
      simp only at hnx hcnt hok2 HF2 ⊢
      have hq : (q : Int) ≤ 5000 := by omega
      have hl2 := hok2.len
      have c0 := HF2.out.blk.cell 0
      simp only [List.getElem?_toArray, List.getElem?_cons_zero] at c0
      obtain ⟨A1', c1, A2, c2, hv1, hv2, _, _, _, hc2⟩ := HF2.out.reads
      obtain rfl : A = some ⟨b1, o1, none⟩ := hA1
      obtain ⟨p, hp⟩ : ∃ p, p = s'.pages := ⟨_, rfl⟩
      rw [← hp] at c0
      have hp0 : 2 ≤ p := by rw [hp]; exact hok2.p0
      have hp1 : p ≤ 4000 := by rw [hp]; exact hok2.p1
      obtain ⟨L, hL⟩ : ∃ L, L = allS s' := ⟨_, rfl⟩
      obtain ⟨l, hl⟩ : ∃ l, L.length = l := ⟨_, rfl⟩
      have hl4 : l ≤ 4000 := by rw [← hl, hL]; exact allS_len' hok2
      have hall := rall_of (w := wr.drew) hL hl hok2 (HF2.out.below ((Below.refl _ wr).drew))
      have hHas : decide (id ∈ L) = hasS s' id := by rw [hL]; exact allS_has
      have HNX := Lib.hid hnx
      have HP := Lib.hid hp
      have HQ := Lib.hid hQ
      have HALL := Lib.hid hall
      have HL2 := Lib.hid hl
      have HHAS := Lib.hid hHas
      clear hnx hp hid hlen hQ hL hl hall hHas
      have d0d : wr.drew.cell? ⟨b1, o1 + k, none⟩ = some (.int .i64 id) := d0
      have c0d : wr.drew.cell? ⟨g, 0, none⟩ = some (.int .i64 p) := c0
      by_cases hx1 : id < 2
      · have HE : Hid (giveS s tx (ids.take (k + 1)) = (s', q)) := by unfold Hid; rw [HNX.out]; exact give1_no (.inl hx1)
        have hd1 : decide ((2 : Int) ≤ id) = false := decide_eq_false (by omega)
        clear hv1 hv2
        go_wp2
        go_quiet (fail)
        go_wp2
        go_roundw
        case rel => exact ⟨k + 1, v2', by omega, by go_num, by rw [HE.out], by rw [HE.out]; exact HF2.out.below (by first | exact (Below.refl _ _).drew | exact (Qt.drewN _ _).below _), HT2.out.step (by first | exact (Below.refl _ _).drew | exact (Qt.drewN _ _).below _)⟩
        case measure => simp [intOf]; omega
      have hx1' : 2 ≤ id := by omega
      by_cases hx2 : p ≤ id
      · have HE : Hid (giveS s tx (ids.take (k + 1)) = (s', q)) := by unfold Hid; rw [HNX.out]; exact give1_no (.inr (.inl (by show s'.pages ≤ id; rw [← HP.out]; exact hx2)))
        have hd1 : decide ((2 : Int) ≤ id) = true := decide_eq_true (by omega)
        have hd2 : decide (id < p) = false := decide_eq_false (by omega)
        clear hv1 hv2 hx1
        go_wp2
        go_quiet (fail)
        go_wp2
        go_roundw
        case rel => exact ⟨k + 1, v2', by omega, by go_num, by rw [HE.out], by rw [HE.out]; exact HF2.out.below (by first | exact (Below.refl _ _).drew | exact (Qt.drewN _ _).below _), HT2.out.step (by first | exact (Below.refl _ _).drew | exact (Qt.drewN _ _).below _)⟩
        case measure => simp [intOf]; omega
      have hx2' : id < p := by omega
      have hd1 : decide ((2 : Int) ≤ id) = true := decide_eq_true (by omega)
      have hd2 : decide (id < p) = true := decide_eq_true (by omega)
      have hin : ∀ (A5 : Option Addr) (c5 : Nat) (w5 : World), w5.ownsRow wr.drew.heap.size 3 1 (.slice A5 l c5) l (flatZ L) → Calls Tryz.prog 32 #[.slice A5 l c5, .int .i64 id] w5 fun e w' => e = .returned (.bool (hasS s' id)) ∧ w' = w5 := fun A5 c5 w5 o5 => by
        have := in_ints A5 l c5 L id w5 (Rd.of_own o5) HL2.out (by omega)
        rw [HHAS.out] at this
        exact this
      have S0 : wr.drew.cell? ⟨b1, o1 + k, none⟩ = some (.int .i64 id) ∧ wr.drew.cell? ⟨g, 0, none⟩ = some (.int .i64 p) := ⟨d0d, c0d⟩
      have hb0 : Below wr.heap.size wr wr.drew := (Below.refl _ wr).drew
      cases hhas : hasS s' id
      · rw [hhas] at hin
        have HIN := Lib.hid hin
        have HE : Hid (giveS s tx (ids.take (k + 1)) = ({ s' with pd := s'.pd ++ [(tx, id)] }, q + 1)) := by unfold Hid; rw [HNX.out]; exact give1_yes hx1' (by show id < s'.pages; rw [← HP.out]; exact hx2') hhas
        obtain ⟨m, hm2⟩ : ∃ m, m = s'.pd.length := ⟨_, rfl⟩
        rw [← hm2] at hv2 hc2
        have hmi : m ≤ 4000 := by omega
        subst hv2
        have HM := Lib.hid hm2
        clear hhas hx1 hx2 hv1 hm2 hin
        go_wp2_with fail
        go_region_held3 (fun W => W.cell? ⟨b1, o1 + k, none⟩ = some (.int .i64 id) ∧ W.cell? ⟨g, 0, none⟩ = some (.int .i64 p)) (first | exact S0 | with_reducible assumption)
          (first
            | (go_at_call 24; with_reducible refine HALL.out.mono ?_; rintro e w5 ⟨⟨A5, c5, rfl, o5⟩, b5⟩
               have S5 : w5.cell? ⟨b1, o1 + k, none⟩ = some (.int .i64 id) ∧ w5.cell? ⟨g, 0, none⟩ = some (.int .i64 p) := ⟨cell_b b5 S0.1, cell_b b5 S0.2⟩
               have BB2 := Lib.hid (hb0.trans b5))
            | (go_at_call 32; with_reducible refine (HIN.out _ _ _ o5).mono ?_; rintro e w6 ⟨rfl, hw6⟩; obtain rfl : w5 = w6 := hw6.symm))
        go_upto_region 6 with fail
        have H2 := Lib.hid (HF2.out.below BB2.out)
        have y2 : w5.drew.cell? ⟨g, 2, none⟩ = some (.slice A2 m c2) := H2.out.blk.cell 2
        have y2a : (w5.alloc (.cells #[.int .i64 tx, .int .i64 id] 73)).cell? ⟨g, 2, none⟩ = some (.slice A2 m c2) := (H2.out.blk.alloc _).cell 2
        have x2 : w5.drew.cell? ⟨b1, o1 + k, none⟩ = some (.int .i64 id) := S5.1
        have O2 : w5.drew.ownsRow base 73 2 (.slice A2 m c2) m (flatP s'.pd) := by have := H2.out.o2; rw [← HM.out] at this; exact this
        have hs5 : base ≤ w5.heap.size := by have := BB2.out.size; have := HT2.out.frm.size; omega
        have BV : Blk w5.drew g 35 #[.int .i64 s'.pages, v1, .slice A2 m c2] := H2.out.blk
        have PV : w5.drew.ownsRow base 3 1 v1 s'.fr.length (flatZ s'.fr) := H2.out.o1
        clear b5 o5 HALL HIN HHAS hb0
        go_region_law (refine step_app rfl (.tmp 45) (.tmp 52) 33 rfl base 73 i0 _ 2 16 Tryz.underlying33 hi0 hz0 hz1 hz2 rfl (by omega) (.slice A2 m c2) m _ rfl (O2.alloc _) _ 1 1 [.int .i64 tx, .int .i64 id] rfl (Rd.new _ _ _) rfl (by simp [Value.oneCell']) (by unfold maxLen; omega) (by omega) (by simp; omega) ?_
                       intro v3 w3 ho3 hg3 hb3 hat3
                       obtain ⟨A3, c3, rfl, hc3⟩ := own_form ho3
                       have F3 : Frm (fun k => (Value.slice A2 m c2).ownBlock = some k) w5.drew w3 := (((Frm.refl _ w5.drew).alloc (.cells #[.int .i64 tx, .int .i64 id] 73)).grown hg3 (fun k hk _ => hk))
                       have T3 : TyS w5.drew (fun k => (Value.slice A2 m c2).ownBlock = some k) [73] := fun k _ hk => ⟨_, by simp, own_ty O2 hk⟩
                       have B3 := BV.frm_ty F3 T3 (by decide)
                       have P3 := own_frm_ty PV F3 T3 (by decide)
                       have y3 : w3.cell? ⟨g, 2, none⟩ = some (.slice A2 m c2) := B3.cell 2
                       have z3 := B3.free 2)
        all_goals
          go_wp2
          go_roundw
          case rel =>
            have hs : flatP s'.pd ++ [.int .i64 tx, .int .i64 id] = flatP (s'.pd ++ [(tx, id)]) := by rw [flatP_app]; rfl
            have hl3 : (s'.pd ++ [(tx, id)]).length = m + 1 := by rw [List.length_append, ← HM.out]; rfl
            refine ⟨k + 1, .slice A3 (m + 1 : Nat) c3, by omega, by go_num, by rw [HE.out]; go_num, ?_, ?_⟩
            · rw [HE.out]
              refine ⟨?_, HF2.out.low, ?_, ?_⟩
              · have := B3.set_ 2 (.slice A3 (m + 1 : Nat) c3)
                simpa using this
              · exact own_frm P3 ((Frm.refl (at1 g) _).setCell (p := ⟨g, 2, none⟩) (fun _ => rfl) _) (fun q hq e => B3.own_ne P3 (by decide) (e ▸ hq))
              · show World.ownsRow _ _ _ _ _ (s'.pd ++ [(tx, id)]).length (flatP (s'.pd ++ [(tx, id)]))
                rw [hl3, ← hs]
                exact own_frm ho3 ((Frm.refl (at1 g) _).setCell (p := ⟨g, 2, none⟩) (fun _ => rfl) _) (fun q hq e => B3.own_ne ho3 (by decide) (e ▸ hq))
            · refine HT2.out.trans ⟨?_, fun j hj => ?_⟩
              · exact ((((Frm.of_below BB2.out).drew).then_ (F3.mono fun i _ hi => .inr (.inr hi))).setCell (p := ⟨g, 2, none⟩) (fun _ => .inl rfl) _)
              · rcases hj with hj | hj | hj
                · exact .inl (.inl hj)
                · exact .inl (.inr (.inl hj))
                · rcases hat3 with e | e
                  · exact .inl (.inr (.inr (by rw [← e]; exact hj)))
                  · rw [e] at hj
                    injection hj with hj
                    have := BB2.out.size
                    exact .inr (by rw [← hj]; simp; omega)
          case measure => simp [intOf]; omega
      · rw [hhas] at hin
        have HIN := Lib.hid hin
        have HE : Hid (giveS s tx (ids.take (k + 1)) = (s', q)) := by unfold Hid; rw [HNX.out]; exact give1_no (.inr (.inr hhas))
        clear hhas hx1 hx2 hv1 hv2 hin
        go_wp2_with fail
        go_region_held3 (fun W => W.cell? ⟨b1, o1 + k, none⟩ = some (.int .i64 id) ∧ W.cell? ⟨g, 0, none⟩ = some (.int .i64 p)) (first | exact S0 | with_reducible assumption)
          (first
            | (go_at_call 24; with_reducible refine HALL.out.mono ?_; rintro e w5 ⟨⟨A5, c5, rfl, o5⟩, b5⟩
               have S5 : w5.cell? ⟨b1, o1 + k, none⟩ = some (.int .i64 id) ∧ w5.cell? ⟨g, 0, none⟩ = some (.int .i64 p) := ⟨cell_b b5 S0.1, cell_b b5 S0.2⟩
               have BB2 := Lib.hid (hb0.trans b5))
            | (go_at_call 32; with_reducible refine (HIN.out _ _ _ o5).mono ?_; rintro e w6 ⟨rfl, hw6⟩; obtain rfl : w5 = w6 := hw6.symm))
        go_wp2
        go_roundw
        case rel => exact ⟨k + 1, v2', by omega, by go_num, by rw [HE.out], by rw [HE.out]; exact HF2.out.below BB2.out, HT2.out.step BB2.out⟩
        case measure => simp [intOf]; omega
    · obtain rfl : n = k := by omega
      have hall : ids.take n = ids := by rw [← HN.out, List.take_length]
      have HALL := Lib.hid hall
      clear hall
      go_wp2
      go_ret
      exact ⟨by (rw [HALL.out]) <;> rfl, v2', by have := HF2.out; rw [HALL.out] at this; exact this, HT2.out⟩
end Go.Proofs.YtdpgeoiehbijlaaGreat
