/-
  free.List's Give: what it gives. Conditions: the list is in order; no more than 5000 ids.
-/
import Derived.Test.YtdpgeoiehbijlaaGreatFreeD
namespace Go.Proofs.YtdpgeoiehbijlaaGreat
open Go Go.RowKit
attribute [local go_sem] cell_set_if

theorem giveS_cnt (s : Fs) (tx : Int) (ids : List Int) : (giveS s tx ids).2 ≤ ids.length := by
  unfold giveS
  have : ∀ (ids : List Int) (q : Fs × Nat), (ids.foldl (give1 tx) q).2 ≤ q.2 + ids.length := by
    intro ids
    induction ids with
    | nil => intro q; simp
    | cons a ids ih =>
      intro q
      have h := ih (give1 tx q a)
      have h1 : (give1 tx q a).2 ≤ q.2 + 1 := by unfold give1; split <;> simp
      simp only [List.foldl_cons, List.length_cons]
      omega
  simpa using this ids (s, 0)
theorem give1_no {tx : Int} {q : Fs × Nat} {id : Int} (h : id < 2 ∨ q.1.pages ≤ id ∨ hasS q.1 id = true) : give1 tx q id = q := by
  unfold give1
  rw [if_neg]
  rintro ⟨h1, h2, h3⟩
  rcases h with h | h | h
  · omega
  · omega
  · rw [h] at h3; cases h3
theorem give1_yes {tx : Int} {q : Fs × Nat} {id : Int} (h1 : 2 ≤ id) (h2 : id < q.1.pages) (h3 : hasS q.1 id = false) : give1 tx q id = ({ q.1 with pd := q.1.pd ++ [(tx, id)] }, q.2 + 1) := by
  unfold give1; rw [if_pos ⟨h1, h2, h3⟩]
set_option maxRecDepth 100000 in
set_option maxHeartbeats 4000000 in
theorem fgive_any (base g : Nat) (s : Fs) (tx : Int) (v1 v2 : Value) (w : World) (h : FreeAt w base g s v1 v2) (hok : s.ok) (A : Option Addr) (n c : Nat) (ids : List Int) (hr : Rd w A (flatZ ids)) (hn : ids.length = n) (hm : n ≤ 5000)
    (hA : 0 < n → ∀ a, A = some a → ¬ mineF g v1 v2 a.block) (hbase : base ≤ w.heap.size) :
    Calls Tryz.prog 13 #[.pointer (some ⟨g, 0, none⟩), .int .i64 tx, .slice A n c] w fun e w' => e = .returned (.int .i64 ((giveS s tx ids).2 : Nat)) ∧ ∃ v2', FreeAt w' base g (giveS s tx ids).1 v1 v2' ∧ TurnF g v1 v2 w v1 v2' w' := by
  obtain ⟨i0, hi0, hz0, hz1, hz2⟩ := info_parts pendInfo
  have HR := Lib.hid hr
  have HN := Lib.hid hn
  have HF := Lib.hid h
  have HA := Lib.hid hA
  have hni : (n : Int) ≤ 5000 := by omega
  clear hr hn h hA
  go_enter Tryz.func13, Tryz.ntmps13
  go_wp2
  go_loopw [7, 14] (fun u7 u14 wr => ∃ (k : Nat) (v2' : Value), k ≤ n ∧ u14 = .int .i64 k ∧ u7 = .int .i64 ((giveS s tx (ids.take k)).2 : Nat) ∧ Hid (FreeAt wr base g (giveS s tx (ids.take k)).1 v1 v2') ∧ Hid (TurnF g v1 v2 w v1 v2' wr)) (fun _ u14 _ => n - (intOf u14).toNat)
  case atStart => exact ⟨0, v2, by omega, rfl, rfl, HF.out, TurnF.refl _ _ _ _⟩
  case round =>
    obtain ⟨k, v2', hk, rfl, rfl, HF2, HT2⟩ := hrel
    clear HF
    by_cases hlt : k < n
    · have hlen := HN.out
      obtain ⟨b1, o1, id, hA1, _, hid, d0⟩ := (HR.out.frm HT2.out.frm (HA.out (by omega))).num (k := k) (by omega)
      have hki : (k : Int) < (n : Int) := by omega
      have hnx := giveS_next s tx ids k id hid
      have hcnt := giveS_cnt s tx (ids.take k)
      rw [List.length_take] at hcnt
      have hok2 := giveS_ok hok tx (ids.take k)
      obtain ⟨Q, hQ⟩ : ∃ Q, Q = giveS s tx (ids.take k) := ⟨_, rfl⟩
      rw [← hQ] at hnx hcnt hok2 HF2 ⊢
      obtain ⟨s', q⟩ := Q
      simp only at hnx hcnt hok2 HF2 ⊢
      have hq : (q : Int) ≤ 5000 := by omega
      have hl2 := hok2.len
      have c0 := HF2.out.blk.cell 0
      simp only [List.getElem?_toArray, List.getElem?_cons_zero] at c0
      obtain ⟨A1', c1, A2, c2, hv1, hv2, _, _, _, hc2⟩ := HF2.out.reads
      obtain rfl : A = some ⟨b1, o1, none⟩ := hA1
      obtain ⟨p, hp⟩ : ∃ p, p = s'.pages := ⟨_, rfl⟩
      rw [← hp] at c0
      have hp0 : 2 ≤ p := by rw [hp]; exact hok2.p0
      have hp1 : p ≤ 4000 := by rw [hp]; exact hok2.p1
      have HNX := Lib.hid hnx
      have HP := Lib.hid hp
      have HQ := Lib.hid hQ
      have hHas := fun w h => fhas_any base g s' id v1 v2' w h hl2.1 hl2.2.1
      clear hnx hp hid hlen hQ
      by_cases hx1 : id < 2
      · have HE : Hid (giveS s tx (ids.take (k + 1)) = (s', q)) := by unfold Hid; rw [HNX.out]; exact give1_no (.inl hx1)
        have hd1 : decide ((2 : Int) ≤ id) = false := decide_eq_false (by omega)
        clear hHas hv1 hv2
        go_wp2
        go_roundw
        case rel => exact ⟨k + 1, v2', by omega, by go_num, by rw [HE.out], by rw [HE.out]; exact HF2, HT2⟩
        case measure => simp [intOf]; omega
      have hx1' : 2 ≤ id := by omega
      by_cases hx2 : p ≤ id
      · have HE : Hid (giveS s tx (ids.take (k + 1)) = (s', q)) := by unfold Hid; rw [HNX.out]; exact give1_no (.inr (.inl (by show s'.pages ≤ id; rw [← HP.out]; exact hx2)))
        have hd1 : decide ((2 : Int) ≤ id) = true := decide_eq_true (by omega)
        have hd2 : decide (id < p) = false := decide_eq_false (by omega)
        clear hHas hv1 hv2 hx1
        go_wp2
        go_roundw
        case rel => exact ⟨k + 1, v2', by omega, by go_num, by rw [HE.out], by rw [HE.out]; exact HF2, HT2⟩
        case measure => simp [intOf]; omega
      have hx2' : id < p := by omega
      have hd1 : decide ((2 : Int) ≤ id) = true := decide_eq_true (by omega)
      have hd2 : decide (id < p) = true := decide_eq_true (by omega)
      cases hhas : hasS s' id
      · rw [hhas] at hHas
        have HHas := Lib.hid hHas
        have HE : Hid (giveS s tx (ids.take (k + 1)) = ({ s' with pd := s'.pd ++ [(tx, id)] }, q + 1)) := by unfold Hid; rw [HNX.out]; exact give1_yes hx1' (by show id < s'.pages; rw [← HP.out]; exact hx2') hhas
        obtain ⟨m, hm2⟩ : ∃ m, m = s'.pd.length := ⟨_, rfl⟩
        rw [← hm2] at hv2 hc2
        have hmi : m ≤ 4000 := by omega
        subst hv2
        have HM := Lib.hid hm2
        clear hHas hhas hx1 hx2 hv1 hm2
        go_wp2_with (first
          | (go_at_call 34; refine (HHas.out _ HF2.out).mono ?_; rintro e w2 ⟨rfl, b2⟩; have H2 := HF2.out.below b2; have y2 : w2.cell? ⟨g, 2, none⟩ = some (.slice A2 m c2) := H2.blk.cell 2; have O2 := H2.o2; rw [← HM.out] at O2; have BB2 := Lib.hid b2; clear b2)
          | (at_builtin
             refine wpList_app rfl (.tmp 38) (.tmp 42) 63 rfl base 71 i0 _ 2 16 Tryz.underlying63 hi0 hz0 hz1 hz2 rfl (by omega) (.slice A2 m c2) m (flatP s'.pd) rfl (O2.alloc _) _ 1 1 (flatP [(tx, id)]) rfl (Rd.new w2 #[.int .i64 tx, .int .i64 id] 71) rfl (flatP_one _) (by unfold maxLen; omega) (by omega) (by have := BB2.out.size; have := HT2.out.frm.size; simp; omega) ?_
             intro v3 w3 ho3 hg3 hb3 hat3
             obtain ⟨A3, c3, rfl, hc3⟩ := own_form ho3
             have F3 : Frm (fun k => (Value.slice A2 m c2).ownBlock = some k) w2 w3 := (((Frm.refl _ w2).alloc (.cells #[.int .i64 tx, .int .i64 id] 71)).grown hg3 (fun k hk _ => hk))
             have T3 : TyS w2 (fun k => (Value.slice A2 m c2).ownBlock = some k) [71] := fun k _ hk => ⟨_, by simp, own_ty O2 hk⟩
             have B3 := H2.blk.frm_ty F3 T3 (by decide)
             have P3 := own_frm_ty H2.o1 F3 T3 (by decide)
             have y3 : w3.cell? ⟨g, 2, none⟩ = some (.slice A2 m c2) := B3.cell 2
             have z3 := B3.free 2))
        go_roundw
        case rel =>
          have hs : flatP s'.pd ++ flatP [(tx, id)] = flatP (s'.pd ++ [(tx, id)]) := (flatP_app _ _).symm
          have hl3 : (s'.pd ++ [(tx, id)]).length = m + 1 := by rw [List.length_append, ← HM.out]; rfl
          refine ⟨k + 1, .slice A3 (m + 1 : Nat) c3, by omega, by go_num, by rw [HE.out]; go_num, ?_, ?_⟩
          · rw [HE.out]
            refine ⟨?_, HF2.out.low, ?_, ?_⟩
            · have := B3.set_ 2 (.slice A3 (m + 1 : Nat) c3)
              simpa using this
            · exact own_frm P3 ((Frm.refl (at1 g) _).setCell (p := ⟨g, 2, none⟩) (fun _ => rfl) _) (fun q hq e => B3.own_ne P3 (by decide) (e ▸ hq))
            · show World.ownsRow _ _ _ _ _ (s'.pd ++ [(tx, id)]).length (flatP (s'.pd ++ [(tx, id)]))
              rw [hl3, ← hs]
              exact own_frm ho3 ((Frm.refl (at1 g) _).setCell (p := ⟨g, 2, none⟩) (fun _ => rfl) _) (fun q hq e => B3.own_ne ho3 (by decide) (e ▸ hq))
          · refine HT2.out.trans ⟨?_, fun j hj => ?_⟩
            · exact (((Frm.of_below BB2.out).then_ (F3.mono fun i _ hi => .inr (.inr hi))).setCell (p := ⟨g, 2, none⟩) (fun _ => .inl rfl) _)
            · rcases hj with hj | hj | hj
              · exact .inl (.inl hj)
              · exact .inl (.inr (.inl hj))
              · rcases hat3 with e | e
                · exact .inl (.inr (.inr (by rw [← e]; exact hj)))
                · rw [e] at hj
                  injection hj with hj
                  have := BB2.out.size
                  exact .inr (by rw [← hj]; simp; omega)
        case measure => simp [intOf]; omega
      · rw [hhas] at hHas
        have HHas := Lib.hid hHas
        have HE : Hid (giveS s tx (ids.take (k + 1)) = (s', q)) := by unfold Hid; rw [HNX.out]; exact give1_no (.inr (.inr hhas))
        clear hHas hhas hx1 hx2 hv1 hv2
        go_wp2_with (go_at_call 34; refine (HHas.out _ HF2.out).mono ?_; rintro e w2 ⟨rfl, b2⟩; have BB2 := Lib.hid b2; clear b2)
        go_roundw
        case rel => exact ⟨k + 1, v2', by omega, by go_num, by rw [HE.out], by rw [HE.out]; exact HF2.out.below BB2.out, HT2.out.step BB2.out⟩
        case measure => simp [intOf]; omega
    · obtain rfl : n = k := by omega
      have hall : ids.take n = ids := by rw [← HN.out, List.take_length]
      have HALL := Lib.hid hall
      clear hall
      go_wp2
      go_ret
      exact ⟨by (rw [HALL.out]) <;> rfl, v2', by have := HF2.out; rw [HALL.out] at this; exact this, HT2.out⟩
end Go.Proofs.YtdpgeoiehbijlaaGreat
