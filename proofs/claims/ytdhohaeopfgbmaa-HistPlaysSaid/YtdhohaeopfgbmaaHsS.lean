/-
  The document's log of any entries: Append, Cut, Trim, and Slice. Conditions: no more than a million entries.
-/
import Derived.Test.YtdhohaeopfgbmaaHsR
namespace Go.Proofs.Ytdhohaeopfgbmaa
open Go Go.RowKit
attribute [local go_sem] cell_set_if

theorem flatEn_take (es : List En) (k : Nat) : flatEn (es.take k) = (flatEn es).take (k * 5) := by rw [← flatE_ents, ents_take, ← take_flat, flatE_ents]
theorem flatEn_drop (es : List En) (k : Nat) : flatEn (es.drop k) = (flatEn es).drop (k * 5) := by rw [← flatE_ents, ents_drop, ← drop_flat, flatE_ents]
set_option maxRecDepth 100000 in
set_option maxHeartbeats 4000000 in
theorem rappend_m (w : World) (base g : Nat) (idx trm : Int) (es : List En) (A : Option Addr) (c : Nat) (h : RefM w base g idx trm es A c) (B : Option Addr) (n c' : Nat) (news : List En) (hr : Rd w B (flatEn news)) (hn : news.length = n) (hi : ∀ x ∈ news, i64In x.index) (hlen : es.length + n ≤ 1000000) :
    Calls Try.prog 13 #[.pointer (some ⟨g, 0, none⟩), .slice B n c'] w fun e w' => e = .returned (.int .i64 (if riseE (idx + es.length) (lastT trm (ents es)) news then 0 else 15)) ∧ ∃ A2 c2, RefM w' base g idx trm (es ++ if riseE (idx + es.length) (lastT trm (ents es)) news then news else []) A2 c2 ∧ Frm (at1 g) w w' ∧ (A2 = A ∧ w.heap.size ≤ w'.heap.size ∧ (es ++ (if riseE (idx + es.length) (lastT trm (ents es)) news then news else [])) = es ∨ ∀ a, A2 = some a → w.heap.size ≤ a.block ∧ TyAt w' a.block 53) := by
  obtain ⟨r, hrr⟩ : ∃ r, r = riseE (idx + es.length) (lastT trm (ents es)) news := ⟨_, rfl⟩
  rw [← hrr]
  obtain ⟨E9, hE9⟩ : ∃ E9 : Int, E9 = if r = true then 0 else 15 := ⟨_, rfl⟩
  obtain ⟨Z9, hZ9⟩ : ∃ Z9 : List En, Z9 = if r = true then news else [] := ⟨_, rfl⟩
  rw [← hE9, ← hZ9]
  have HE9 := Lib.hid hE9
  have HZ9 := Lib.hid hZ9
  clear hE9 hZ9
  obtain ⟨L0, hL0⟩ : ∃ L0 : Int, L0 = idx + es.length := ⟨_, rfl⟩
  obtain ⟨T0, hT0⟩ : ∃ T0, T0 = lastT trm (ents es) := ⟨_, rfl⟩
  rw [← hL0, ← hT0] at hrr
  have i0 := h.i0
  have i1 := h.i1
  have n1 := h.n1
  have HH := Lib.hid h
  have HR := Lib.hid hr
  have HN := Lib.hid hn
  have HI := Lib.hid hi
  have HRR := Lib.hid hrr
  have HT0 := Lib.hid hT0
  have HL0 := Lib.hid hL0
  have hl0 : 0 ≤ L0 := by omega
  have hl1 : L0 ≤ 1152921504607846976 := by omega
  clear h hr hn hi hrr hT0 hL0
  go_enter Try.func13, Try.ntmps13
  go_wp2_with (first
    | (go_at_call 8; refine (rlast_m _ _ _ _ _ _ _ _ HH.out).mono ?_; rintro e w1 ⟨he1, q1⟩
       have he1 : e = .returned (.int .i64 L0) := by rw [he1, HL0.out]
       subst he1)
    | (go_at_call 10; refine (rlastterm_m _ _ _ _ _ _ _ _ (HH.out.qt q1)).mono ?_; rintro e w2 ⟨he2, q2⟩
       have he2 : e = .returned (.int .i64 T0) := by rw [he2, HT0.out]
       subst he2))
  have HQ2 := Lib.hid (q1.trans q2)
  clear q1 q2
  go_loopw [5, 6, 7] (fun u5 u6 u7 wr => ∃ (k : Nat) (La Tm : Int), k ≤ n ∧ u7 = .int .i64 k ∧ u5 = .int .i64 La ∧ u6 = .int .i64 Tm ∧ Hid (r = riseE La Tm (news.drop k)) ∧ La = L0 + k ∧ Qt w wr) (fun _ _ u7 _ => n - (intOf u7).toNat)
  case atStart => exact ⟨0, L0, T0, by omega, rfl, rfl, rfl, HRR.out, by omega, HQ2.out⟩
  case round =>
    clear HQ2
    obtain ⟨k, La, Tm, hk, rfl, rfl, rfl, HS, hLa, hq⟩ := hrel
    obtain ⟨nq, rfl⟩ := hq
    have hla0 : 0 ≤ La := by omega
    have hla1 : La ≤ 1152921504608846976 := by omega
    have HLA := Lib.hid hLa
    clear hLa
    by_cases hlt : k < n
    · have hki : (k : Int) < (n : Int) := by omega
      obtain ⟨b', o', x, rfl, hbb, hx, d0, d1, d2, d3, d4⟩ := (HR.out.drewN nq).en (k := k) (by have := HN.out; omega)
      have hxi := HI.out x (List.mem_of_getElem? hx)
      unfold i64In at hxi
      have hst : r = riseE La Tm (x :: news.drop (k + 1)) := by rw [HS.out, drop_at news k x hx]
      have hcs2 := riseE_cons La Tm x _ r hst
      rw [World.cell?_drewN] at d0 d1
      clear hst hbb hx d2 d3 d4
      obtain ⟨y, hy⟩ : ∃ y, IntKind.i64.wrap (x.index - 1) = y := ⟨_, rfl⟩
      have hyx : y = La ↔ x.index = La + 1 := by
        rw [← hy]
        by_cases hm : x.index = -9223372036854775808
        · rw [hm]
          have : IntKind.i64.wrap (-9223372036854775808 - 1) = 9223372036854775807 := by decide
          rw [this]; omega
        · rw [IntWalk.i64_in _ (by omega)]; omega
      by_cases h2 : y = La
      · have t2 : (y != La) = false := by simp [h2]
        have h1 : x.index = La + 1 := hyx.1 h2
        by_cases h3 : x.term < Tm
        · have HF : Hid (r = false) := by rcases hcs2 with ⟨h, _⟩ | ⟨_, _, h⟩ | ⟨_, h, _⟩ <;> first | exact h | omega
          have t3 : decide (x.term < Tm) = true := decide_eq_true h3
          have HY := Lib.hid h2
          clear hcs2 hyx h1 h2
          go_wp2
          go_ret
          exact ⟨ret_int (by rw [HE9.out, HF.out]; rfl), A, c, by rw [HZ9.out, HF.out]; show RefM _ _ _ _ _ (es ++ []) _ _; rw [List.append_nil]; exact HH.out.drewN _, (Frm.refl _ _).drewN _, .inl ⟨rfl, by simp, by rw [HZ9.out, HF.out]; exact List.append_nil _⟩⟩
        · have HF : Hid (r = riseE x.index x.term (news.drop (k + 1))) := by rcases hcs2 with ⟨h, _⟩ | ⟨_, h, _⟩ | ⟨_, _, h⟩ <;> first | exact h | omega
          have t3 : decide (x.term < Tm) = false := decide_eq_false h3
          have HX1 := Lib.hid h1
          clear hcs2 hyx h1 h2
          go_wp2
          go_quiet (fail)
          go_wp2
          go_roundw
          case rel => exact ⟨k + 1, x.index, x.term, by omega, by go_num, rfl, rfl, HF.out, by have := HLA.out; have := HX1.out; omega, Qt.drewN _ _⟩
          case measure => simp [intOf]; omega
      · have HF : Hid (r = false) := by
          have h1 : ¬ x.index = La + 1 := fun h => h2 (hyx.2 h)
          rcases hcs2 with ⟨_, h⟩ | ⟨h, _⟩ | ⟨h, _⟩ <;> first | exact h | omega
        have t2 : (y != La) = true := by simp [h2]
        clear hcs2 hyx
        go_wp2
        go_ret
        exact ⟨ret_int (by rw [HE9.out, HF.out]; rfl), A, c, by rw [HZ9.out, HF.out]; show RefM _ _ _ _ _ (es ++ []) _ _; rw [List.append_nil]; exact HH.out.drewN _, (Frm.refl _ _).drewN _, .inl ⟨rfl, by simp, by rw [HZ9.out, HF.out]; exact List.append_nil _⟩⟩
    · obtain rfl : k = n := by omega
      have HTRUE : Hid (r = true) := by unfold Hid; rw [HS.out, List.drop_of_length_le (by have := HN.out; omega)]; rfl
      have L := HH.out.drewN nq
      have l2 := L.blk.cell 2
      have f2 := L.blk.free 2
      simp at l2
      have hcell := HR.out.drewN nq
      have hr0 := L.rd
      obtain ⟨i0', hi0, hz0, hz1, hz2⟩ := info_parts enInfo
      have hsz := L.blk.lt
      go_wp2_with (first
        | (at_builtin
           refine wpList_app rfl (.const (.slice none 0 0)) (.tmp 49) 41 rfl (w.drewN nq).heap.size 53 i0' _ 5 56 Try.underlying41 hi0 hz0 hz1 hz2 rfl (by omega) (.slice none 0 0) 0 [] rfl (World.ownsRow_nil _ _ _ _) A es.length c (flatEn es) rfl hr0 (by rw [flatEn_len]) (flatEn_one es) (by unfold maxLen; omega) (by omega) (Nat.le_refl _) ?_
           intro v1 w3 hown1 hg1 hb1 hat1
           have hcell3 := hcell.below hb1)
        | (at_builtin
           refine wpList_app rfl (.tmp 50) (.tmp 51) 41 rfl (w.drewN nq).heap.size 53 i0' _ 5 56 Try.underlying41 hi0 hz0 hz1 hz2 rfl (by omega) v1 _ _ rfl hown1 B _ c' (flatEn news) rfl hcell3 (by rw [flatEn_len]; have := HN.out; omega) (flatEn_one news) (by unfold maxLen; omega) (by omega) hb1.size ?_
           intro v2 w4 hown2 hg2 hb2 hat2
           have B4 := hb1.trans hb2
           have G4 := L.blk.below B4
           have g4 := G4.free 2
           have g4c := G4.cell 2
           simp at g4c
           obtain ⟨A2, c2, rfl, hc2⟩ := own_form hown2))
      all_goals
        go_ret
        rw [Nat.zero_add] at hown2 hc2
        have h2 := G4.set_ 2 (.slice A2 (es.length + k) c2)
        have hlow := HH.out.low
        have hglt := HH.out.blk.lt
        have hln : (es ++ news).length = es.length + k := by rw [List.length_append, HN.out]
        have FT : Frm (at1 g) w (w4.setCell ⟨g, 2, none⟩ (.slice A2 (es.length + k) c2)) := ((((Frm.refl (at1 g) w).drewN nq).step B4).setCell (p := ⟨g, 2, none⟩) (fun _ => rfl) _)
        have ho4 := own_set G4 hown2 (i := 2) (by decide) (.slice A2 (es.length + k) c2)
        have hA2 : ∀ a, A2 = some a → w.heap.size ≤ a.block := fun a ha => by
          subst ha
          have := (hown2.lt a.block rfl).1
          simpa using this
        have HTT := HTRUE.out
        have hcm : c2 ≤ maxLen := by
          rcases hown2.2 with ⟨e1, _⟩ | ⟨_, cc, _, e1, _, _, _, hcc, _⟩
          · injection e1 with _ _ e3; unfold maxLen; omega
          · injection e1 with _ _ e3; omega
        refine ⟨ret_int (by rw [HE9.out, HTT]; rfl), A2, c2, ?_, FT, .inr fun a ha => ⟨hA2 a ha, own_ty ho4 (by rw [ha]; rfl)⟩⟩
        rw [HZ9.out, HTT]
        show RefM _ _ _ _ _ (es ++ news) _ _
        refine ⟨by rw [hln]; exact h2, hlow, ?_, by rw [hln]; exact hc2, hcm, fun a ha => ⟨by have := hA2 a ha; omega, by have := hA2 a ha; omega⟩, i0, i1, by rw [hln]; omega, fun j x hx => ?_⟩
        · rw [flatEn_app]
          have := Rd.of_own ho4
          simpa using this
        · by_cases hj : j < es.length
          · rw [List.getElem?_append_left hj] at hx
            exact HH.out.ix j x hx
          · rw [List.getElem?_append_right (by omega)] at hx
            have h5 := riseE_ix (HRR.out.symm.trans HTT) hx
            rw [HL0.out] at h5
            omega
set_option maxRecDepth 100000 in
set_option maxHeartbeats 2000000 in
theorem rcut_at (w : World) (base g : Nat) (idx trm : Int) (es : List En) (A : Option Addr) (c : Nat) (h : RefM w base g idx trm es A c) (i : Int) (k : Nat) (hk : k < es.length) (hik : (i ≤ idx ∧ k = 0) ∨ (idx < i ∧ i = idx + k + 1)) :
    Calls Try.prog 15 #[.pointer (some ⟨g, 0, none⟩), .int .i64 i] w fun e w' => e = .returned (.int .i64 ((es.length : Int) - k)) ∧ ∃ c2, RefM w' base g idx trm (es.take k) A c2 ∧ Frm (at1 g) w w' := by
  have c0 := h.blk.cell 0
  have c2 := h.blk.cell 2
  have f2 := h.blk.free 2
  have i0 := h.i0
  have i1 := h.i1
  have n1 := h.n1
  have nc := h.nc
  simp at c0 c2
  have HH := Lib.hid h
  have htk : (es.take k).length = k := by rw [List.length_take]; omega
  have HTK := Lib.hid htk
  have HIX : Hid (∀ (j : Nat) x, (es.take k)[j]? = some x → x.index = idx + j + 1) := fun j x hx => h.ix j x (by rw [List.getElem?_take] at hx; split at hx <;> simp_all)
  have HFT := Lib.hid (flatEn_take es k)
  obtain ⟨R, hR⟩ : ∃ R, R = es.take k := ⟨_, rfl⟩
  rw [← hR] at HTK HFT HIX ⊢
  clear hR
  obtain ⟨n, hn⟩ : ∃ n, n = es.length := ⟨_, rfl⟩
  rw [← hn] at c2 n1 nc hk ⊢
  have hki : (k : Int) < (n : Int) := by omega
  have hkc : (k : Int) ≤ (c : Int) := by omega
  have hw : IntKind.i64.wrap ((n : Int) - k) = (n : Int) - k := IntWalk.i64_in _ (by omega)
  clear h htk
  have HNN := Lib.hid hn
  clear hn
  rcases hik with ⟨h1, rfl⟩ | ⟨h1, rfl⟩
  · obtain ⟨M, hM⟩ : ∃ M, M = IntKind.i64.wrap (IntKind.i64.wrap (i - idx) - 1) := ⟨_, rfl⟩
    have hM2 : IntKind.i64.wrap (IntKind.i64.wrap (i - idx) - 1) = M := hM.symm
    obtain ⟨k, hk0⟩ : ∃ k : Nat, k = 0 := ⟨0, rfl⟩
    by_cases hm : 0 ≤ M
    · have e3 : max M 0 = M := by omega
      have HM := Lib.hid hM
      clear hM
      go_enter Try.func15, Try.ntmps15
      subst hk0
      have hki : (0 : Int) < (n : Int) := by omega
      go_wp2
      go_ret
      have F : Frm (at1 g) w (w.setCell ⟨g, 2, none⟩ (.slice A 0 0)) := (Frm.refl (at1 g) w).setCell (p := ⟨g, 2, none⟩) (fun _ => rfl) _
      have HX : RefM (w.setCell ⟨g, 2, none⟩ (.slice A 0 0)) base g idx trm R A 0 := ⟨by have h := HH.out.blk.set_ 2 (.slice A 0 0); rw [HTK.out]; exact h, HH.out.low, by rw [HFT.out]; exact (HH.out.rd.take _).frm F (fun a ha => (HH.out.hi a ha).2), by rw [HTK.out]; omega, by have := HH.out.cm; omega, HH.out.hi, i0, i1, by rw [HTK.out]; omega, HIX.out⟩
      first | exact ⟨ret_int (by omega), 0, HX, F⟩ | exact ⟨0, HX, F⟩ | exact ⟨rfl, ⟨0, HX⟩, F⟩ | exact ⟨⟨0, HX⟩, F⟩
    · have e3 : max M 0 = 0 := by omega
      have HM := Lib.hid hM
      clear hM
      go_enter Try.func15, Try.ntmps15
      subst hk0
      have hki : (0 : Int) < (n : Int) := by omega
      go_wp2
      go_ret
      have F : Frm (at1 g) w (w.setCell ⟨g, 2, none⟩ (.slice A 0 0)) := (Frm.refl (at1 g) w).setCell (p := ⟨g, 2, none⟩) (fun _ => rfl) _
      have HX : RefM (w.setCell ⟨g, 2, none⟩ (.slice A 0 0)) base g idx trm R A 0 := ⟨by have h := HH.out.blk.set_ 2 (.slice A 0 0); rw [HTK.out]; exact h, HH.out.low, by rw [HFT.out]; exact (HH.out.rd.take _).frm F (fun a ha => (HH.out.hi a ha).2), by rw [HTK.out]; omega, by have := HH.out.cm; omega, HH.out.hi, i0, i1, by rw [HTK.out]; omega, HIX.out⟩
      first | exact ⟨ret_int (by omega), 0, HX, F⟩ | exact ⟨0, HX, F⟩ | exact ⟨rfl, ⟨0, HX⟩, F⟩ | exact ⟨⟨0, HX⟩, F⟩
  · have e1 : IntKind.i64.wrap (idx + k + 1 - idx) = (k : Int) + 1 := by rw [show idx + (k : Int) + 1 - idx = k + 1 by omega]; exact IntWalk.i64_in _ (by omega)
    have e2 : IntKind.i64.wrap ((k : Int) + 1 - 1) = (k : Int) := by rw [show (k : Int) + 1 - 1 = k by omega]; exact IntWalk.i64_in _ (by omega)
    have e3 : max (k : Int) 0 = (k : Int) := by omega
    go_enter Try.func15, Try.ntmps15
    go_wp2
    go_ret
    have F : Frm (at1 g) w (w.setCell ⟨g, 2, none⟩ (.slice A k k)) := (Frm.refl (at1 g) w).setCell (p := ⟨g, 2, none⟩) (fun _ => rfl) _
    have HX : RefM (w.setCell ⟨g, 2, none⟩ (.slice A k k)) base g idx trm R A k := ⟨by have h := HH.out.blk.set_ 2 (.slice A k k); rw [HTK.out]; exact h, HH.out.low, by rw [HFT.out]; exact (HH.out.rd.take _).frm F (fun a ha => (HH.out.hi a ha).2), by rw [HTK.out]; omega, by have := HH.out.cm; omega, HH.out.hi, i0, i1, by rw [HTK.out]; omega, HIX.out⟩
    first | exact ⟨ret_int (by omega), k, HX, F⟩ | exact ⟨k, HX, F⟩ | exact ⟨rfl, ⟨k, HX⟩, F⟩ | exact ⟨⟨k, HX⟩, F⟩
set_option maxRecDepth 100000 in
set_option maxHeartbeats 2000000 in
theorem rcut_no (w : World) (base g : Nat) (idx trm : Int) (es : List En) (A : Option Addr) (c : Nat) (h : RefM w base g idx trm es A c) (i : Int) (hik : (i ≤ idx ∧ es.length = 0) ∨ (idx < i ∧ idx + es.length < i)) (hi : i ≤ 9223372036854775807) :
    Calls Try.prog 15 #[.pointer (some ⟨g, 0, none⟩), .int .i64 i] w fun e w' => e = .returned (.int .i64 0) ∧ w' = w := by
  have c0 := h.blk.cell 0
  have c2 := h.blk.cell 2
  have i0 := h.i0
  have i1 := h.i1
  have n1 := h.n1
  simp at c0 c2
  have HH := Lib.hid h
  obtain ⟨n, hn⟩ : ∃ n, n = es.length := ⟨_, rfl⟩
  rw [← hn] at c2 n1 hik
  clear h hn
  rcases hik with ⟨h1, h2⟩ | ⟨h1, h2⟩
  · obtain ⟨M, hM⟩ : ∃ M, M = IntKind.i64.wrap (IntKind.i64.wrap (i - idx) - 1) := ⟨_, rfl⟩
    have hM2 : IntKind.i64.wrap (IntKind.i64.wrap (i - idx) - 1) = M := hM.symm
    have hln : (n : Int) ≤ 0 := by omega
    have HL0 := Lib.hid h2
    clear h2
    by_cases hm : 0 ≤ M
    · have e3 : max M 0 = M := by omega
      have HM := Lib.hid hM
      clear hM
      go_enter Try.func15, Try.ntmps15
      go_wp2
      go_ret
      exact ⟨rfl, rfl⟩
    · have e3 : max M 0 = 0 := by omega
      have HM := Lib.hid hM
      clear hM
      go_enter Try.func15, Try.ntmps15
      go_wp2
      go_ret
      exact ⟨rfl, rfl⟩
  · obtain ⟨M, hM⟩ : ∃ M, M = i - idx - 1 := ⟨_, rfl⟩
    have e1 : IntKind.i64.wrap (i - idx) = M + 1 := by rw [show i - idx = M + 1 by omega]; exact IntWalk.i64_in _ (by omega)
    have e2 : IntKind.i64.wrap M = M := IntWalk.i64_in _ (by omega)
    have e3 : max M 0 = M := by omega
    have h3 : (n : Int) ≤ M := by omega
    have HM := Lib.hid hM
    clear hM
    go_enter Try.func15, Try.ntmps15
    go_wp2
    go_ret
    exact ⟨rfl, rfl⟩
theorem rcut_m (w : World) (base g : Nat) (idx trm : Int) (es : List En) (A : Option Addr) (c : Nat) (h : RefM w base g idx trm es A c) (i : Int) (hi : i ≤ 9223372036854775807) :
    Calls Try.prog 15 #[.pointer (some ⟨g, 0, none⟩), .int .i64 i] w fun e w' => e = .returned (.int .i64 ((es.length : Int) - cutK idx es.length i)) ∧ ∃ c2, RefM w' base g idx trm (es.take (cutK idx es.length i)) A c2 ∧ Frm (at1 g) w w' := by
  unfold cutK
  by_cases h1 : idx + es.length < i
  · rw [if_pos h1, List.take_length]
    exact (rcut_no w base g idx trm es A c h i (.inr ⟨by omega, h1⟩) hi).mono fun e w' ⟨h2, h3⟩ => by subst h3; exact ⟨by rw [h2, show (es.length : Int) - (es.length : Nat) = 0 by omega], c, h, Frm.refl _ _⟩
  · rw [if_neg h1]
    by_cases h2 : (i - idx - 1).toNat < es.length
    · exact rcut_at w base g idx trm es A c h i _ h2 (by omega)
    · have hz : es.length = 0 := by omega
      rw [List.take_of_length_le (by omega)]
      exact (rcut_no w base g idx trm es A c h i (.inl ⟨by omega, hz⟩) hi).mono fun e w' ⟨h3, h4⟩ => by subst h4; exact ⟨by rw [h3, show (es.length : Int) - ((i - idx - 1).toNat : Nat) = 0 by omega], c, h, Frm.refl _ _⟩
end Go.Proofs.Ytdhohaeopfgbmaa
