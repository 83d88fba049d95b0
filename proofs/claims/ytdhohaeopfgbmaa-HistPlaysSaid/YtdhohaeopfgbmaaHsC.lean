/-
  What Cut, Trim and Slice do with any entries. Conditions: a log of no more than a million entries.
-/
import Derived.Test.YtdhohaeopfgbmaaHsB
namespace Go.Proofs.Ytdhohaeopfgbmaa
open Go Go.RowKit
attribute [local go_sem] cell_set_if

set_option maxRecDepth 100000 in
/-- All of them are cut, by an index that is not above the base. -/
theorem cut_all (w : World) (base g : Nat) (idx trm : Int) (es : List Ent) (v : Value) (i : Int) (h : LogAt w base g idx trm es v) (hi : i ≤ idx) (hlen : es.length ≤ 1000000) :
    Calls Try.prog 14 #[.pointer (some ⟨g, 0, none⟩), .int .i64 i] w fun e w' => e = .returned (.int .i64 es.length) ∧ ∃ v', LogAt w' base g idx trm [] v' ∧ Below base w w' ∧ Turn g v w v' w' := by
  obtain ⟨A, c, rfl, hc⟩ := h.form
  have H := Lib.hid h
  have i0 := h.i0
  have i1 := h.i1
  have hcz : (0 : Int) ≤ (c : Int) := by omega
  have hd : decide (i ≤ idx) = true := decide_eq_true hi
  clear h
  obtain ⟨M, hM⟩ : ∃ M, M = IntKind.i64.wrap (IntKind.i64.wrap (i - idx) - 1) := ⟨_, rfl⟩
  have hM2 : IntKind.i64.wrap (IntKind.i64.wrap (i - idx) - 1) = M := hM.symm
  by_cases hm : 0 ≤ M
  · have e3 : max M 0 = M := by omega
    have HM := Lib.hid hM
    clear hM
    go_enter Try.func14, Try.ntmps14
    go_wp2_with (first
      | (go_at_call 26; refine (last_any _ _ _ _ _ _ _ H.out).mono ?_; rintro e w1 ⟨rfl, nq, rfl⟩
         have L1 := H.out.drewN nq
         have c0 := L1.blk.cell 0
         have c2 := L1.blk.cell 2
         simp at c0 c2)
      | (go_at_call 39; refine (clone_ents _ A 0 c [] (Rd.nil _ _) (by rfl) (by simp) (by omega)).mono ?_
         rintro e w2 ⟨v2, rfl, hown2, b2⟩
         obtain ⟨A2, c2', rfl, hc2⟩ := own_form hown2
         have B2 := L1.blk.below b2
         have f2 := B2.free 2
         have g2 := B2.cell 2
         simp at g2))
    go_ret
    have hlt := H.out.blk.lt
    have hlow := H.out.low
    refine ⟨rfl, .slice A2 0 c2', ⟨B2.set_ 2 _, hlow, own_base (own_set B2 hown2 (by decide) _) (by show base ≤ (w.drewN nq).heap.size; simp; omega), i0, i1, by simp⟩, ?_, ⟨?_, fun q hq => ?_⟩⟩
    · exact (below_of b2 ((Qt.drewN w nq).below base) (by simp; omega)).setCell hlow _
    · exact (((Frm.refl _ w).drewN nq).step b2).setCell (fun _ => .inl rfl) _
    · have := hown2.lt q hq; right; simpa using this.1
  · have e3 : max M 0 = 0 := by omega
    have HM := Lib.hid hM
    clear hM
    go_enter Try.func14, Try.ntmps14
    go_wp2_with (first
      | (go_at_call 26; refine (last_any _ _ _ _ _ _ _ H.out).mono ?_; rintro e w1 ⟨rfl, nq, rfl⟩
         have L1 := H.out.drewN nq
         have c0 := L1.blk.cell 0
         have c2 := L1.blk.cell 2
         simp at c0 c2)
      | (go_at_call 39; refine (clone_ents _ A 0 c [] (Rd.nil _ _) (by rfl) (by simp) (by omega)).mono ?_
         rintro e w2 ⟨v2, rfl, hown2, b2⟩
         obtain ⟨A2, c2', rfl, hc2⟩ := own_form hown2
         have B2 := L1.blk.below b2
         have f2 := B2.free 2
         have g2 := B2.cell 2
         simp at g2))
    go_ret
    have hlt := H.out.blk.lt
    have hlow := H.out.low
    refine ⟨rfl, .slice A2 0 c2', ⟨B2.set_ 2 _, hlow, own_base (own_set B2 hown2 (by decide) _) (by show base ≤ (w.drewN nq).heap.size; simp; omega), i0, i1, by simp⟩, ?_, ⟨?_, fun q hq => ?_⟩⟩
    · exact (below_of b2 ((Qt.drewN w nq).below base) (by simp; omega)).setCell hlow _
    · exact (((Frm.refl _ w).drewN nq).step b2).setCell (fun _ => .inl rfl) _
    · have := hown2.lt q hq; right; simpa using this.1
/-- Nothing is cut. -/
theorem cut_no (w : World) (base g : Nat) (idx trm : Int) (es : List Ent) (v : Value) (i : Int) (h : LogAt w base g idx trm es v) (hi : idx + es.length < i) :
    Calls Try.prog 14 #[.pointer (some ⟨g, 0, none⟩), .int .i64 i] w fun e w' => e = .returned (.int .i64 0) ∧ Qt w w' := by
  have H := Lib.hid h
  clear h
  go_enter Try.func14, Try.ntmps14
  go_wp2_with (go_at_call 26; refine (last_any _ _ _ _ _ _ _ H.out).mono ?_; rintro e w1 ⟨rfl, q1⟩)
  go_ret
  exact ⟨rfl, q1⟩
theorem LogM.of_turn {w w' : World} {base g : Nat} {idx trm idx' trm' : Int} {es es' : List En} {v v' : Value} (h : LogM w base g idx trm es v) (hL : LogAt w' base g idx' trm' (ents es') v') (hT : Turn g v w v' w') (hs : ∀ x ∈ es', x ∈ es) : LogM w' base g idx' trm' es' v' :=
  ⟨hL, fun x hx => (h.mi x (hs x hx)).frm hT.frm h.ty (by decide)⟩
theorem cut_gen (w : World) (base g : Nat) (idx trm : Int) (es : List En) (v : Value) (i : Int) (h : LogM w base g idx trm es v) (hlen : es.length ≤ 1000000) :
    Calls Try.prog 14 #[.pointer (some ⟨g, 0, none⟩), .int .i64 i] w fun e w' => e = .returned (.int .i64 ((es.length : Int) - cutK idx es.length i)) ∧ ∃ v', LogM w' base g idx trm (es.take (cutK idx es.length i)) v' ∧ Below base w w' ∧ Turn g v w v' w' := by
  have hel := ents_len es
  unfold cutK
  by_cases h1 : idx + es.length < i
  · rw [if_pos h1, List.take_length]
    exact (cut_no w base g idx trm (ents es) v i h.L (by rw [hel]; exact h1)).mono fun e w' ⟨h2, q⟩ => ⟨by rw [h2, show (es.length : Int) - (es.length : Nat) = 0 by omega], v, h.qt q, q.below _, (Turn.refl _ _ _).step (q.below _)⟩
  · rw [if_neg h1]
    by_cases h2 : i ≤ idx
    · rw [show (i - idx - 1).toNat = 0 by omega]
      exact (cut_all w base g idx trm (ents es) v i h.L h2 (by rw [hel]; exact hlen)).mono fun e w' ⟨h3, v', h4, h5, h6⟩ => ⟨by rw [h3, hel]; congr 2, v', h.of_turn h4 h6 (fun x hx => absurd hx (by simp)), h5, h6⟩
    · obtain ⟨k, rfl⟩ : ∃ k : Nat, i = idx + k + 1 := ⟨(i - idx - 1).toNat, by omega⟩
      rw [show (idx + (k : Int) + 1 - idx - 1).toNat = k by omega]
      exact (cut_yes w base g idx trm (ents es) v k h.L (ents_one es) (by rw [hel]; omega) (by rw [hel]; exact hlen)).mono fun e w' ⟨h3, v', h4, h5, h6⟩ => ⟨by rw [h3, hel], v', h.of_turn (by rw [ents_take]; exact h4) h6 (fun x hx => List.mem_of_mem_take hx), h5, h6⟩
theorem trim_gen (w : World) (base g : Nat) (idx trm : Int) (es : List En) (v : Value) (i : Int) (h : LogM w base g idx trm es v) (hlen : es.length ≤ 1000000) (hmax : idx + es.length ≤ 1152921504606846976) :
    Calls Try.prog 16 #[.pointer (some ⟨g, 0, none⟩), .int .i64 i] w fun e w' => e = .returned (.int .i64 (trimK idx es.length i)) ∧ ∃ v', LogM w' base g (idx + trimK idx es.length i) (trimT idx trm (ents es) i) (es.drop (trimK idx es.length i)) v' ∧ Below base w w' ∧ Turn g v w v' w' := by
  have hel := ents_len es
  unfold trimT
  rw [hel]
  by_cases h1 : i < idx ∨ idx + es.length < i
  · have hk : trimK idx es.length i = 0 := by unfold trimK; rw [if_pos h1]
    rw [hk]
    refine (trim_no w base g idx trm (ents es) v i h.L (by rw [hel]; exact h1)).mono fun e w' ⟨h2, q⟩ => ⟨h2, v, ?_, q.below _, (Turn.refl _ _ _).step (q.below _)⟩
    have e : (termE idx trm (ents es) (idx + (0 : Nat))).getD trm = trm := by rw [show idx + ((0 : Nat) : Int) = idx by omega, termE_base]; rfl
    rw [e, show idx + ((0 : Nat) : Int) = idx by omega, List.drop_zero]
    exact h.qt q
  · obtain ⟨k, rfl⟩ : ∃ k : Nat, i = idx + k := ⟨(i - idx).toNat, by omega⟩
    have hk : trimK idx es.length (idx + k) = k := by unfold trimK; rw [if_neg h1]; omega
    rw [hk]
    have hkl : k ≤ es.length := by omega
    obtain ⟨t, ht⟩ : ∃ t, termE idx trm (ents es) (idx + k) = some t := by
      by_cases h0 : k = 0
      · subst h0; exact ⟨trm, by rw [show idx + ((0 : Nat) : Int) = idx by omega, termE_base]⟩
      · rw [termE_in _ _ _ _ (by omega) (by rw [hel]; omega)]
        rw [List.getElem?_eq_getElem (by rw [hel]; omega)]
        exact ⟨_, rfl⟩
    rw [ht]
    exact (trim_yes w base g idx trm (ents es) v k t h.L (ents_one es) (by rw [hel]; exact hkl) ht (by rw [hel]; exact hmax) (by rw [hel]; exact hlen)).mono fun e w' ⟨h3, v', h4, h5, h6⟩ => ⟨h3, v', h.of_turn (by rw [ents_drop]; exact h4) h6 (fun x hx => List.mem_of_mem_drop hx), h5, h6⟩
set_option maxRecDepth 100000 in
set_option maxHeartbeats 4000000 in
theorem slice_to (w : World) (base g : Nat) (idx trm : Int) (es : List En) (v : Value) (k : Nat) (m : Int) (h : LogM w base g idx trm es v) (hk : k < es.length) (hlen : es.length ≤ 1000000) :
    Calls Try.prog 22 #[.pointer (some ⟨g, 0, none⟩), .int .i64 (idx + k + 1), .int .i64 m] w fun e w' => CopyEn w.heap.size e w' ((es.drop k).take m.toNat) ∧ Below w.heap.size w w' := by
  obtain ⟨A, c, rfl, hcap⟩ := h.L.form
  have hel := ents_len es
  rw [hel] at hcap
  have hown := h.L.own
  rw [hel, flatE_ents] at hown
  obtain ⟨r, c', hv, _, hrlt⟩ := hown.form (by omega)
  injection hv with hA _ hcc
  subst hA hcc
  have H := Lib.hid h
  have i0 := h.L.i0
  have i1 := h.L.i1
  have c0 := h.L.blk.cell 0
  have hrow : Rd w (some ⟨r, 0, none⟩) (flatEn es) := Rd.of_own hown
  have HROW := Lib.hid hrow
  have hdl : (es.drop k).length = es.length - k := by simp
  have HDL := Lib.hid hdl
  have HEL := Lib.hid hel
  simp at c0
  clear h hrow hdl hown hel
  have e1 : IntKind.i64.wrap (idx + k + 1 - idx) = (k : Int) + 1 := by rw [show idx + k + 1 - idx = (k : Int) + 1 by omega]; exact IntWalk.i64_in _ (by omega)
  have e2 : IntKind.i64.wrap (k : Int) = (k : Int) := IntWalk.i64_in _ (by omega)
  have e3 : IntKind.i64.wrap ((k : Int) + 1 - 1) = (k : Int) := by rw [show (k : Int) + 1 - 1 = (k : Int) by omega]; exact e2
  have hkn : (k : Int) < (es.length : Int) := by omega
  have hkc : (k : Int) ≤ (c : Int) := by omega
  have hkc2 : ¬ c = k := by omega
  obtain ⟨i0', hi0, hz0, hz1, hz2⟩ := info_parts entInfo
  obtain ⟨R, hR⟩ : ∃ R, R = (es.drop k).take m.toNat := ⟨_, rfl⟩
  rw [← hR]
  have HRR := Lib.hid hR
  clear hR
  go_enter Try.func22, Try.ntmps22
  go_wp2_with (go_at_call 26; refine (last_any _ _ _ _ _ _ _ H.out.L).mono ?_; rintro e w1 ⟨he1, nq, rfl⟩
               rw [HEL.out] at he1
               subst he1
               have c0 := (H.out.L.drewN nq).blk.cell 0; have c2 := (H.out.L.drewN nq).blk.cell 2; simp only [HEL.out] at c2; simp at c0 c2)
  go_quiet (fail)
  go_wp2
  go_loopw [7, 39] (fun u7 u39 wr => ∃ (j : Nat) (zs : List En), j ≤ es.length - k ∧ j ≤ m.toNat ∧ u39 = .int .i64 j ∧ Hid (zs.length = j ∧ zs.map plE = ((es.drop k).take j).map plE) ∧ Hid (∀ z ∈ zs, z.mine wr w.heap.size) ∧ wr.ownsRow w.heap.size 53 5 u7 j (flatEn zs) ∧ Below w.heap.size w wr) (fun _ u39 _ => es.length - (intOf u39).toNat)
  case atStart => exact ⟨0, [], by omega, by omega, rfl, ⟨rfl, rfl⟩, fun z hz => absurd hz (by simp), World.ownsRow_nil _ _ _ _, below_drewN (below_drewN (Below.refl _ _) _) _⟩
  case round =>
    obtain ⟨j, zs, hj, hjm, rfl, HZ, HM, hown, hB⟩ := hrel
    obtain ⟨A2, c3, rfl, hc3⟩ := own_form hown
    by_cases hlt : j < es.length - k
    · obtain ⟨b', o', x, hA', hbb, hx, d0, d1, d2, d3, d4⟩ := (HROW.out.below hB).en (k := k + j) (by omega)
      injection hA' with hA'
      injection hA' with e1' e2'
      subst e1' e2'
      have hsp : (k + j) * 5 = k * 5 + j * 5 := by omega
      rw [Nat.zero_add, hsp] at d0 d1 d2 d3 d4
      have hxm := H.out.mi x (List.mem_of_getElem? hx)
      have hxh := (hxm.below (hB.alloc hB.size (.cells #[.int .i64 x.index, .int .i64 x.term, .int .i64 x.client, .int .i64 x.seq, .slice x.A x.n x.c] 53))).has
      have HX : Hid ((es.drop k)[j]? = some x) := by unfold Hid; rw [List.getElem?_drop]; exact hx
      have HXN := Lib.hid hxm.2
      have HCP := Lib.hid (copiedEn_any x _ hxh)
      clear hx hxm hxh hsp hbb
      by_cases hm : (j : Int) < m
      · go_wp2_with (first
          | (go_at_call 38; refine HCP.out.mono ?_; rintro e' w3 ⟨B, d, rfl, ho3, b3⟩
             have F3 : Below wr.heap.size wr w3 := ((Below.refl _ _).alloc (Nat.le_refl _) (.cells #[.int .i64 x.index, .int .i64 x.term, .int .i64 x.client, .int .i64 x.seq, .slice x.A x.n x.c] 53)).trans (b3.mono (by simp))
             have F4 : Below wr.heap.size wr (w3.alloc (.cells #[.int .i64 x.index, .int .i64 x.term, .int .i64 x.client, .int .i64 x.seq, .slice B x.n d] 53)) := F3.alloc F3.size _
             have B3 := hB.trans (F3.mono hB.size)
             have O4 := own_frm hown (S := no) (Frm.of_below F4) (fun _ _ => id))
          | (at_builtin
             refine wpList_app rfl (.tmp 47) (.tmp 50) 41 rfl w.heap.size 53 i0' _ 5 56 Try.underlying41 hi0 hz0 hz1 hz2 rfl (by omega) (.slice A2 j c3) j _ rfl O4 _ 1 1 [.int .i64 x.index, .int .i64 x.term, .int .i64 x.client, .int .i64 x.seq, .slice B x.n d] rfl (by simpa using Rd.new w3 #[.int .i64 x.index, .int .i64 x.term, .int .i64 x.client, .int .i64 x.seq, .slice B x.n d] 53) rfl (by simp [Value.oneCell']) (by unfold maxLen; omega) (by omega) (by have := B3.size; simp; omega) ?_
             intro v5 w5 hown5 hg5 hb5 hat5))
        go_roundw
        case rel =>
          have ho4 := own_frm ho3 (S := no) ((Frm.refl no w3).alloc (.cells #[.int .i64 x.index, .int .i64 x.term, .int .i64 x.client, .int .i64 x.seq, .slice B x.n d] 53)) (fun _ _ => id)
          have hzm : En.mine (w3.alloc (.cells #[.int .i64 x.index, .int .i64 x.term, .int .i64 x.client, .int .i64 x.seq, .slice B x.n d] 53)) w.heap.size { x with A := B, c := d } := ⟨own_base ho4 (by have := hB.size; simp; omega), HXN.out⟩
          have FT : Frm (fun q => (Value.slice A2 j c3).ownBlock = some q) (w3.alloc (.cells #[.int .i64 x.index, .int .i64 x.term, .int .i64 x.client, .int .i64 x.seq, .slice B x.n d] 53)) w5 := (Frm.refl _ _).grown hg5 fun k hk _ => hk
          have TT : TyS (w3.alloc (.cells #[.int .i64 x.index, .int .i64 x.term, .int .i64 x.client, .int .i64 x.seq, .slice B x.n d] 53)) (fun q => (Value.slice A2 j c3).ownBlock = some q) [53] := fun q _ hq => ⟨_, by simp, own_ty O4 hq⟩
          refine ⟨j + 1, zs ++ [{ x with A := B, c := d }], by omega, by omega, by go_num, ⟨by rw [List.length_append, HZ.out.1]; rfl, ?_⟩, ?_, ?_, (B3.alloc B3.size _).trans hb5⟩
          · rw [List.take_add_one, HX.out]
            simp only [List.map_append, HZ.out.2, List.map_cons, List.map_nil, Option.toList]
            rfl
          · intro y hy
            rcases List.mem_append.1 hy with hy | hy
            · exact ((HM.out y hy).below F4).frm FT TT (by decide)
            · rw [List.mem_singleton.1 hy]
              exact hzm.frm FT TT (by decide)
          · rw [flatEn_app]; exact hown5
        case measure => simp [intOf]; omega
      · have hjm2 : R = (es.drop k).take j := by rw [HRR.out, show m.toNat = j by omega]
        have HJ := Lib.hid hjm2
        clear hjm2
        go_wp2
        go_ret
        have bl : Below wr.heap.size wr (wr.alloc (.cells #[.int .i64 x.index, .int .i64 x.term, .int .i64 x.client, .int .i64 x.seq, .slice x.A x.n x.c] 53)) := (Below.refl _ _).alloc (Nat.le_refl _) _
        refine ⟨⟨A2, j, c3, zs, HZ.out.1, rfl, own_frm hown (S := no) ((Frm.refl no wr).alloc _) (fun _ _ => id), by rw [HJ.out]; exact HZ.out.2, fun y hy => (HM.out y hy).below bl⟩, hB.alloc hB.size _⟩
    · have hlen2 : R = (es.drop k).take j := by
        rw [HRR.out, List.take_of_length_le (by rw [HDL.out]; omega), List.take_of_length_le (by rw [HDL.out]; omega)]
      have HJ := Lib.hid hlen2
      clear hlen2
      go_wp2
      go_ret
      exact ⟨⟨A2, j, c3, zs, HZ.out.1, rfl, hown, by rw [HJ.out]; exact HZ.out.2, HM.out⟩, hB⟩
theorem slice_gen (w : World) (base g : Nat) (idx trm : Int) (es : List En) (v : Value) (i m : Int) (h : LogM w base g idx trm es v) (hlen : es.length ≤ 1000000) :
    Calls Try.prog 22 #[.pointer (some ⟨g, 0, none⟩), .int .i64 i, .int .i64 m] w fun e w' => CopyEn w.heap.size e w' (sliceN idx es i m) ∧ Below w.heap.size w w' := by
  have hel := ents_len es
  unfold sliceN
  by_cases hi : i ≤ idx ∨ idx + es.length < i
  · rw [if_pos hi]
    exact (slice_out w base g idx trm (ents es) v i m h.L (by rw [hel]; exact hi)).mono fun e w' ⟨h1, h2⟩ => ⟨⟨none, 0, 0, [], rfl, h1, World.ownsRow_nil _ _ _ _, rfl, fun y hy => absurd hy (by simp)⟩, h2.below _⟩
  · rw [if_neg hi]
    obtain ⟨k, rfl⟩ : ∃ k : Nat, i = idx + k + 1 := ⟨(i - idx - 1).toNat, by omega⟩
    rw [show (idx + (k : Int) + 1 - idx - 1).toNat = k by omega]
    exact slice_to w base g idx trm es v k m h (by omega) hlen
end Go.Proofs.Ytdhohaeopfgbmaa
