/-
  What rise and Join tell of any entries. Conditions: a log of no more than a million entries; indexes far from the greatest one.
-/
import Derived.Test.YtdhohaeopfgbmaaHsB
namespace Go.Proofs.Ytdhohaeopfgbmaa
open Go Go.RowKit
attribute [local go_sem] cell_set_if

set_option maxRecDepth 100000 in
set_option maxHeartbeats 4000000 in
theorem rise_gen (w : World) (A : Option Addr) (n c : Nat) (i t : Int) (news : List En) (hr : Rd w A (flatEn news)) (hn : news.length = n) (hi : ∀ x ∈ news, i64In x.index) (h0 : -9223372036854775808 ≤ i) (h1 : i ≤ 1152921504607846976) (hlen : n ≤ 1000000) :
    Calls Try.prog 40 #[.int .i64 i, .int .i64 t, .slice A n c] w fun e w' => e = .returned (.bool (riseE i t news)) ∧ Below w.heap.size w w' := by
  obtain ⟨r, hrr⟩ : ∃ r, r = riseE i t news := ⟨_, rfl⟩
  rw [← hrr]
  have HR := Lib.hid hr
  have HN := Lib.hid hn
  have HI := Lib.hid hi
  have HRR := Lib.hid hrr
  clear hr hn hi hrr
  go_enter Try.func40, Try.ntmps40
  go_wp2
  go_loopw [0, 1, 6, 8, 11] (fun u0 u1 u6 u8 u11 wr => ∃ (k : Nat) (La Tm : Int), k ≤ n ∧ u11 = .int .i64 k ∧ u0 = .int .i64 La ∧ u1 = .int .i64 Tm ∧ Hid (r = riseE La Tm (news.drop k)) ∧ La = i + k ∧ Hid (Below w.heap.size w wr)) (fun _ _ _ _ u11 _ => n - (intOf u11).toNat)
  case atStart => exact ⟨0, i, t, by omega, rfl, rfl, rfl, HRR.out, by omega, Below.refl _ _⟩
  case round =>
    obtain ⟨k, La, Tm, hk, rfl, rfl, rfl, HS, hLa, HB⟩ := hrel
    have hla0 : -9223372036854775808 ≤ La := by omega
    have hla1 : La ≤ 1152921504608846976 := by omega
    have HLA := Lib.hid hLa
    clear hLa
    by_cases hlt : k < n
    · have hki : (k : Int) < (n : Int) := by omega
      obtain ⟨b', o', x, rfl, hbb, hx, d0, d1, d2, d3, d4⟩ := (HR.out.below HB.out).en (k := k) (by have := HN.out; omega)
      have hxi := HI.out x (List.mem_of_getElem? hx)
      unfold i64In at hxi
      have hst : r = riseE La Tm (x :: news.drop (k + 1)) := by rw [HS.out, drop_at news k x hx]
      have hcs2 := riseE_cons La Tm x _ r hst
      clear hst hbb hx
      by_cases h1 : x.index ≤ La
      · have HF : Hid (r = false) := by rcases hcs2 with ⟨_, h⟩ | ⟨h, _⟩ | ⟨h, _⟩ <;> first | exact h | omega
        have t1 : decide (x.index ≤ La) = true := decide_eq_true h1
        clear hcs2
        go_wp2
        go_ret
        exact ⟨ret_bool HF.out.symm, HB.out.alloc HB.out.size _⟩
      · have hw : IntKind.i64.wrap (x.index - 1) = x.index - 1 := IntWalk.i64_in _ (by omega)
        have t1 : decide (x.index ≤ La) = false := decide_eq_false h1
        by_cases h2 : x.index - 1 = La
        · have t2 : (x.index - 1 != La) = false := by simp [h2]
          by_cases h3 : x.term < Tm
          · have HF : Hid (r = false) := by rcases hcs2 with ⟨h, _⟩ | ⟨_, _, h⟩ | ⟨_, h, _⟩ <;> first | exact h | omega
            have t3 : decide (x.term < Tm) = true := decide_eq_true h3
            clear hcs2
            go_wp2
            go_ret
            exact ⟨ret_bool HF.out.symm, HB.out.alloc HB.out.size _⟩
          · have HF : Hid (r = riseE x.index x.term (news.drop (k + 1))) := by rcases hcs2 with ⟨h, _⟩ | ⟨_, h, _⟩ | ⟨_, _, h⟩ <;> first | exact h | omega
            have t3 : decide (x.term < Tm) = false := decide_eq_false h3
            clear hcs2
            go_wp2
            go_quiet (fail)
            go_wp2
            go_roundw
            case rel => exact ⟨k + 1, x.index, x.term, by omega, by go_num, rfl, rfl, HF.out, by have := HLA.out; omega, below_drewN (HB.out.alloc HB.out.size _) _⟩
            case measure => simp [intOf]; omega
        · have HF : Hid (r = false) := by rcases hcs2 with ⟨_, h⟩ | ⟨h, _⟩ | ⟨h, _⟩ <;> first | exact h | omega
          have t2 : (x.index - 1 != La) = true := by simp [h2]
          clear hcs2
          go_wp2
          go_ret
          exact ⟨ret_bool HF.out.symm, HB.out.alloc HB.out.size _⟩
    · obtain rfl : k = n := by omega
      have HTRUE : Hid (r = true) := by unfold Hid; rw [HS.out, List.drop_of_length_le (by have := HN.out; omega)]; rfl
      go_wp2
      go_ret
      exact ⟨ret_bool HTRUE.out.symm, HB.out⟩
/-- What Join tells, where entries follow. -/
def JoinM (w : World) (idx trm : Int) (es : List En) (news : List En) (e : Ending) (w' : World) : Prop :=
  ∃ (K : Nat) (cut : Int) (B : Option Addr) (m c : Nat) (zs : List En), e = .returned (.tuple #[.int .i64 cut, .slice B m c, .bool true]) ∧ JK idx trm (ents es) news K cut ∧ zs.length = m ∧ zs.map plE = (news.drop K).map plE ∧ (∀ z ∈ zs, z.mine w' w.heap.size) ∧ w'.ownsRow w.heap.size 53 5 (.slice B m c) m (flatEn zs) ∧ Below w.heap.size w w'
set_option maxRecDepth 100000 in
set_option maxHeartbeats 8000000 in
theorem join_go (w : World) (base g : Nat) (idx trm : Int) (es : List En) (v : Value) (h : LogM w base g idx trm es v) (i t : Int) (A : Option Addr) (n c : Nat) (news : List En) (hr : Rd w A (flatEn news)) (hn : news.length = n) (hnc : n ≤ c) (hi : ∀ x ∈ news, i64In x.index) (hh : ∀ x ∈ news, x.has w)
    (h0 : -9223372036854775808 ≤ i) (h1 : i ≤ idx + es.length) (hhas : hasB idx trm (ents es) i t = true) (hrise : riseE i t news = true) (hlen : n ≤ 1000000) (hmax : idx + es.length ≤ 1152921504606846976) :
    Calls Try.prog 18 #[.pointer (some ⟨g, 0, none⟩), .int .i64 i, .int .i64 t, .slice A n c] w (JoinM w idx trm es news) := by
  have hHas := fun w (h : LogM w base g idx trm es v) => has_any w base g idx trm (ents es) v i t h.L
  rw [hhas] at hHas
  have HHAS := Lib.hid hHas
  have hRISE := fun w hr => rise_gen w A n c i t news hr hn hi h0 (by omega) hlen
  rw [hrise] at hRISE
  have HRISE := Lib.hid hRISE
  have hel := ents_len es
  have hLA := fun w (h : LogM w base g idx trm es v) => last_any w base g idx trm (ents es) v h.L
  rw [hel] at hLA
  have HLA := Lib.hid hLA
  have H := Lib.hid h
  have HR := Lib.hid hr
  have HN := Lib.hid hn
  have HH := Lib.hid hh
  have i0 := h.L.i0
  have i1 := h.L.i1
  clear hHas hhas h hr hn hi hrise hRISE hLA hh hel
  obtain ⟨i0', hi0, hz0, hz1, hz2⟩ := info_parts entInfo
  go_enter Try.func18, Try.ntmps18
  go_wp2_with (first
    | (go_at_call 26; refine (HLA.out _ H.out).mono ?_; rintro e w1 ⟨rfl, q1⟩)
    | (go_at_call 28; refine (HHAS.out _ (H.out.qt q1)).mono ?_; rintro e w2 ⟨rfl, q2⟩; have hR2 : Rd w2 A (flatEn news) := HR.out.below ((q1.trans q2).below _))
    | (go_at_call 40; refine (HRISE.out _ hR2).mono ?_; rintro e w3 ⟨rfl, b3⟩))
  have B3 : Below w.heap.size w w3 := below_of b3 ((q1.trans q2).below _) ((q1.trans q2).below w.heap.size).size
  have HB3 := Lib.hid B3
  clear B3 b3 q1 q2 hR2 HRISE HHAS
  go_loopw [8, 9, 10, 43] (fun u8 u9 u10 u43 wr => ∃ k : Nat, k ≤ n ∧ u43 = .int .i64 k ∧ Hid (∀ (j : Nat) x, j < k → news[j]? = some x → skipE idx trm (ents es) (ent x) = true) ∧ Hid (Below w.heap.size w wr)) (fun _ _ _ u43 _ => n - (intOf u43).toNat)
  case atStart => exact ⟨0, by omega, rfl, fun j x h => by omega, HB3.out⟩
  case round =>
    clear HB3
    obtain ⟨k, hk, rfl, HS, HB⟩ := hrel
    by_cases hlt : k < n
    · have hki : (k : Int) < (n : Int) := by omega
      obtain ⟨b', o', x, rfl, hbb, hx, d0, d1, d2, d3, d4⟩ := (HR.out.below HB.out).en (k := k) (by have := HN.out; omega)
      have L0 : LogM (wr.alloc (.cells #[.int .i64 x.index, .int .i64 x.term, .int .i64 x.client, .int .i64 x.seq, .slice x.A x.n x.c] 53)) base g idx trm es v := H.out.below (HB.out.alloc HB.out.size _)
      have l0 : (wr.alloc (.cells #[.int .i64 x.index, .int .i64 x.term, .int .i64 x.client, .int .i64 x.seq, .slice x.A x.n x.c] 53)).cell? ⟨g, 0, none⟩ = some (.int .i64 idx) := L0.L.blk.cell 0
      have HL0 := Lib.hid L0
      have HE := Lib.hid hx
      have HBB := Lib.hid hbb
      clear L0 hx hbb
      have hcas := skipE_cases idx trm (ents es) (ent x)
      rcases hcas with ⟨c1, c2⟩ | ⟨c1, c2, c3⟩ | ⟨c1, c2, u, bb, cut, c3, c4, c5, c6⟩
      · have HC2 := Lib.hid c2
        have c1 : x.index ≤ idx := c1
        clear c2
        go_wp2
        go_quiet (fail)
        go_wp2
        go_roundw
        case rel => exact ⟨k + 1, by omega, by go_num, (fun j y hj hy => by
          by_cases hjk : j < k
          · exact HS.out j y hjk hy
          · obtain rfl : j = k := by omega
            rw [HE.out] at hy; injection hy with hy; subst hy; exact HC2.out), below_drewN (HB.out.alloc HB.out.size _) _⟩
        case measure => simp [intOf]; omega
      · have HC2 := Lib.hid c2
        have c1 : idx < x.index := c1
        have c3 : termE idx trm (ents es) x.index = some x.term := c3
        have hT := fun w' (h : LogM w' base g idx trm es v) => term_any w' base g idx trm (ents es) v x.index h.L
        rw [c3] at hT
        have HT := Lib.hid hT
        clear c2 c3 hT
        go_wp2
        go_quiet (fail)
        go_wp2_with (go_at_call 23; refine (HT.out _ (HL0.out.qt (Qt.drewN _ _))).mono ?_; rintro e' w4 ⟨rfl, nq4, rfl⟩)
        go_roundw
        case rel => exact ⟨k + 1, by omega, by go_num, (fun j y hj hy => by
          by_cases hjk : j < k
          · exact HS.out j y hjk hy
          · obtain rfl : j = k := by omega
            rw [HE.out] at hy; injection hy with hy; subst hy; exact HC2.out), below_drewN (HB.out.alloc HB.out.size _) _⟩
        case measure => simp [intOf]; omega
      · have HC2 := Lib.hid c2
        have c1 : idx < x.index := c1
        have c3 : bb = true ∧ cut = x.index ∧ (u == x.term) = false ∨ bb = false ∧ cut = 0 := c3
        have c4 : (termE idx trm (ents es) x.index).getD 0 = u := c4
        have c5 : (termE idx trm (ents es) x.index).isSome = bb := c5
        have c6 : cut = if (termE idx trm (ents es) x.index).isSome then x.index else 0 := c6
        have hT := fun w' (h : LogM w' base g idx trm es v) => term_any w' base g idx trm (ents es) v x.index h.L
        rw [c4, c5] at hT
        have HT := Lib.hid hT
        have HC6 := Lib.hid c6
        have hkc : (k : Int) ≤ (c : Int) := by omega
        have hkc2 : ¬ c = k := by omega
        clear c2 hT c4 c5 c6
        rcases c3 with ⟨rfl, hcut, c7⟩ | ⟨rfl, hcut⟩
        all_goals
          have HCUT := Lib.hid hcut
          clear hcut
          go_wp2
          go_quiet (fail)
          go_wp2_with (go_at_call 23; refine (HT.out _ (HL0.out.qt (Qt.drewN _ _))).mono ?_; rintro e' w4 ⟨rfl, nq4, rfl⟩)
          obtain ⟨wo, hwo⟩ : ∃ wo, wo = wr := ⟨_, rfl⟩
          go_loopw [16, 76] (fun u16 u76 ws => ∃ (j : Nat) (zs : List En), j ≤ n - k ∧ u76 = .int .i64 j ∧ Hid (zs.length = j ∧ zs.map plE = ((news.drop k).take j).map plE) ∧ Hid (∀ z ∈ zs, z.mine ws w.heap.size) ∧ ws.ownsRow w.heap.size 53 5 u16 j (flatEn zs) ∧ Below w.heap.size w ws) (fun _ u76 _ => n - (intOf u76).toNat)
          case atStart => exact ⟨0, [], by omega, rfl, ⟨rfl, rfl⟩, fun z hz => absurd hz (by simp), World.ownsRow_nil _ _ _ _, below_drewN (HB.out.alloc HB.out.size _) _⟩
          case round =>
            clear d0 d1 d2 d3 d4 l0 hwo
            obtain ⟨j, zs, hj, rfl, HZ, HM, hown, hBs⟩ := hrel
            obtain ⟨A2, c3, rfl, hc3⟩ := own_form hown
            by_cases hlt2 : j < n - k
            · obtain ⟨b2, o2, y, hA2, hbb2, hy, d0, d1, d2, d3, d4⟩ := (HR.out.below hBs).en (k := k + j) (by have := HN.out; omega)
              injection hA2 with hA2
              injection hA2 with e1' e2'
              subst e1' e2'
              have hsp : o' + (k + j) * 5 = o' + k * 5 + j * 5 := by omega
              rw [hsp] at d0 d1 d2 d3 d4
              have hyh := (HH.out y (List.mem_of_getElem? hy)).below (hBs.alloc hBs.size (.cells #[.int .i64 y.index, .int .i64 y.term, .int .i64 y.client, .int .i64 y.seq, .slice y.A y.n y.c] 53))
              have HY : Hid ((news.drop k)[j]? = some y) := by unfold Hid; rw [List.getElem?_drop]; exact hy
              have HYN := Lib.hid (HH.out y (List.mem_of_getElem? hy)).2
              have HCP := Lib.hid (copiedEn_any y _ hyh)
              clear hy hyh hsp hbb2
              go_wp2_with (first
                | (go_at_call 38; refine HCP.out.mono ?_; rintro e' w5 ⟨B, d, rfl, ho5, b5⟩
                   have F5 : Below wr.heap.size wr w5 := ((Below.refl _ _).alloc (Nat.le_refl _) (.cells #[.int .i64 y.index, .int .i64 y.term, .int .i64 y.client, .int .i64 y.seq, .slice y.A y.n y.c] 53)).trans (b5.mono (by simp))
                   have F6 : Below wr.heap.size wr (w5.alloc (.cells #[.int .i64 y.index, .int .i64 y.term, .int .i64 y.client, .int .i64 y.seq, .slice B y.n d] 53)) := F5.alloc F5.size _
                   have B5 := hBs.trans (F5.mono hBs.size)
                   have O6 := own_frm hown (S := no) (Frm.of_below F6) (fun _ _ => id))
                | (at_builtin
                   refine wpList_app rfl (.tmp 80) (.tmp 83) 41 rfl w.heap.size 53 i0' _ 5 56 Try.underlying41 hi0 hz0 hz1 hz2 rfl (by omega) (.slice A2 j c3) j _ rfl O6 _ 1 1 [.int .i64 y.index, .int .i64 y.term, .int .i64 y.client, .int .i64 y.seq, .slice B y.n d] rfl (by simpa using Rd.new w5 #[.int .i64 y.index, .int .i64 y.term, .int .i64 y.client, .int .i64 y.seq, .slice B y.n d] 53) rfl (by simp [Value.oneCell']) (by unfold maxLen; omega) (by omega) (by have := B5.size; simp; omega) ?_
                   intro v7 w7 hown7 hg7 hb7 hat7))
              go_roundw
              case rel =>
                have ho6 := own_frm ho5 (S := no) ((Frm.refl no w5).alloc (.cells #[.int .i64 y.index, .int .i64 y.term, .int .i64 y.client, .int .i64 y.seq, .slice B y.n d] 53)) (fun _ _ => id)
                have hzm : En.mine (w5.alloc (.cells #[.int .i64 y.index, .int .i64 y.term, .int .i64 y.client, .int .i64 y.seq, .slice B y.n d] 53)) w.heap.size { y with A := B, c := d } := ⟨own_base ho6 (by have := hBs.size; simp; omega), HYN.out⟩
                have FT : Frm (fun q => (Value.slice A2 j c3).ownBlock = some q) (w5.alloc (.cells #[.int .i64 y.index, .int .i64 y.term, .int .i64 y.client, .int .i64 y.seq, .slice B y.n d] 53)) w7 := (Frm.refl _ _).grown hg7 fun k hk _ => hk
                have TT : TyS (w5.alloc (.cells #[.int .i64 y.index, .int .i64 y.term, .int .i64 y.client, .int .i64 y.seq, .slice B y.n d] 53)) (fun q => (Value.slice A2 j c3).ownBlock = some q) [53] := fun q _ hq => ⟨_, by simp, own_ty O6 hq⟩
                refine ⟨j + 1, zs ++ [{ y with A := B, c := d }], by omega, by go_num, ⟨by rw [List.length_append, HZ.out.1]; rfl, ?_⟩, ?_, ?_, (B5.alloc B5.size _).trans hb7⟩
                · rw [List.take_add_one, HY.out]
                  simp only [List.map_append, HZ.out.2, List.map_cons, List.map_nil, Option.toList]
                  rfl
                · intro z hz
                  rcases List.mem_append.1 hz with hz | hz
                  · exact ((HM.out z hz).below F6).frm FT TT (by decide)
                  · rw [List.mem_singleton.1 hz]
                    exact hzm.frm FT TT (by decide)
                · rw [flatEn_app]; exact hown7
              case measure => simp [intOf]; omega
            · obtain rfl : j = n - k := by omega
              go_wp2
              refine bodyPost_ret (v := .tuple #[.int .i64 cut, .slice A2 (n - k) c3, .bool true]) (by rw [HCUT.out]; simp only [results, show Try.f18.results = #[.tmp 8, .tmp 9, .tmp 10] from rfl]; go_simp) rfl ?_
              have hfull : (news.drop k).take (n - k) = news.drop k := List.take_of_length_le (by rw [List.length_drop, HN.out]; omega)
              have hz := HZ.out.2
              rw [hfull] at hz
              exact ⟨k, cut, A2, n - k, c3, zs, rfl, ⟨by have := HN.out; omega, HS.out, .inr ⟨x, HE.out, HC2.out, HC6.out⟩⟩, HZ.out.1, hz, HM.out, hown, hBs⟩
    · obtain rfl : k = n := by omega
      go_wp2
      refine bodyPost_ret (v := .tuple #[.int .i64 0, .slice none 0 0, .bool true]) (by simp only [results, show Try.f18.results = #[.tmp 8, .tmp 9, .tmp 10] from rfl]; go_simp) rfl ?_
      have hnl := HN.out
      exact ⟨k, 0, none, 0, 0, [], rfl, ⟨by omega, HS.out, .inl ⟨hnl.symm, rfl⟩⟩, rfl, by rw [List.drop_of_length_le (by omega)], fun z hz => absurd hz (by simp), World.ownsRow_nil _ _ _ _, HB.out⟩
set_option maxRecDepth 100000 in
/-- Entries that do not follow. -/
theorem join_norise (w : World) (base g : Nat) (idx trm : Int) (es : List En) (v : Value) (h : LogM w base g idx trm es v) (i t : Int) (A : Option Addr) (n c : Nat) (news : List En) (hr : Rd w A (flatEn news)) (hn : news.length = n) (hi : ∀ x ∈ news, i64In x.index)
    (h0 : -9223372036854775808 ≤ i) (h1 : i ≤ idx + es.length) (hhas : hasB idx trm (ents es) i t = true) (hrise : riseE i t news = false) (hlen : n ≤ 1000000) (hmax : idx + es.length ≤ 1152921504606846976) :
    Calls Try.prog 18 #[.pointer (some ⟨g, 0, none⟩), .int .i64 i, .int .i64 t, .slice A n c] w fun e w' => e = .returned (.tuple #[.int .i64 0, .slice none 0 0, .bool false]) ∧ Below w.heap.size w w' := by
  have hHas := fun w (h : LogM w base g idx trm es v) => has_any w base g idx trm (ents es) v i t h.L
  rw [hhas] at hHas
  have HHAS := Lib.hid hHas
  have hRISE := fun w hr => rise_gen w A n c i t news hr hn hi h0 (by omega) hlen
  rw [hrise] at hRISE
  have HRISE := Lib.hid hRISE
  have hel := ents_len es
  have hLA := fun w (h : LogM w base g idx trm es v) => last_any w base g idx trm (ents es) v h.L
  rw [hel] at hLA
  have HLA := Lib.hid hLA
  have H := Lib.hid h
  have HR := Lib.hid hr
  clear hHas hhas h hr hn hi hrise hRISE hLA hel
  go_enter Try.func18, Try.ntmps18
  go_wp2_with (first
    | (go_at_call 26; refine (HLA.out _ H.out).mono ?_; rintro e w1 ⟨rfl, q1⟩)
    | (go_at_call 28; refine (HHAS.out _ (H.out.qt q1)).mono ?_; rintro e w2 ⟨rfl, q2⟩; have hR2 : Rd w2 A (flatEn news) := HR.out.below ((q1.trans q2).below _))
    | (go_at_call 40; refine (HRISE.out _ hR2).mono ?_; rintro e w3 ⟨rfl, b3⟩))
  refine bodyPost_ret (v := .tuple #[.int .i64 0, .slice none 0 0, .bool false]) (by simp only [results, show Try.f18.results = #[.tmp 8, .tmp 9, .tmp 10] from rfl]; go_simp) rfl ?_
  exact ⟨rfl, below_of b3 ((q1.trans q2).below _) ((q1.trans q2).below w.heap.size).size⟩
/-- May entries be joined? -/
def joinB (idx trm : Int) (es : List Ent) (i t : Int) (l : List En) : Bool := decide (i ≤ idx + es.length) && (hasB idx trm es i t && riseE i t l)
theorem joinB_same {idx trm : Int} {a b : List Ent} {l m : List En} (h : SameT a b) (hp : l.map plE = m.map plE) (i t : Int) : joinB idx trm a i t l = joinB idx trm b i t m := by unfold joinB; rw [h.len, hasB_same h, riseE_pl hp]
theorem join_gen (w : World) (base g : Nat) (idx trm : Int) (es : List En) (v : Value) (h : LogM w base g idx trm es v) (i t : Int) (A : Option Addr) (n c : Nat) (news : List En) (hr : Rd w A (flatEn news)) (hn : news.length = n) (hnc : n ≤ c) (hi : ∀ x ∈ news, i64In x.index) (hh : ∀ x ∈ news, x.has w)
    (h0 : -9223372036854775808 ≤ i) (hlen : n ≤ 1000000) (hmax : idx + es.length ≤ 1152921504606846976) :
    Calls Try.prog 18 #[.pointer (some ⟨g, 0, none⟩), .int .i64 i, .int .i64 t, .slice A n c] w fun e w' =>
      (joinB idx trm (ents es) i t news = true ∧ JoinM w idx trm es news e w') ∨ (joinB idx trm (ents es) i t news = false ∧ e = .returned (.tuple #[.int .i64 0, .slice none 0 0, .bool false]) ∧ Below w.heap.size w w') := by
  have hel := ents_len es
  by_cases h1 : i ≤ idx + es.length
  · cases h2 : hasB idx trm (ents es) i t
    · refine (join_no w base g idx trm (ents es) v h.L i t (.slice A n c) (.inr ⟨by rw [hel]; exact h1, h2⟩)).mono fun e w' ⟨h3, q⟩ => .inr ⟨?_, h3, q.below _⟩
      unfold joinB; rw [h2, Bool.false_and, Bool.and_false]
    · cases h3 : riseE i t news
      · refine (join_norise w base g idx trm es v h i t A n c news hr hn hi h0 h1 h2 h3 hlen hmax).mono fun e w' ⟨h4, q⟩ => .inr ⟨?_, h4, q⟩
        unfold joinB; rw [h3, Bool.and_false, Bool.and_false]
      · refine (join_go w base g idx trm es v h i t A n c news hr hn hnc hi hh h0 h1 h2 h3 hlen hmax).mono fun e w' h4 => .inl ⟨?_, h4⟩
        unfold joinB; rw [h2, h3, hel, decide_eq_true h1]; rfl
  · refine (join_no w base g idx trm (ents es) v h.L i t (.slice A n c) (.inl (by rw [hel]; omega))).mono fun e w' ⟨h3, q⟩ => .inr ⟨?_, h3, q.below _⟩
    unfold joinB; rw [hel, decide_eq_false h1, Bool.false_and]
end Go.Proofs.Ytdhohaeopfgbmaa
