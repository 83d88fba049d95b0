/-
  The document's log of any entries: Join. Conditions: no more than a million entries; indexes far from the greatest one.
-/
import Derived.Test.YtdhohaeopfgbmaaHsS
namespace Go.Proofs.Ytdhohaeopfgbmaa
open Go Go.RowKit
attribute [local go_sem] cell_set_if

/-- What Join tells, where entries follow. -/
structure JoinR (idx trm : Int) (es news : List En) (B : Option Addr) (e : Ending) (w' : World) (K : Nat) (cut : Int) (B' : Option Addr) (cc : Nat) : Prop where
  he : e = .returned (.tuple #[.int .i64 cut, .slice B' (news.length - K) cc, .bool true])
  jk : JK idx trm (ents es) news K cut
  rd : Rd w' B' (flatEn (news.drop K))
  le : news.length - K ≤ cc
  at_ : ∀ a, B' = some a → ∃ b, B = some b ∧ b.block = a.block
def JoinE (idx trm : Int) (es news : List En) (B : Option Addr) (w : World) (r : Bool) (e : Ending) (w' : World) : Prop :=
  (r = false ∧ e = .returned (.tuple #[.int .i64 0, .slice none 0 0, .bool false]) ∧ Qt w w') ∨ (r = true ∧ (∃ K cut B' cc, JoinR idx trm es news B e w' K cut B' cc) ∧ Qt w w')
set_option maxRecDepth 100000 in
set_option maxHeartbeats 8000000 in
theorem rjoin_go (w : World) (base g : Nat) (idx trm : Int) (es : List En) (A : Option Addr) (c : Nat) (h : RefM w base g idx trm es A c) (i t : Int) (B : Option Addr) (n c' : Nat) (news : List En) (hr : Rd w B (flatEn news)) (hn : news.length = n) (hnc : n ≤ c') (hi : ∀ x ∈ news, i64In x.index)
    (h0 : -9223372036854775808 ≤ i) (h1 : i ≤ idx + es.length) (hhas : hasB idx trm (ents es) i t = true) (hlen : n ≤ 1000000) (hmax : idx + es.length ≤ 1152921504606846976) :
    Calls Try.prog 19 #[.pointer (some ⟨g, 0, none⟩), .int .i64 i, .int .i64 t, .slice B n c'] w (JoinE idx trm es news B w (riseE i t news)) := by
  have hHas := fun w (h : RefM w base g idx trm es A c) => rhas_m w base g idx trm es A c i t h
  rw [hhas] at hHas
  have HHAS := Lib.hid hHas
  obtain ⟨r, hrr⟩ : ∃ r, r = riseE i t news := ⟨_, rfl⟩
  rw [← hrr]
  have HH := Lib.hid h
  have HR := Lib.hid hr
  have HN := Lib.hid hn
  have HI := Lib.hid hi
  have HRR := Lib.hid hrr
  have i0 := h.i0
  have i1 := h.i1
  clear hHas hhas h hr hn hi hrr
  go_enter Try.func19, Try.ntmps19
  go_wp2_with (first
    | (go_at_call 8; refine (rlast_m _ _ _ _ _ _ _ _ HH.out).mono ?_; rintro e w1 ⟨rfl, q1⟩)
    | (go_at_call 29; refine (HHAS.out _ (HH.out.qt q1)).mono ?_; rintro e w2 ⟨rfl, q2⟩))
  have HQ2 := Lib.hid (q1.trans q2)
  clear q1 q2 HHAS
  go_loopw [11, 12, 13] (fun u11 u12 u13 wr => ∃ (k : Nat) (La Tm : Int), k ≤ n ∧ u13 = .int .i64 k ∧ u11 = .int .i64 La ∧ u12 = .int .i64 Tm ∧ Hid (r = riseE La Tm (news.drop k)) ∧ La = i + k ∧ Qt w wr) (fun _ _ u13 _ => n - (intOf u13).toNat)
  case atStart => exact ⟨0, i, t, by omega, rfl, rfl, rfl, HRR.out, by omega, HQ2.out⟩
  case round =>
    clear HQ2
    obtain ⟨k, La, Tm, hk, rfl, rfl, rfl, HS, hLa, hq⟩ := hrel
    obtain ⟨nq, rfl⟩ := hq
    have hla0 : -9223372036854775808 ≤ La := by omega
    have hla1 : La ≤ 1152921504608846976 := by omega
    have HLA := Lib.hid hLa
    clear hLa
    by_cases hlt : k < n
    · have hki : (k : Int) < (n : Int) := by omega
      obtain ⟨b', o', x, rfl, hbb, hx, d0, d1, d2, d3, d4⟩ := (HR.out.drewN nq).en (k := k) (by have := HN.out; omega)
      have hxi := HI.out x (List.mem_of_getElem? hx)
      unfold i64In at hxi
      have hst : r = riseE La Tm (x :: news.drop (k + 1)) := by rw [HS.out, drop_at news k x hx]
      have hcs2 := riseE_cons La Tm x _ r hst
      rw [World.cell?_drewN] at d0 d1
      clear hst hbb hx d2 d3 d4
      obtain ⟨y, hy⟩ : ∃ y, IntKind.i64.wrap (x.index - 1) = y := ⟨_, rfl⟩
      have hyx : y = La ↔ x.index = La + 1 := by
        rw [← hy]
        by_cases hm : x.index = -9223372036854775808
        · rw [hm]
          have : IntKind.i64.wrap (-9223372036854775808 - 1) = 9223372036854775807 := by decide
          rw [this]; omega
        · rw [IntWalk.i64_in _ (by omega)]; omega
      by_cases h2 : y = La
      · have t2 : (y != La) = false := by simp [h2]
        have h1 : x.index = La + 1 := hyx.1 h2
        by_cases h3 : x.term < Tm
        · have HF : Hid (r = false) := by rcases hcs2 with ⟨h, _⟩ | ⟨_, _, h⟩ | ⟨_, h, _⟩ <;> first | exact h | omega
          have t3 : decide (x.term < Tm) = true := decide_eq_true h3
          have HY := Lib.hid h2
          clear hcs2 hyx h1 h2
          go_wp2
          refine bodyPost_ret (v := .tuple #[.int .i64 0, .slice none 0 0, .bool false]) (by simp only [results, show Try.f19.results = #[.tmp 8, .tmp 9, .tmp 10] from rfl]; go_simp) rfl ?_
          exact .inl ⟨HF.out, rfl, Qt.drewN _ _⟩
        · have HF : Hid (r = riseE x.index x.term (news.drop (k + 1))) := by rcases hcs2 with ⟨h, _⟩ | ⟨_, h, _⟩ | ⟨_, _, h⟩ <;> first | exact h | omega
          have t3 : decide (x.term < Tm) = false := decide_eq_false h3
          have HX1 := Lib.hid h1
          clear hcs2 hyx h1 h2
          go_wp2
          go_quiet (fail)
          go_wp2
          go_roundw
          case rel => exact ⟨k + 1, x.index, x.term, by omega, by go_num, rfl, rfl, HF.out, by have := HLA.out; have := HX1.out; omega, Qt.drewN _ _⟩
          case measure => simp [intOf]; omega
      · have HF : Hid (r = false) := by
          have h1 : ¬ x.index = La + 1 := fun h => h2 (hyx.2 h)
          rcases hcs2 with ⟨_, h⟩ | ⟨h, _⟩ | ⟨h, _⟩ <;> first | exact h | omega
        have t2 : (y != La) = true := by simp [h2]
        clear hcs2 hyx
        go_wp2
        refine bodyPost_ret (v := .tuple #[.int .i64 0, .slice none 0 0, .bool false]) (by simp only [results, show Try.f19.results = #[.tmp 8, .tmp 9, .tmp 10] from rfl]; go_simp) rfl ?_
        exact .inl ⟨HF.out, rfl, Qt.drewN _ _⟩
    · obtain rfl : k = n := by omega
      have HTRUE : Hid (r = true) := by unfold Hid; rw [HS.out, List.drop_of_length_le (by have := HN.out; omega)]; rfl
      clear HS HLA
      obtain ⟨n, hkn⟩ : ∃ n, n = k := ⟨_, rfl⟩
      subst hkn
      go_wp2
      go_loopw [14] (fun u14 ws => ∃ k : Nat, k ≤ n ∧ u14 = .int .i64 k ∧ Hid (∀ (j : Nat) x, j < k → news[j]? = some x → skipE idx trm (ents es) (ent x) = true) ∧ Qt w ws) (fun u14 _ => n - (intOf u14).toNat)
      case atStart => exact ⟨0, by omega, rfl, fun j x h => by omega, Qt.drewN _ _⟩
      case round =>
        obtain ⟨k, hk, rfl, HS, hq⟩ := hrel
        obtain ⟨nr, rfl⟩ := hq
        by_cases hlt2 : k < n
        · have hki : (k : Int) < (n : Int) := by omega
          obtain ⟨b', o', x, rfl, hbb, hx, d0, d1, d2, d3, d4⟩ := (HR.out.drewN nr).en (k := k) (by have := HN.out; omega)
          rw [World.cell?_drewN] at d0 d1
          have c0 : w.cell? ⟨g, 0, none⟩ = some (.int .i64 idx) := HH.out.blk.cell 0
          have HE := Lib.hid hx
          clear hx hbb d2 d3 d4
          have hcas := skipE_cases idx trm (ents es) (ent x)
          rcases hcas with ⟨c1, c2⟩ | ⟨c1, c2, c3⟩ | ⟨c1, c2, u, bb, cut, c3, c4, c5, c6⟩
          · have HC2 := Lib.hid c2
            have c1 : x.index ≤ idx := c1
            have t1 : decide (x.index ≤ idx) = true := decide_eq_true c1
            clear c2
            go_wp2
            go_quiet (fail)
            go_wp2
            go_roundw
            case rel => exact ⟨k + 1, by omega, by go_num, (fun j y hj hy => by
          by_cases hjk : j < k
          · exact HS.out j y hjk hy
          · obtain rfl : j = k := by omega
            rw [HE.out] at hy; injection hy with hy; subst hy; exact HC2.out), Qt.drewN _ _⟩
            case measure => simp [intOf]; omega
          · have HC2 := Lib.hid c2
            have c1 : idx < x.index := c1
            have t1 : decide (x.index ≤ idx) = false := decide_eq_false (by omega)
            have c3 : termE idx trm (ents es) x.index = some x.term := c3
            have hT := fun w' (h : RefM w' base g idx trm es A c) => rat_m w' base g idx trm es A c x.index h
            rw [c3] at hT
            have HT := Lib.hid hT
            have t2 : (x.term == x.term) = true := by simp
            clear c2 c3 hT
            go_wp2
            go_quiet (fail)
            go_wp2_with (go_at_call 9; refine (HT.out _ (HH.out.qt (by first | exact Qt.drewN _ _ | exact (Qt.drewN _ _).trans (Qt.drewN _ _)))).mono ?_; rintro e' w4 ⟨rfl, nq4, rfl⟩)
            go_roundw
            case rel => exact ⟨k + 1, by omega, by go_num, (fun j y hj hy => by
          by_cases hjk : j < k
          · exact HS.out j y hjk hy
          · obtain rfl : j = k := by omega
            rw [HE.out] at hy; injection hy with hy; subst hy; exact HC2.out), by first | exact Qt.drewN _ _ | exact (Qt.drewN _ _).trans (Qt.drewN _ _) | exact ((Qt.drewN _ _).trans (Qt.drewN _ _)).trans (Qt.drewN _ _)⟩
            case measure => simp [intOf]; omega
          · have HC2 := Lib.hid c2
            have c1 : idx < x.index := c1
            have t1 : decide (x.index ≤ idx) = false := decide_eq_false (by omega)
            have c3 : bb = true ∧ cut = x.index ∧ (u == x.term) = false ∨ bb = false ∧ cut = 0 := c3
            have c4 : (termE idx trm (ents es) x.index).getD 0 = u := c4
            have c5 : (termE idx trm (ents es) x.index).isSome = bb := c5
            have c6 : cut = if (termE idx trm (ents es) x.index).isSome then x.index else 0 := c6
            have hT := fun w' (h : RefM w' base g idx trm es A c) => rat_m w' base g idx trm es A c x.index h
            rw [c4, c5] at hT
            have HT := Lib.hid hT
            have HC6 := Lib.hid c6
            have hkc : (k : Int) ≤ (c' : Int) := by omega
            have hkn : (k : Int) ≤ (n : Int) := by omega
            have hkc2 : ¬ c' = k := by omega
            have HRD : Hid (Rd w (some ⟨b', o' + k * 5, none⟩) (flatEn (news.drop k))) := by
              have h2 : Rd w (some ((⟨b', o', none⟩ : Addr).add (k * 5))) ((flatEn news).drop (k * 5)) := HR.out.shift (k * 5)
              rw [add_flat] at h2
              unfold Hid
              rw [flatEn_drop]
              exact h2
            clear c2 hT c4 c5 c6
            rcases c3 with ⟨rfl, hcut, c7⟩ | ⟨rfl, hcut⟩
            all_goals
              have HCUT := Lib.hid hcut
              clear hcut
              go_wp2
              go_quiet (fail)
              go_wp2_with (go_at_call 9; refine (HT.out _ (HH.out.qt (by first | exact Qt.drewN _ _ | exact (Qt.drewN _ _).trans (Qt.drewN _ _)))).mono ?_; rintro e' w4 ⟨rfl, nq4, rfl⟩)
              go_quiet (fail)
              go_wp2
              refine bodyPost_ret (v := .tuple #[.int .i64 cut, .slice (some ⟨b', o' + k * 5, none⟩) (n - k) (c' - k), .bool true]) (by rw [HCUT.out]; simp only [results, show Try.f19.results = #[.tmp 8, .tmp 9, .tmp 10] from rfl]; go_simp) rfl ?_
              have hQ : ∃ q, Qt w q ∧ True := ⟨_, Qt.refl _, trivial⟩
              have hnl := HN.out
              refine .inr ⟨HTRUE.out, ⟨k, cut, _, c' - k, ⟨by rw [hnl], ⟨by omega, HS.out, .inr ⟨x, HE.out, HC2.out, HC6.out⟩⟩, ?_, by omega, fun a ha => ⟨_, rfl, by injection ha with ha; rw [← ha]⟩⟩⟩, ?_⟩
              · first | exact HRD.out | exact HRD.out.drewN _ | exact (HRD.out.drewN _).drewN _ | exact ((HRD.out.drewN _).drewN _).drewN _ | exact (((HRD.out.drewN _).drewN _).drewN _).drewN _
              · first | exact Qt.drewN _ _ | exact (Qt.drewN _ _).trans (Qt.drewN _ _) | exact ((Qt.drewN _ _).trans (Qt.drewN _ _)).trans (Qt.drewN _ _) | exact (((Qt.drewN _ _).trans (Qt.drewN _ _)).trans (Qt.drewN _ _)).trans (Qt.drewN _ _)
        · obtain rfl : k = n := by omega
          go_wp2
          refine bodyPost_ret (v := .tuple #[.int .i64 0, .slice none 0 0, .bool true]) (by simp only [results, show Try.f19.results = #[.tmp 8, .tmp 9, .tmp 10] from rfl]; go_simp) rfl ?_
          have hnl := HN.out
          exact .inr ⟨HTRUE.out, ⟨k, 0, none, 0, ⟨by rw [hnl, Nat.sub_self], ⟨by omega, HS.out, .inl ⟨hnl.symm, rfl⟩⟩, by rw [List.drop_of_length_le (by omega)]; exact Rd.nil _ _, by omega, fun a ha => (by cases ha)⟩⟩, Qt.drewN _ _⟩
theorem rjoin_no (w : World) (base g : Nat) (idx trm : Int) (es : List En) (A : Option Addr) (c : Nat) (h : RefM w base g idx trm es A c) (i t : Int) (l : Value) (hno : idx + es.length < i ∨ (i ≤ idx + es.length ∧ hasB idx trm (ents es) i t = false)) :
    Calls Try.prog 19 #[.pointer (some ⟨g, 0, none⟩), .int .i64 i, .int .i64 t, l] w fun e w' => e = .returned (.tuple #[.int .i64 0, .slice none 0 0, .bool false]) ∧ Qt w w' := by
  have hHas := fun w (h : RefM w base g idx trm es A c) => rhas_m w base g idx trm es A c i t h
  have HH := Lib.hid h
  clear h
  rcases hno with h | ⟨h, h2⟩
  · have t1 : decide (idx + (es.length : Int) < i) = true := decide_eq_true h
    clear hHas
    go_enter Try.func19, Try.ntmps19
    go_wp2_with (go_at_call 8; refine (rlast_m _ _ _ _ _ _ _ _ HH.out).mono ?_; rintro e w1 ⟨rfl, q1⟩)
    refine bodyPost_ret (v := .tuple #[.int .i64 0, .slice none 0 0, .bool false]) (by simp only [results, show Try.f19.results = #[.tmp 8, .tmp 9, .tmp 10] from rfl]; go_simp) rfl ?_
    exact ⟨rfl, q1⟩
  · rw [h2] at hHas
    have HHAS := Lib.hid hHas
    have t1 : decide (idx + (es.length : Int) < i) = false := decide_eq_false (by omega)
    clear hHas h2
    go_enter Try.func19, Try.ntmps19
    go_wp2_with (first
      | (go_at_call 8; refine (rlast_m _ _ _ _ _ _ _ _ HH.out).mono ?_; rintro e w1 ⟨rfl, q1⟩)
      | (go_at_call 29; refine (HHAS.out _ (HH.out.qt q1)).mono ?_; rintro e w2 ⟨rfl, q2⟩))
    refine bodyPost_ret (v := .tuple #[.int .i64 0, .slice none 0 0, .bool false]) (by simp only [results, show Try.f19.results = #[.tmp 8, .tmp 9, .tmp 10] from rfl]; go_simp) rfl ?_
    exact ⟨rfl, q1.trans q2⟩
theorem rjoin_m (w : World) (base g : Nat) (idx trm : Int) (es : List En) (A : Option Addr) (c : Nat) (h : RefM w base g idx trm es A c) (i t : Int) (B : Option Addr) (n c' : Nat) (news : List En) (hr : Rd w B (flatEn news)) (hn : news.length = n) (hnc : n ≤ c') (hi : ∀ x ∈ news, i64In x.index)
    (h0 : -9223372036854775808 ≤ i) (hlen : n ≤ 1000000) (hmax : idx + es.length ≤ 1152921504606846976) :
    Calls Try.prog 19 #[.pointer (some ⟨g, 0, none⟩), .int .i64 i, .int .i64 t, .slice B n c'] w (JoinE idx trm es news B w (joinB idx trm (ents es) i t news)) := by
  have hel := ents_len es
  unfold joinB
  rw [hel]
  by_cases h1 : i ≤ idx + es.length
  · cases h2 : hasB idx trm (ents es) i t
    · rw [Bool.false_and, Bool.and_false]
      exact (rjoin_no w base g idx trm es A c h i t (.slice B n c') (.inr ⟨h1, h2⟩)).mono fun e w' ⟨h3, q⟩ => .inl ⟨rfl, h3, q⟩
    · rw [Bool.true_and, decide_eq_true h1, Bool.true_and]
      exact rjoin_go w base g idx trm es A c h i t B n c' news hr hn hnc hi h0 h1 h2 hlen hmax
  · rw [decide_eq_false h1, Bool.false_and]
    exact (rjoin_no w base g idx trm es A c h i t (.slice B n c') (.inl (by omega))).mono fun e w' ⟨h3, q⟩ => .inl ⟨rfl, h3, q⟩
end Go.Proofs.Ytdhohaeopfgbmaa
