/-
  What Append does with any entries: all of them, copied, or none. Conditions: a log of no more than a million entries, an index that is far from the greatest one.
-/
import Derived.Test.YtdhohaeopfgbmaaHsA
import Derived.Test.YtdhohaeopfgbmaaHistJoin
import Derived.Test.YtdhohaeopfgbmaaOne
namespace Go.Proofs.Ytdhohaeopfgbmaa
open Go Go.RowKit
attribute [local go_sem] cell_set_if

theorem riseE_cons (i t : Int) (x : En) (xs : List En) (r : Bool) (h : r = riseE i t (x :: xs)) : (x.index ≠ i + 1 ∧ r = false) ∨ (x.index = i + 1 ∧ x.term < t ∧ r = false) ∨ (x.index = i + 1 ∧ t ≤ x.term ∧ r = riseE x.index x.term xs) := by
  unfold riseE at h
  by_cases h1 : x.index = i + 1
  · by_cases h2 : t ≤ x.term
    · exact .inr (.inr ⟨h1, h2, by rw [h]; simp [h1, h2]⟩)
    · exact .inr (.inl ⟨h1, by omega, by rw [h]; simp [h2]⟩)
  · exact .inl ⟨h1, by rw [h]; simp [h1]⟩
/-- Entries whose commands stay where a log turns. -/
def Stay (g : Nat) (v : Value) (w : World) (l : List En) : Prop := ∀ w', Frm (mine g v) w w' → ∀ x ∈ l, x.has w'
set_option maxRecDepth 100000 in
set_option maxHeartbeats 8000000 in
theorem append_gen (w : World) (base g : Nat) (idx trm : Int) (es : List En) (v : Value) (h : LogM w base g idx trm es v) (A : Option Addr) (n c : Nat) (news : List En)
    (hr : Rd w A (flatEn news)) (hn : news.length = n) (hi : ∀ x ∈ news, i64In x.index) (hh : Stay g v w news) (hA : ∀ a, A = some a → a.block ≠ g ∧ v.ownBlock ≠ some a.block) (hlen : es.length + n ≤ 1000000) :
    Calls Try.prog 12 #[.pointer (some ⟨g, 0, none⟩), .slice A n c] w fun e w' => e = .returned (.int .i64 (if riseE (idx + es.length) (lastT trm (ents es)) news then 0 else 15)) ∧ ∃ v' zs, zs.map plE = (if riseE (idx + es.length) (lastT trm (ents es)) news then news.map plE else []) ∧ LogM w' base g idx trm (es ++ zs) v' ∧ Below base w w' ∧ Turn g v w v' w' := by
  have hlow := h.L.low
  have hglt := h.L.blk.lt
  have hbase : base ≤ w.heap.size := by omega
  by_cases hn0 : n = 0
  · subst hn0
    obtain rfl : news = [] := List.eq_nil_of_length_eq_zero hn
    refine (append_none w base g idx trm (ents es) v h.L A c).mono fun e w' ⟨h1, q⟩ => ?_
    exact ⟨h1, v, [], rfl, by rw [List.append_nil]; exact h.qt q, q.below _, (Turn.refl _ _ _).step (q.below _)⟩
  obtain ⟨b, o, rfl, hb, hcs⟩ := hr.flat (by rw [flatEn_len]; omega)
  obtain ⟨hbg, hbv⟩ := hA _ rfl
  have hbg : b ≠ g := hbg
  have hbv : v.ownBlock ≠ some b := hbv
  obtain ⟨r, hrr⟩ : ∃ r, r = riseE (idx + es.length) (lastT trm (ents es)) news := ⟨_, rfl⟩
  rw [← hrr]
  obtain ⟨E9, hE9⟩ : ∃ E9 : Int, E9 = if r = true then 0 else 15 := ⟨_, rfl⟩
  obtain ⟨Z9, hZ9⟩ : ∃ Z9 : List En, Z9 = if r = true then news.map plE else [] := ⟨_, rfl⟩
  rw [← hE9, ← hZ9]
  have HE9 := Lib.hid hE9
  have HZ9 := Lib.hid hZ9
  clear hE9 hZ9
  obtain ⟨L0, hL0⟩ : ∃ L0 : Int, L0 = idx + es.length := ⟨_, rfl⟩
  obtain ⟨T0, hT0⟩ : ∃ T0, T0 = lastT trm (ents es) := ⟨_, rfl⟩
  rw [← hL0, ← hT0] at hrr
  have i0 := h.L.i0
  have i1 := h.L.i1
  have n1 := h.L.n1
  have hel := ents_len es
  have H := Lib.hid h
  have HR := Lib.hid hr
  have HCS := Lib.hid hcs
  have HN := Lib.hid hn
  have HI := Lib.hid hi
  have HH := Lib.hid hh
  have HRR := Lib.hid hrr
  have HT0 := Lib.hid hT0
  have HL0 := Lib.hid hL0
  have hl0 : 0 ≤ L0 := by omega
  have hl1 : L0 ≤ 1152921504607846976 := by rw [hL0]; rw [hel] at n1; omega
  have HEL := Lib.hid hel
  clear h hr hcs hn hi hh hA hrr hT0 hL0 hel
  go_enter Try.func12, Try.ntmps12
  go_wp2_with (first
    | (go_at_call 26; refine (last_any _ _ _ _ _ _ _ H.out.L).mono ?_; rintro e w1 ⟨he1, q1⟩
       have he1 : e = .returned (.int .i64 L0) := by rw [he1, HL0.out, HEL.out]
       subst he1)
    | (go_at_call 27; refine (lastterm_any _ _ _ _ _ _ _ (H.out.qt q1).L).mono ?_; rintro e w2 ⟨he2, q2⟩
       have he2 : e = .returned (.int .i64 T0) := by rw [he2, HT0.out]
       subst he2))
  have B2 : Below w.heap.size w w2 := (q1.trans q2).below _
  have HB2 := Lib.hid B2
  clear B2 q1 q2
  go_loopw [4, 5, 6, 8, 19] (fun u4 u5 u6 u8 u19 wr => ∃ (k : Nat) (La Tm : Int), k ≤ n ∧ u19 = .int .i64 k ∧ u5 = .int .i64 La ∧ u6 = .int .i64 Tm ∧ Hid (r = riseE La Tm (news.drop k)) ∧ La = L0 + k ∧ Hid (Below w.heap.size w wr)) (fun _ _ _ _ u19 _ => n - (intOf u19).toNat)
  case atStart => exact ⟨0, L0, T0, by omega, rfl, rfl, rfl, HRR.out, by omega, HB2.out⟩
  case round =>
    obtain ⟨k, La, Tm, hk, rfl, rfl, rfl, HS, hLa, HB⟩ := hrel
    have hla0 : 0 ≤ La := by omega
    have hla1 : La ≤ 1152921504608846976 := by omega
    have HLA := Lib.hid hLa
    clear hLa
    by_cases hlt : k < n
    · have hki : (k : Int) < (n : Int) := by omega
      obtain ⟨b', o', x, hA', hbb, hx, d0, d1, d2, d3, d4⟩ := (HR.out.below HB.out).en (k := k) (by have := HN.out; omega)
      injection hA' with hA'
      injection hA' with e1 e2
      subst e1 e2
      have hxi := HI.out x (List.mem_of_getElem? hx)
      unfold i64In at hxi
      have hst : r = riseE La Tm (x :: news.drop (k + 1)) := by rw [HS.out, drop_at news k x hx]
      have hcs2 := riseE_cons La Tm x _ r hst
      clear hst hbb hx
      by_cases h1 : x.index ≤ La
      · have HF : Hid (r = false) := by rcases hcs2 with ⟨_, h⟩ | ⟨h, _⟩ | ⟨h, _⟩ <;> first | exact h | omega
        have t1 : decide (x.index ≤ La) = true := decide_eq_true h1
        clear hcs2
        go_wp2
        go_ret
        have B := HB.out.alloc HB.out.size (.cells #[.int .i64 x.index, .int .i64 x.term, .int .i64 x.client, .int .i64 x.seq, .slice x.A x.n x.c] 53)
        exact ⟨ret_int (by rw [HE9.out, HF.out]; rfl), v, [], by rw [HZ9.out, HF.out]; rfl, by rw [List.append_nil]; exact H.out.below B, B.mono hbase, (Turn.refl _ _ _).step B⟩
      · have hw : IntKind.i64.wrap (x.index - 1) = x.index - 1 := IntWalk.i64_in _ (by omega)
        have t1 : decide (x.index ≤ La) = false := decide_eq_false h1
        by_cases h2 : x.index - 1 = La
        · have t2 : (x.index - 1 != La) = false := by simp [h2]
          by_cases h3 : x.term < Tm
          · have HF : Hid (r = false) := by rcases hcs2 with ⟨h, _⟩ | ⟨_, _, h⟩ | ⟨_, h, _⟩ <;> first | exact h | omega
            have t3 : decide (x.term < Tm) = true := decide_eq_true h3
            clear hcs2
            go_wp2
            go_ret
            have B := HB.out.alloc HB.out.size (.cells #[.int .i64 x.index, .int .i64 x.term, .int .i64 x.client, .int .i64 x.seq, .slice x.A x.n x.c] 53)
            exact ⟨ret_int (by rw [HE9.out, HF.out]; rfl), v, [], by rw [HZ9.out, HF.out]; rfl, by rw [List.append_nil]; exact H.out.below B, B.mono hbase, (Turn.refl _ _ _).step B⟩
          · have HF : Hid (r = riseE x.index x.term (news.drop (k + 1))) := by rcases hcs2 with ⟨h, _⟩ | ⟨_, h, _⟩ | ⟨_, _, h⟩ <;> first | exact h | omega
            have t3 : decide (x.term < Tm) = false := decide_eq_false h3
            clear hcs2
            go_wp2
            go_quiet (fail)
            go_wp2
            go_roundw
            case rel => exact ⟨k + 1, x.index, x.term, by omega, by go_num, rfl, rfl, HF.out, by have := HLA.out; omega, below_drewN (HB.out.alloc HB.out.size _) _⟩
            case measure => simp [intOf]; omega
        · have HF : Hid (r = false) := by rcases hcs2 with ⟨_, h⟩ | ⟨h, _⟩ | ⟨h, _⟩ <;> first | exact h | omega
          have t2 : (x.index - 1 != La) = true := by simp [h2]
          clear hcs2
          go_wp2
          go_ret
          have B := HB.out.alloc HB.out.size (.cells #[.int .i64 x.index, .int .i64 x.term, .int .i64 x.client, .int .i64 x.seq, .slice x.A x.n x.c] 53)
          exact ⟨ret_int (by rw [HE9.out, HF.out]; rfl), v, [], by rw [HZ9.out, HF.out]; rfl, by rw [List.append_nil]; exact H.out.below B, B.mono hbase, (Turn.refl _ _ _).step B⟩
    · obtain ⟨n', hn'⟩ : ∃ n', n' = n := ⟨_, rfl⟩
      obtain rfl : k = n := by omega
      have hkn : n' = k := hn'
      subst hkn
      have HTRUE : Hid (r = true) := by unfold Hid; rw [HS.out, List.drop_of_length_le (by have := HN.out; omega)]; rfl
      clear HLA HS
      go_wp2
      go_loopw [10, 47] (fun u10 u47 ws => ∃ (k : Nat) (vk : Value) (zs : List En), k ≤ n' ∧ u47 = .int .i64 k ∧ Hid (zs.length = k ∧ zs.map plE = (news.take k).map plE) ∧ Hid (LogM ws base g idx trm (es ++ zs) vk) ∧ Hid (Below base w ws) ∧ b < ws.heap.size ∧ Hid (vk.ownBlock ≠ some b) ∧ Hid (Turn g v w vk ws) ∧ Hid (Rd ws (some ⟨b, o, none⟩) (flatEn news))) (fun _ u47 _ => n' - (intOf u47).toNat)
      case atStart =>
        exact ⟨0, v, [], by omega, rfl, ⟨rfl, rfl⟩, by rw [List.append_nil]; exact H.out.below HB.out, HB.out.mono hbase, Nat.lt_of_lt_of_le hb HB.out.size, hbv, (Turn.refl _ _ _).step HB.out, HR.out.below HB.out⟩
      case round =>
        clear HB2 HB
        obtain ⟨k2, vk, zs, hk2, rfl, HZ, HLog, HBB, hbb, HBV, HT, HRD⟩ := hrel
        by_cases hlt2 : k2 < n'
        · have hki : (k2 : Int) < (n' : Int) := by omega
          obtain ⟨b', o', x, hA', hbb', hx, d0, d1, d2, d3, d4⟩ := HRD.out.en (k := k2) (by have := HN.out; omega)
          injection hA' with hA'
          injection hA' with e1 e2
          subst e1 e2
          have hxh := HH.out _ ((HT.out.frm.alloc (.cells #[.int .i64 x.index, .int .i64 x.term, .int .i64 x.client, .int .i64 x.seq, .slice x.A x.n x.c] 53)).drew) x (List.mem_of_getElem? hx)
          have HX := Lib.hid hx
          have hlk : (ents (es ++ zs)).length = es.length + k2 := by rw [ents_len, List.length_append, HZ.out.1]
          have hLog := HLog.out.L
          have hwl : base ≤ wr.heap.size := by have := hLog.low; have := hLog.blk.lt; omega
          have L0 : LogAt (wr.alloc (.cells #[.int .i64 x.index, .int .i64 x.term, .int .i64 x.client, .int .i64 x.seq, .slice x.A x.n x.c] 53)).drew base g idx trm (ents (es ++ zs)) vk := hLog.below (((Below.refl _ _).alloc (Nat.le_refl _) _).drew)
          have l0 : (wr.alloc (.cells #[.int .i64 x.index, .int .i64 x.term, .int .i64 x.client, .int .i64 x.seq, .slice x.A x.n x.c] 53)).drew.cell? ⟨g, 2, none⟩ = some vk := by rw [L0.blk.cell 2]; rfl
          have HCP := Lib.hid (copiedEn_any x _ hxh)
          obtain ⟨i0', hi0, hz0, hz1, hz2⟩ := info_parts entInfo
          clear hLog hx hxh hbb'
          go_wp2
          go_region_law (first
            | (go_simp; go_at_call 38; refine HCP.out.mono ?_; rintro e' w3 ⟨B, d, rfl, ho3, b3⟩
               have L3 := L0.below b3
               have l3 : w3.cell? ⟨g, 2, none⟩ = some vk := by rw [L3.blk.cell 2]; rfl
               have L4 := L3.below ((Below.refl w3.heap.size w3).alloc (Nat.le_refl _) (.cells #[.int .i64 x.index, .int .i64 x.term, .int .i64 x.client, .int .i64 x.seq, .slice B x.n d] 53))
               have l4 : (w3.alloc (.cells #[.int .i64 x.index, .int .i64 x.term, .int .i64 x.client, .int .i64 x.seq, .slice B x.n d] 53)).cell? ⟨g, 2, none⟩ = some vk := by rw [L4.blk.cell 2]; rfl)
            | (refine step_app rfl (.tmp 55) (.tmp 58) 41 rfl base 53 i0' _ 5 56 Try.underlying41 hi0 hz0 hz1 hz2 rfl (by omega) vk (es.length + k2) _ rfl (by have := L4.own; rw [hlk] at this; exact this) _ 1 1 [.int .i64 x.index, .int .i64 x.term, .int .i64 x.client, .int .i64 x.seq, .slice B x.n d] rfl (by simpa using Rd.new w3 #[.int .i64 x.index, .int .i64 x.term, .int .i64 x.client, .int .i64 x.seq, .slice B x.n d] 53) rfl (by simp [Value.oneCell']) (by unfold maxLen; omega) (by omega) (by have := L4.low; have := L4.blk.lt; omega) ?_
               intro v1 w5 hown1 hg1 hb1 hat1
               obtain ⟨A1, cp1, rfl, hcp1⟩ := own_form hown1
               have hne : vk.ownBlock ≠ some g := Blk.own_ne L4.blk L4.own (by decide)
               have G5 := L4.blk.grown hg1 hne
               have f5 := G5.free 2
               have g5 := G5.cell 2))
          all_goals
            have F3 : Below wr.heap.size wr w3 := (((Below.refl _ _).alloc (Nat.le_refl _) (.cells #[.int .i64 x.index, .int .i64 x.term, .int .i64 x.client, .int .i64 x.seq, .slice x.A x.n x.c] 53)).drew).trans (b3.mono (by simp))
            have F4 : Below wr.heap.size wr (w3.alloc (.cells #[.int .i64 x.index, .int .i64 x.term, .int .i64 x.client, .int .i64 x.seq, .slice B x.n d] 53)) := F3.alloc F3.size _
            have M4 := HLog.out.below F4
            have FT : Frm (mine g vk) (w3.alloc (.cells #[.int .i64 x.index, .int .i64 x.term, .int .i64 x.client, .int .i64 x.seq, .slice B x.n d] 53)) (w5.setCell ⟨g, 2, none⟩ (.slice A1 (es.length + k2 + 1) cp1)) := ((Frm.refl _ _).grown hg1 fun k hk _ => .inr hk).setCell (fun _ => .inl rfl) _
            go_wp2
            go_roundw
            case rel =>
              have hl3 : base ≤ w3.heap.size := by have := F3.size; omega
              have ho4 := own_frm ho3 (S := no) ((Frm.refl no w3).alloc (.cells #[.int .i64 x.index, .int .i64 x.term, .int .i64 x.client, .int .i64 x.seq, .slice B x.n d] 53)) (fun _ _ => id)
              have hzm : En.mine (w3.alloc (.cells #[.int .i64 x.index, .int .i64 x.term, .int .i64 x.client, .int .i64 x.seq, .slice B x.n d] 53)) base { x with A := B, c := d } := ⟨own_base ho4 (by have h := F3.size; show base ≤ (wr.alloc (.cells #[.int .i64 x.index, .int .i64 x.term, .int .i64 x.client, .int .i64 x.seq, .slice x.A x.n x.c] 53)).drew.heap.size; simp; omega), (HH.out _ HT.out.frm x (List.mem_of_getElem? HX.out)).2⟩
              have hR4 := HRD.out.below F4
              have hR5 := hR4.frm FT (fun ad had => by
                injection had with had; subst had
                rintro (h | h)
                · exact hbg h
                · exact HBV.out h)
              have hT4 := HT.out.step F4
              refine ⟨k2 + 1, _, zs ++ [{ x with A := B, c := d }], by omega, by go_num, ⟨by rw [List.length_append, HZ.out.1]; rfl, ?_⟩, ⟨⟨G5.set_ 2 _, L4.low, ?_, i0, i1, by rw [ents_len, List.length_append, List.length_append, HZ.out.1]; have : [{ x with A := B, c := d }].length = 1 := rfl; omega⟩, ?_⟩, ?_, ?_, ?_, ?_, ?_⟩
              · rw [List.take_add_one, HX.out]
                simp only [List.map_append, HZ.out.2, List.map_cons, List.map_nil, Option.toList]
                rfl
              · have hf : flatE (ents (es ++ (zs ++ [{ x with A := B, c := d }]))) = flatE (ents (es ++ zs)) ++ [.int .i64 x.index, .int .i64 x.term, .int .i64 x.client, .int .i64 x.seq, .slice B x.n d] := by
                  rw [flatE_ents, flatE_ents, ← List.append_assoc, flatEn_app]; rfl
                have hl : (ents (es ++ (zs ++ [{ x with A := B, c := d }]))).length = es.length + k2 + 1 := by rw [ents_len, List.length_append, List.length_append, HZ.out.1]; rfl
                rw [hf, hl]
                exact own_set G5 hown1 (by decide) _
              · intro y hy
                rw [← List.append_assoc] at hy
                rcases List.mem_append.1 hy with hy | hy
                · exact (M4.mi y hy).frm FT M4.ty (by decide)
                · rw [List.mem_singleton.1 hy]
                  exact hzm.frm FT M4.ty (by decide)
              · exact (((HBB.out.trans (F4.mono hwl)).trans hb1).setCell L4.low _)
              · have := F4.size; have := hb1.size; simp at *; omega
              · rcases hat1 with h | h
                · unfold Hid; rw [h]; exact HBV.out
                · unfold Hid; rw [h]; intro hh; injection hh with hh; have := F4.size; simp at *; omega
              · refine hT4.trans ⟨FT, fun k hk => ?_⟩
                rcases hat1 with h | h
                · left; rw [← h]; exact hk
                · right; rw [h] at hk; injection hk with hk; omega
              · exact hR5
            case measure => simp [intOf]; omega
        · obtain rfl : k2 = n' := by omega
          go_wp2
          go_ret
          refine ⟨ret_int (by rw [HE9.out, HTRUE.out]; rfl), vk, zs, ?_, HLog.out, HBB.out, HT.out⟩
          have e : news.take k2 = news := List.take_of_length_le (by have := HN.out; omega)
          rw [HZ9.out, HTRUE.out, HZ.out.2, e]; rfl
end Go.Proofs.Ytdhohaeopfgbmaa
