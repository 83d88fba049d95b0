/-
  The log in memory: Cut, Join. Conditions: those of the log; entries without commands.
-/
import Derived.Test.YtdhohaeopfgbmaaHistTrim
import Derived.Test.YtdhohaeopfgbmaaHistJoinP
namespace Go.Proofs.Ytdhohaeopfgbmaa
open Go Go.RowKit
attribute [local go_sem] cell_set_if


set_option maxRecDepth 100000 in
set_option maxHeartbeats 2000000 in
theorem cut_yes (w : World) (base g : Nat) (idx trm : Int) (es : List Ent) (v : Value) (k : Nat) (h : LogAt w base g idx trm es v) (hone : ∀ e ∈ es, e.cmds.oneCell' = true) (hk : k < es.length) (hlen : es.length ≤ 1000000) :
    Calls Try.prog 14 #[.pointer (some ⟨g, 0, none⟩), .int .i64 (idx + k + 1)] w fun e w' => e = .returned (.int .i64 (es.length - k)) ∧ ∃ v', LogAt w' base g idx trm (es.take k) v' ∧ Below base w w' ∧ Turn g v w v' w' := by
  obtain ⟨A, c, rfl, hc⟩ := h.form
  have H := Lib.hid h
  have i0 := h.i0
  have i1 := h.i1
  have hone' := cells_one _ (fun e he => hone e (List.mem_of_mem_take he) : ∀ e ∈ es.take k, e.cmds.oneCell' = true)
  have HO := Lib.hid hone'
  have hrd : Rd w A (flatE (es.take k)) := by rw [← take_flat]; exact (Rd.of_own h.own).take _
  have HRD := Lib.hid hrd
  have hdl : (es.take k).length = k := by simp; omega
  have hld := flatE_len (es.take k)
  rw [hdl] at hld
  have HL := Lib.hid hld
  have HDL := Lib.hid hdl
  have e1 : IntKind.i64.wrap (idx + k + 1 - idx) = (k : Int) + 1 := by rw [show idx + (k : Int) + 1 - idx = k + 1 by omega]; exact IntWalk.i64_in _ (by omega)
  have e2 : IntKind.i64.wrap ((k : Int) + 1 - 1) = (k : Int) := by rw [show (k : Int) + 1 - 1 = k by omega]; exact IntWalk.i64_in _ (by omega)
  have e3 : max (k : Int) 0 = (k : Int) := by omega
  have hki : (k : Int) < (es.length : Int) := by omega
  have hki2 : (k : Int) ≤ (es.length : Int) := by omega
  have hkc2 : (k : Int) ≤ (c : Int) := by omega
  clear hone hone' hrd hld h hdl
  go_enter Try.func14, Try.ntmps14
  go_wp2_with (first
    | (go_at_call 26; refine (last_any _ _ _ _ _ _ _ H.out).mono ?_; rintro e w1 ⟨rfl, nq, rfl⟩
       have L1 := H.out.drewN nq
       have c0 := L1.blk.cell 0
       have c2 := L1.blk.cell 2
       simp at c0 c2)
    | (go_at_call 39; refine (clone_ents _ A k c (flatE (es.take k)) (HRD.out.drewN nq) HL.out HO.out (by omega)).mono ?_
       rintro e w2 ⟨v2, rfl, hown2, b2⟩
       obtain ⟨A2, c2', rfl, hc2⟩ := own_form hown2
       have B2 := L1.blk.below b2
       have f2 := B2.free 2
       have g2 := B2.cell 2
       simp at g2))
  go_ret
  have hlt := H.out.blk.lt
  have hlow := H.out.low
  refine ⟨rfl, .slice A2 k c2', ⟨B2.set_ 2 _, hlow, ?_, i0, i1, by rw [HDL.out]; omega⟩, ?_, ⟨?_, fun q hq => ?_⟩⟩
  · rw [HDL.out]
    exact own_base (own_set B2 hown2 (by decide) _) (by show base ≤ (w.drewN nq).heap.size; simp; omega)
  · exact (below_of b2 ((Qt.drewN w nq).below base) (by simp; omega)).setCell hlow _
  · exact (((Frm.refl _ w).drewN nq).step b2).setCell (fun _ => .inl rfl) _
  · have := hown2.lt q hq; right; simpa using this.1

set_option maxRecDepth 100000 in
set_option maxHeartbeats 1000000 in
theorem rise_yes (w : World) (A : Option Addr) (n c : Nat) (i t : Int) (news : List Ent) (tm : Nat → Int) (hr : Rd w A (flatE news)) (hn : news.length = n) (hri : Rises i tm news) (ht : t = tm 0) (h0 : 0 ≤ i) (h1 : i ≤ 1152921504606846976) (hlen : n ≤ 1000000) :
    Calls Try.prog 40 #[.int .i64 i, .int .i64 t, .slice A n c] w fun e w' => e = .returned (.bool true) ∧ Below w.heap.size w w' := by
  have HR := Lib.hid hr
  have HRI := Lib.hid hri
  have HN := Lib.hid hn
  have HT := Lib.hid ht
  clear hr hri hn ht
  go_enter Try.func40, Try.ntmps40
  go_wp2
  go_loopw [0, 1, 6, 8, 11] (fun u0 u1 u6 u8 u11 wr => ∃ k : Nat, k ≤ n ∧ u11 = .int .i64 k ∧ u0 = .int .i64 (i + k) ∧ u1 = .int .i64 (tm k) ∧ Below w.heap.size w wr) (fun _ _ _ _ u11 _ => n - (intOf u11).toNat)
  case atStart => exact ⟨0, by omega, rfl, by go_num, by rw [HT.out], Below.refl _ _⟩
  case round =>
    obtain ⟨k, hk, rfl, rfl, rfl, hB⟩ := hrel
    by_cases hlt : k < n
    · obtain ⟨e, he⟩ : ∃ e, news[k]? = some e := ⟨news[k]'(by have := HN.out; omega), List.getElem?_eq_getElem _⟩
      obtain ⟨b, o, rfl, hb, hcs⟩ := HR.out.flat (by rw [flatE_len]; have := HN.out; omega)
      have e1 := HRI.out.idx k e he
      have e2 := HRI.out.up k e he
      have e3 := HRI.out.tm k e he
      have hc : ∀ j x, e.cells[j]? = some x → wr.cell? ⟨b, o + (k * 5 + j), none⟩ = some x := fun j x hj => by
        rw [(below_cells hB).1 b _ hb]; exact hcs _ x (flatE_at news k e he j x hj)
      have d0 : wr.cell? ⟨b, o + k * 5, none⟩ = some (.int .i64 e.index) := by have := hc 0 _ rfl; simpa using this
      have d1 : wr.cell? ⟨b, o + k * 5 + 1, none⟩ = some (.int .i64 e.term) := by have := hc 1 _ rfl; rwa [← Nat.add_assoc] at this
      have d2 : wr.cell? ⟨b, o + k * 5 + 2, none⟩ = some (.int .i64 e.client) := by have := hc 2 _ rfl; rwa [← Nat.add_assoc] at this
      have d3 : wr.cell? ⟨b, o + k * 5 + 3, none⟩ = some (.int .i64 e.seq) := by have := hc 3 _ rfl; rwa [← Nat.add_assoc] at this
      have d4 : wr.cell? ⟨b, o + k * 5 + 4, none⟩ = some (.slice none 0 0) := by have := hc 4 _ rfl; rw [← Nat.add_assoc, HRI.out.nil k e he] at this; exact this
      rw [e1] at d0
      clear e1 hcs hc he
      have e4 : IntKind.i64.wrap (i + k + 1 - 1) = i + k := by rw [show i + (k : Int) + 1 - 1 = i + k by omega]; exact IntWalk.i64_in _ (by omega)
      go_wp2
      go_quiet (fail)
      go_wp2
      go_roundw
      case rel => exact ⟨k + 1, by omega, by go_num, int_eq (by omega), by rw [e3], below_drewN (hB.alloc hB.size _) _⟩
      case measure => simp [intOf]; omega
    · go_wp2
      go_ret
      exact ⟨rfl, hB⟩

/-- What Join tells. -/
def JoinS (w : World) (idx trm : Int) (es news : List Ent) (n : Nat) (e : Ending) (w' : World) : Prop :=
  ∃ (K : Nat) (cut : Int) (B : Option Addr) (m cc : Nat), e = .returned (.tuple #[.int .i64 cut, .slice B m cc, .bool true]) ∧ K ≤ n ∧ (∀ j x, j < K → news[j]? = some x → skipE idx trm es x = true) ∧
    (K = n ∧ cut = 0 ∨ ∃ x, news[K]? = some x ∧ skipE idx trm es x = false ∧ cut = if (termE idx trm es x.index).isSome then x.index else 0) ∧ m = n - K ∧ m ≤ cc ∧ w'.ownsRow w.heap.size 53 5 (.slice B m cc) m (flatE (news.drop K)) ∧ Below w.heap.size w w'


set_option maxRecDepth 100000 in
set_option maxHeartbeats 4000000 in
theorem join_yes (w : World) (base g : Nat) (idx trm : Int) (es : List Ent) (v : Value) (h : LogAt w base g idx trm es v) (i t : Int) (A : Option Addr) (n c : Nat) (news : List Ent) (tm : Nat → Int) (hr : Rd w A (flatE news)) (hn : news.length = n) (hnc : n ≤ c) (hri : Rises i tm news) (ht : t = tm 0)
    (h0 : 0 ≤ i) (h1 : i ≤ idx + es.length) (hhas : hasB idx trm es i t = true) (hlen : n ≤ 1000000) (hmax : idx + es.length ≤ 1152921504606846976) :
    Calls Try.prog 18 #[.pointer (some ⟨g, 0, none⟩), .int .i64 i, .int .i64 t, .slice A n c] w (JoinS w idx trm es news n) := by
  have hHas := fun w h => has_any w base g idx trm es v i t h
  rw [hhas] at hHas
  have HHAS := Lib.hid hHas
  have HRISE := Lib.hid (fun w hr => rise_yes w A n c i t news tm hr hn hri ht h0 (by omega) hlen)
  have H := Lib.hid h
  have HR := Lib.hid hr
  have HRI := Lib.hid hri
  have HN := Lib.hid hn
  have i0 := h.i0
  have i1 := h.i1
  have hdl : (news.drop n).length = 0 := by simp; omega
  have HEMP := Lib.hid (show news.drop n = [] from List.drop_of_length_le (by omega))
  clear hHas hhas h hr hri hn ht hdl
  obtain ⟨i0', hi0, hz0, hz1, hz2⟩ := info_parts entInfo
  go_enter Try.func18, Try.ntmps18
  go_wp2_with (first
    | (go_at_call 26; refine (last_any _ _ _ _ _ _ _ H.out).mono ?_; rintro e w1 ⟨rfl, q1⟩)
    | (go_at_call 28; refine (HHAS.out _ (H.out.qt q1)).mono ?_; rintro e w2 ⟨rfl, q2⟩; have hR2 : Rd w2 A (flatE news) := HR.out.below ((q1.trans q2).below _))
    | (go_at_call 40; refine (HRISE.out _ hR2).mono ?_; rintro e w3 ⟨rfl, b3⟩))
  have B3 : Below w.heap.size w w3 := below_of b3 ((q1.trans q2).below _) ((q1.trans q2).below w.heap.size).size
  go_loopw [8, 9, 10, 43] (fun u8 u9 u10 u43 wr => ∃ k : Nat, k ≤ n ∧ u43 = .int .i64 k ∧ (∀ j x, j < k → news[j]? = some x → skipE idx trm es x = true) ∧ Below w.heap.size w wr) (fun _ _ _ u43 _ => n - (intOf u43).toNat)
  case atStart => exact ⟨0, by omega, rfl, fun j x h => by omega, B3⟩
  case round =>
    obtain ⟨k, hk, rfl, hs, hB⟩ := hrel
    have HS := Lib.hid hs
    clear hs B3
    by_cases hlt : k < n
    · obtain ⟨e, he⟩ : ∃ e, news[k]? = some e := ⟨news[k]'(by have := HN.out; omega), List.getElem?_eq_getElem _⟩
      obtain ⟨b, o, rfl, hb, hcs⟩ := HR.out.flat (by rw [flatE_len]; have := HN.out; omega)
      have hc : ∀ j x, e.cells[j]? = some x → wr.cell? ⟨b, o + (k * 5 + j), none⟩ = some x := fun j x hj => by
        rw [(below_cells hB).1 b _ hb]; exact hcs _ x (flatE_at news k e he j x hj)
      have d0 : wr.cell? ⟨b, o + k * 5, none⟩ = some (.int .i64 e.index) := by have := hc 0 _ rfl; simpa using this
      have d1 : wr.cell? ⟨b, o + k * 5 + 1, none⟩ = some (.int .i64 e.term) := by have := hc 1 _ rfl; rwa [← Nat.add_assoc] at this
      have d2 : wr.cell? ⟨b, o + k * 5 + 2, none⟩ = some (.int .i64 e.client) := by have := hc 2 _ rfl; rwa [← Nat.add_assoc] at this
      have d3 : wr.cell? ⟨b, o + k * 5 + 3, none⟩ = some (.int .i64 e.seq) := by have := hc 3 _ rfl; rwa [← Nat.add_assoc] at this
      have d4 : wr.cell? ⟨b, o + k * 5 + 4, none⟩ = some (.slice none 0 0) := by have := hc 4 _ rfl; rw [← Nat.add_assoc, HRI.out.nil k e he] at this; exact this
      have L0 : LogAt (wr.alloc (.cells #[.int .i64 e.index, .int .i64 e.term, .int .i64 e.client, .int .i64 e.seq, .slice none 0 0] 53)) base g idx trm es v := H.out.below ((hB.alloc hB.size _))
      have l0 : (wr.alloc (.cells #[.int .i64 e.index, .int .i64 e.term, .int .i64 e.client, .int .i64 e.seq, .slice none 0 0] 53)).cell? ⟨g, 0, none⟩ = some (.int .i64 idx) := L0.blk.cell 0
      have HL0 := Lib.hid L0
      have HCS := Lib.hid hcs
      have HE := Lib.hid he
      clear hc hcs L0 he
      rcases skipE_cases idx trm es e with ⟨c1, c2⟩ | ⟨c1, c2, c3⟩ | ⟨c1, c2, u, bb, cut, c3, c4, c5, c6⟩
      · have HC2 := Lib.hid c2
        clear c2
        go_wp2
        go_quiet (fail)
        go_wp2
        go_roundw
        case rel => exact ⟨k + 1, by omega, by go_num, (fun j x hj hx => by
          by_cases hjk : j < k
          · exact HS.out j x hjk hx
          · obtain rfl : j = k := by omega
            rw [HE.out] at hx; injection hx with hx; subst hx; exact HC2.out), below_drewN (hB.alloc hB.size _) _⟩
        case measure => simp [intOf]; omega
      · have HC2 := Lib.hid c2
        have hT := fun w' h => term_any w' base g idx trm es v e.index h
        rw [c3] at hT
        have HT := Lib.hid hT
        clear c2 c3 hT
        go_wp2
        go_quiet (fail)
        go_wp2_with (go_at_call 23; refine (HT.out _ (HL0.out.drewN _)).mono ?_; rintro e' w4 ⟨rfl, nq4, rfl⟩)
        go_roundw
        case rel => exact ⟨k + 1, by omega, by go_num, (fun j x hj hx => by
          by_cases hjk : j < k
          · exact HS.out j x hjk hx
          · obtain rfl : j = k := by omega
            rw [HE.out] at hx; injection hx with hx; subst hx; exact HC2.out), below_drewN (hB.alloc hB.size _) _⟩
        case measure => simp [intOf]; omega
      · have HC2 := Lib.hid c2
        have hT := fun w' h => term_any w' base g idx trm es v e.index h
        rw [c4, c5] at hT
        have HT := Lib.hid hT
        have HC6 := Lib.hid c6
        have hkc : (k : Int) ≤ (c : Int) := by omega
        have hkc2 : ¬ c = k := by omega
        clear c2 hT c4 c5 c6
        rcases c3 with ⟨rfl, hcut, c7⟩ | ⟨rfl, hcut⟩
        all_goals
          have HCUT := Lib.hid hcut
          clear hcut
          go_wp2
          go_quiet (fail)
          go_wp2_with (go_at_call 23; refine (HT.out _ (HL0.out.drewN _)).mono ?_; rintro e' w4 ⟨rfl, nq4, rfl⟩)
          go_loopw [16, 76] (fun u16 u76 ws => ∃ j : Nat, j ≤ n - k ∧ u76 = .int .i64 j ∧ ws.ownsRow w.heap.size 53 5 u16 j (flatE ((news.drop k).take j)) ∧ Below w.heap.size w ws) (fun _ u76 _ => n - (intOf u76).toNat)
          case atStart => exact ⟨0, by omega, rfl, World.ownsRow_nil _ _ _ _, below_drewN (hB.alloc hB.size _) _⟩
          case round =>
            clear d0 d1 d2 d3 d4 l0
            obtain ⟨j, hj, rfl, hown, hBs⟩ := hrel
            obtain ⟨A2, c3, rfl, hc3⟩ := own_form hown
            by_cases hlt2 : j < n - k
            · obtain ⟨x, hx⟩ : ∃ x, news[k + j]? = some x := ⟨news[k + j]'(by have := HN.out; omega), List.getElem?_eq_getElem _⟩
              have hc : ∀ i x', x.cells[i]? = some x' → wr.cell? ⟨b, o + ((k + j) * 5 + i), none⟩ = some x' := fun i x' hi => by
                rw [(below_cells hBs).1 b _ hb]; exact HCS.out _ x' (flatE_at news (k + j) x hx i x' hi)
              have hen := HRI.out.nil (k + j) x hx
              have d0 : wr.cell? ⟨b, o + k * 5 + j * 5, none⟩ = some (.int .i64 x.index) := by have := hc 0 _ rfl; rw [show o + ((k + j) * 5 + 0) = o + k * 5 + j * 5 by omega] at this; exact this
              have d1 : wr.cell? ⟨b, o + k * 5 + j * 5 + 1, none⟩ = some (.int .i64 x.term) := by have := hc 1 _ rfl; rw [show o + ((k + j) * 5 + 1) = o + k * 5 + j * 5 + 1 by omega] at this; exact this
              have d2 : wr.cell? ⟨b, o + k * 5 + j * 5 + 2, none⟩ = some (.int .i64 x.client) := by have := hc 2 _ rfl; rw [show o + ((k + j) * 5 + 2) = o + k * 5 + j * 5 + 2 by omega] at this; exact this
              have d3 : wr.cell? ⟨b, o + k * 5 + j * 5 + 3, none⟩ = some (.int .i64 x.seq) := by have := hc 3 _ rfl; rw [show o + ((k + j) * 5 + 3) = o + k * 5 + j * 5 + 3 by omega] at this; exact this
              have d4 : wr.cell? ⟨b, o + k * 5 + j * 5 + 4, none⟩ = some (.slice none 0 0) := by have := hc 4 _ rfl; rw [show o + ((k + j) * 5 + 4) = o + k * 5 + j * 5 + 4 by omega, hen] at this; exact this
              have hT2 : flatE ((news.drop k).take (j + 1)) = flatE ((news.drop k).take j) ++ [.int .i64 x.index, .int .i64 x.term, .int .i64 x.client, .int .i64 x.seq, .slice none 0 0] := by
                rw [List.take_add_one, List.getElem?_drop, hx]; simp [flatE, Ent.cells, hen]
              have HT2 := Lib.hid hT2
              clear hT2 hc hen hx
              go_wp2_with (first
                | (go_at_call 38; refine (copied_any _ _ _ _ _).mono ?_; rintro e' w5 ⟨rfl, b5⟩
                   have B5 := below_of b5 (hBs.alloc hBs.size _) (by have := hBs.size; simp; omega)
                   have O5 := own_frm hown (S := no) (((Frm.refl no wr).alloc (.cells #[.int .i64 x.index, .int .i64 x.term, .int .i64 x.client, .int .i64 x.seq, .slice none 0 0] 53)).step b5) (fun _ _ => id)
                   have O6 := own_frm O5 (S := no) ((Frm.refl no w5).alloc (.cells #[.int .i64 x.index, .int .i64 x.term, .int .i64 x.client, .int .i64 x.seq, .slice none 0 0] 53)) (fun _ _ => id))
                | (at_builtin
                   refine wpList_app rfl (.tmp 80) (.tmp 83) 41 rfl w.heap.size 53 i0' _ 5 56 Try.underlying41 hi0 hz0 hz1 hz2 rfl (by omega) (.slice A2 j c3) j _ rfl O6 _ 1 1 [.int .i64 x.index, .int .i64 x.term, .int .i64 x.client, .int .i64 x.seq, .slice none 0 0] rfl (by simpa using Rd.new w5 #[.int .i64 x.index, .int .i64 x.term, .int .i64 x.client, .int .i64 x.seq, .slice none 0 0] 53) rfl (by simp [Value.oneCell']) (by unfold maxLen; omega) (by omega) (by have := B5.size; simp; omega) ?_
                   intro v7 w7 hown7 hg7 hb7 hat7))
              go_roundw
              case rel => exact ⟨j + 1, by omega, by go_num, by rw [HT2.out]; exact hown7, (B5.alloc B5.size _).trans hb7⟩
              case measure => simp [intOf]; omega
            · obtain rfl : j = n - k := by omega
              go_wp2
              refine bodyPost_ret (v := .tuple #[.int .i64 cut, .slice A2 (n - k) c3, .bool true]) (by rw [HCUT.out]; simp only [results, show Try.f18.results = #[.tmp 8, .tmp 9, .tmp 10] from rfl]; go_simp) rfl ?_
              refine ⟨k, cut, A2, n - k, c3, rfl, hk, HS.out, .inr ⟨e, HE.out, HC2.out, HC6.out⟩, rfl, hc3, ?_, hBs⟩
              have hfull : (news.drop k).take (n - k) = news.drop k := List.take_of_length_le (by rw [List.length_drop, HN.out]; omega)
              rw [hfull] at hown; exact hown
    · obtain rfl : k = n := by omega
      go_wp2
      refine bodyPost_ret (v := .tuple #[.int .i64 0, .slice none 0 0, .bool true]) (by simp only [results, show Try.f18.results = #[.tmp 8, .tmp 9, .tmp 10] from rfl]; go_simp) rfl ?_
      refine ⟨k, 0, none, 0, 0, rfl, by omega, HS.out, .inl ⟨rfl, rfl⟩, by omega, by omega, ?_, hB⟩
      rw [HEMP.out]; exact World.ownsRow_nil _ _ _ _
set_option maxRecDepth 100000 in
theorem join_no (w : World) (base g : Nat) (idx trm : Int) (es : List Ent) (v : Value) (h : LogAt w base g idx trm es v) (i t : Int) (l : Value) (hno : idx + es.length < i ∨ (i ≤ idx + es.length ∧ hasB idx trm es i t = false)) :
    Calls Try.prog 18 #[.pointer (some ⟨g, 0, none⟩), .int .i64 i, .int .i64 t, l] w fun e w' => e = .returned (.tuple #[.int .i64 0, .slice none 0 0, .bool false]) ∧ Qt w w' := by
  have hHas := fun w h => has_any w base g idx trm es v i t h
  have H := Lib.hid h
  clear h
  rcases hno with h | ⟨h, h2⟩
  · clear hHas
    go_enter Try.func18, Try.ntmps18
    go_wp2_with (first
      | (go_at_call 26; refine (last_any _ _ _ _ _ _ _ H.out).mono ?_; rintro e w1 ⟨rfl, q1⟩))
    refine bodyPost_ret (v := .tuple #[.int .i64 0, .slice none 0 0, .bool false]) (by simp only [results, show Try.f18.results = #[.tmp 8, .tmp 9, .tmp 10] from rfl]; go_simp) rfl ?_
    exact ⟨rfl, q1⟩
  · rw [h2] at hHas
    have HHAS := Lib.hid hHas
    clear hHas h2
    go_enter Try.func18, Try.ntmps18
    go_wp2_with (first
      | (go_at_call 26; refine (last_any _ _ _ _ _ _ _ H.out).mono ?_; rintro e w1 ⟨rfl, q1⟩)
      | (go_at_call 28; refine (HHAS.out _ (H.out.qt q1)).mono ?_; rintro e w2 ⟨rfl, q2⟩))
    refine bodyPost_ret (v := .tuple #[.int .i64 0, .slice none 0 0, .bool false]) (by simp only [results, show Try.f18.results = #[.tmp 8, .tmp 9, .tmp 10] from rfl]; go_simp) rfl ?_
    exact ⟨rfl, q1.trans q2⟩
/-- Nothing is appended. -/
theorem append_none (w : World) (base g : Nat) (idx trm : Int) (es : List Ent) (v : Value) (h : LogAt w base g idx trm es v) (A : Option Addr) (c : Nat) :
    Calls Try.prog 12 #[.pointer (some ⟨g, 0, none⟩), .slice A 0 c] w fun e w' => e = .returned (.int .i64 0) ∧ Qt w w' := by
  have H := Lib.hid h
  clear h
  go_enter Try.func12, Try.ntmps12
  go_wp2_with (first
    | (go_at_call 26; refine (last_any _ _ _ _ _ _ _ H.out).mono ?_; rintro e w1 ⟨rfl, q1⟩)
    | (go_at_call 27; refine (lastterm_any _ _ _ _ _ _ _ (H.out.qt q1)).mono ?_; rintro e w2 ⟨rfl, q2⟩))
  go_loopw [4, 5, 6, 8, 19] (fun u4 u5 u6 u8 u19 wr => u19 = .int .i64 0 ∧ Qt w wr) (fun _ _ _ _ u19 _ => 0)
  case atStart => exact ⟨rfl, q1.trans q2⟩
  case round =>
    obtain ⟨rfl, hq⟩ := hrel
    go_wp2
    go_loopw [10, 47] (fun u10 u47 ws => u47 = .int .i64 0 ∧ Qt w ws) (fun _ u47 _ => 0)
    case atStart => exact ⟨rfl, hq⟩
    case round =>
      obtain ⟨rfl, hq2⟩ := hrel
      go_wp2
      go_ret
      exact ⟨rfl, hq2⟩
end Go.Proofs.Ytdhohaeopfgbmaa
