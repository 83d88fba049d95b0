/-
  The log in memory: what Append does with entries that follow one another and have no commands. Conditions: those of the log; the entries lie apart from it.
-/
import Derived.Test.YtmnndekpedacmaaHist
import Derived.Test.YtmnndekpedacmaaStepApp
import Derived.Laws.ResultCell
import Derived.Lib.BufferMore
namespace Go.Proofs.Ytmnndekpedacmaa
open Go Go.RowKit
attribute [local go_sem] cell_set_if

set_option maxRecDepth 100000 in
theorem clonenil_any (w : World) : Calls Try.prog 47 #[.slice none 0 0] w fun e w' => e = .returned (.slice none 0 0) ∧ w' = w := by
  go_enter Try.func47, Try.ntmps47
  have h1 := Lib.run_eql_slice_nil_nil (P := Try.prog) w 0 0 Try.underlying59
  go_wp2
  go_ret
  exact ⟨rfl, rfl⟩

/-- An entry without commands, as a value. -/
abbrev entV (i t c s : Int) : Value := .agg #[.int .i64 i, .int .i64 t, .int .i64 c, .int .i64 s, .slice none 0 0]

set_option maxRecDepth 100000 in
theorem copied_any (i t c s : Int) (w : World) : Calls Try.prog 43 #[entV i t c s] w fun e w' => e = .returned (entV i t c s) ∧ Below w.heap.size w w' := by
  go_enter Try.func43, Try.ntmps43
  go_wp2_with (go_at_call 47; refine (clonenil_any _).mono ?_; rintro e w1 ⟨rfl, rfl⟩)
  refine bodyPost_ret (v := entV i t c s) (by simp only [results, show Try.f43.results = #[.cell 2 63] from rfl]; go_simp) rfl ⟨rfl, ?_⟩
  exact ((Below.refl _ _).alloc (Nat.le_refl _) _).alloc (by simp) _

/-- Entries that follow an index and a term: the k-th's index is last + k + 1; tm: the term behind k of them. -/
structure Rises (last : Int) (tm : Nat → Int) (news : List Ent) : Prop where
  idx : ∀ (k : Nat) e, news[k]? = some e → e.index = last + k + 1
  up : ∀ (k : Nat) e, news[k]? = some e → tm k ≤ e.term
  tm : ∀ (k : Nat) e, news[k]? = some e → tm (k + 1) = e.term
  nil : ∀ (k : Nat) e, news[k]? = some e → e.cmds = .slice none 0 0

theorem entInfo : (Try.prog.info? 63).map (fun i => (i.zero, i.size, i.bytes)) = some (some (entV 0 0 0 0), 5, 56) := by kernel_rfl
theorem Blk.grown {w w' : World} {g : Nat} {t : TypeId} {cs : Array Value} {row : Option Nat} (h : Blk w g t cs) (hg : w.grownBy w' row) (hne : row ≠ some g) : Blk w' g t cs := (hg.block g h.lt (Ne.symm hne)).trans h
theorem own_set {w : World} {g base n : Nat} {t e : TypeId} {cs : Array Value} {v : Value} {xs : List Value} {size : Nat} (hB : Blk w g t cs) (hO : w.ownsRow base e size v n xs) (hne : e ≠ t) {i : Nat} (u : Value) : (w.setCell ⟨g, i, none⟩ u).ownsRow base e size v n xs :=
  own_frm hO ((Frm.refl (at1 g) w).setCell (p := ⟨g, i, none⟩) (fun _ => rfl) u) fun k hk he => (Blk.own_ne hB hO hne) (by unfold at1 at he; rw [hk, he])

/-- The blocks of a log (or of any object with one slice of its own). -/
def mine (g : Nat) (v : Value) : Nat → Prop := fun k => k = g ∨ v.ownBlock = some k
/-- What a log's own calls turn: its own blocks; its slice is the old one or a new one. -/
structure Turn (g : Nat) (v : Value) (w : World) (v' : Value) (w' : World) : Prop where
  frm : Frm (mine g v) w w'
  own : ∀ k, v'.ownBlock = some k → v.ownBlock = some k ∨ w.heap.size ≤ k
theorem Turn.refl (g : Nat) (v : Value) (w : World) : Turn g v w v w := ⟨Frm.refl _ _, fun _ h => .inl h⟩
theorem Turn.ofmine {g : Nat} {v v' : Value} {w w' : World} (h : Turn g v w v' w') (k : Nat) (hk : mine g v' k) : mine g v k ∨ w.heap.size ≤ k := by
  rcases hk with rfl | hk
  · exact .inl (.inl rfl)
  · rcases h.own k hk with h1 | h1
    · exact .inl (.inr h1)
    · exact .inr h1
theorem Turn.trans {g : Nat} {v v' v'' : Value} {a b c : World} (h : Turn g v a v' b) (k : Turn g v' b v'' c) : Turn g v a v'' c :=
  ⟨h.frm.trans k.frm fun i hi hm => by rcases h.ofmine i hm with h1 | h1; exact h1; omega, fun i hi => by
    rcases k.own i hi with h1 | h1
    · exact h.own i h1
    · exact .inr (Nat.le_trans h.frm.size h1)⟩
theorem Turn.step {g : Nat} {v v' : Value} {a b c : World} (h : Turn g v a v' b) (k : Below b.heap.size b c) : Turn g v a v' c := ⟨h.frm.step k, h.own⟩

set_option maxRecDepth 100000 in
set_option maxHeartbeats 2000000 in
theorem append_turn (w : World) (base g : Nat) (idx trm : Int) (es : List Ent) (v : Value) (h : LogAt w base g idx trm es v) (b o n c : Nat) (news : List Ent) (tm : Nat → Int)
    (hr : ∀ j x, (flatE news)[j]? = some x → w.cell? ⟨b, o + j, none⟩ = some x) (hn : news.length = n) (hri : Rises (idx + es.length) tm news) (h0 : tm 0 = lastT trm es) (hb : b < w.heap.size) (hbg : b ≠ g) (hbv : v.ownBlock ≠ some b) (hlen : es.length + n ≤ 1000000) :
    Calls Try.prog 29 #[.pointer (some ⟨g, 0, none⟩), .slice (some ⟨b, o, none⟩) n c] w fun e w' => e = .returned (.int .i64 0) ∧ ∃ v', LogAt w' base g idx trm (es ++ news) v' ∧ Below base w w' ∧ Turn g v w v' w' := by
  have H := Lib.hid h
  have HR := Lib.hid hr
  have HRI := Lib.hid hri
  have HN := Lib.hid hn
  have H0 := Lib.hid h0
  clear h0
  have i0 := h.i0
  have i1 := h.i1
  have n1 := h.n1
  clear h hr hri hn
  go_enter Try.func29, Try.ntmps29
  go_wp2_with (first
    | (go_at_call 33; refine (last_any _ _ _ _ _ _ _ H.out).mono ?_; rintro e w1 ⟨rfl, q1⟩)
    | (go_at_call 42; refine (lastterm_any _ _ _ _ _ _ _ (H.out.qt q1)).mono ?_; rintro e w2 ⟨rfl, q2⟩))
  have B2 : Below w.heap.size w w2 := (q1.trans q2).below _
  go_loopw [4, 5, 6, 8, 19] (fun u4 u5 u6 u8 u19 wr => ∃ k : Nat, k ≤ n ∧ u19 = .int .i64 k ∧ u5 = .int .i64 (idx + es.length + k) ∧ u6 = .int .i64 (tm k) ∧ Below w.heap.size w wr) (fun _ _ _ _ u19 _ => n - (intOf u19).toNat)
  case atStart => exact ⟨0, by omega, rfl, by go_num, by rw [H0.out], B2⟩
  case round =>
    obtain ⟨k, hk, rfl, rfl, rfl, hB⟩ := hrel
    by_cases hlt : k < n
    · obtain ⟨e, he⟩ : ∃ e, news[k]? = some e := ⟨news[k]'(by have := HN.out; omega), List.getElem?_eq_getElem _⟩
      have e1 := HRI.out.idx k e he
      have e2 := HRI.out.up k e he
      have e3 := HRI.out.tm k e he
      have hc : ∀ j x, e.cells[j]? = some x → wr.cell? ⟨b, o + (k * 5 + j), none⟩ = some x := fun j x hj => by
        rw [(below_cells hB).1 b _ hb]; exact HR.out _ x (flatE_at news k e he j x hj)
      have d0 : wr.cell? ⟨b, o + k * 5, none⟩ = some (.int .i64 e.index) := by have := hc 0 _ rfl; simpa using this
      have d1 : wr.cell? ⟨b, o + k * 5 + 1, none⟩ = some (.int .i64 e.term) := by have := hc 1 _ rfl; rwa [← Nat.add_assoc] at this
      have d2 : wr.cell? ⟨b, o + k * 5 + 2, none⟩ = some (.int .i64 e.client) := by have := hc 2 _ rfl; rwa [← Nat.add_assoc] at this
      have d3 : wr.cell? ⟨b, o + k * 5 + 3, none⟩ = some (.int .i64 e.seq) := by have := hc 3 _ rfl; rwa [← Nat.add_assoc] at this
      have d4 : wr.cell? ⟨b, o + k * 5 + 4, none⟩ = some (.slice none 0 0) := by have := hc 4 _ rfl; rw [← Nat.add_assoc, HRI.out.nil k e he] at this; exact this
      rw [e1] at d0
      clear e1
      have e4 : IntKind.i64.wrap (idx + es.length + k + 1 - 1) = idx + es.length + k := by rw [show idx + (es.length : Int) + k + 1 - 1 = idx + es.length + k by omega]; exact IntWalk.i64_in _ (by omega)
      clear hc
      go_wp2
      go_quiet (fail)
      go_wp2
      go_roundw
      case rel => exact ⟨k + 1, by omega, by go_num, int_eq (by omega), by rw [e3], below_drewN (hB.alloc hB.size _) _⟩
      case measure => simp [intOf]; omega
    · obtain ⟨n', hn'⟩ : ∃ n', n' = n := ⟨_, rfl⟩
      obtain rfl : k = n := by omega
      have hkn : n' = k := hn'
      subst hkn
      go_wp2
      go_loopw [10, 47] (fun u10 u47 ws => ∃ (k : Nat) (vk : Value), k ≤ n' ∧ u47 = .int .i64 k ∧ LogAt ws base g idx trm (es ++ news.take k) vk ∧ Below base w ws ∧ b < ws.heap.size ∧ vk.ownBlock ≠ some b ∧ Turn g v w vk ws ∧ (∀ j x, (flatE news)[j]? = some x → ws.cell? ⟨b, o + j, none⟩ = some x)) (fun _ u47 _ => n' - (intOf u47).toNat)
      case atStart =>
        refine ⟨0, v, by omega, rfl, ?_, hB.mono (by have := H.out.low; have := H.out.blk.lt; omega), Nat.lt_of_lt_of_le hb hB.size, hbv, (Turn.refl _ _ _).step hB, fun j x hx => ?_⟩
        · have := H.out.below hB
          simpa using this
        · rw [(below_cells hB).1 b _ hb]; exact HR.out j x hx
      case round =>
        obtain ⟨k2, vk, hk2, rfl, hLog, hBB, hbb, hbv2, hT, hcell⟩ := hrel
        by_cases hlt2 : k2 < n'
        · obtain ⟨e, he⟩ : ∃ e, news[k2]? = some e := ⟨news[k2]'(by have := HN.out; omega), List.getElem?_eq_getElem _⟩
          have hc : ∀ j x, e.cells[j]? = some x → wr.cell? ⟨b, o + (k2 * 5 + j), none⟩ = some x := fun j x hj => hcell _ x (flatE_at news k2 e he j x hj)
          have d0 : wr.cell? ⟨b, o + k2 * 5, none⟩ = some (.int .i64 e.index) := by have := hc 0 _ rfl; simpa using this
          have d1 : wr.cell? ⟨b, o + k2 * 5 + 1, none⟩ = some (.int .i64 e.term) := by have := hc 1 _ rfl; rwa [← Nat.add_assoc] at this
          have d2 : wr.cell? ⟨b, o + k2 * 5 + 2, none⟩ = some (.int .i64 e.client) := by have := hc 2 _ rfl; rwa [← Nat.add_assoc] at this
          have d3 : wr.cell? ⟨b, o + k2 * 5 + 3, none⟩ = some (.int .i64 e.seq) := by have := hc 3 _ rfl; rwa [← Nat.add_assoc] at this
          have hen := HRI.out.nil k2 e he
          have d4 : wr.cell? ⟨b, o + k2 * 5 + 4, none⟩ = some (.slice none 0 0) := by have := hc 4 _ rfl; rw [← Nat.add_assoc, hen] at this; exact this
          clear hc
          have hlk : (es ++ news.take k2).length = es.length + k2 := by rw [List.length_append, List.length_take]; have := HN.out; omega
          have L0 : LogAt (wr.alloc (.cells #[.int .i64 e.index, .int .i64 e.term, .int .i64 e.client, .int .i64 e.seq, .slice none 0 0] 63)).drew base g idx trm (es ++ news.take k2) vk := hLog.below (((Below.refl _ _).alloc (Nat.le_refl _) _).drew)
          have l0 : (wr.alloc (.cells #[.int .i64 e.index, .int .i64 e.term, .int .i64 e.client, .int .i64 e.seq, .slice none 0 0] 63)).drew.cell? ⟨g, 2, none⟩ = some vk := by rw [L0.blk.cell 2]; rfl
          have HL := Lib.hid hLog
          have HCELL := Lib.hid hcell
          have HBV := Lib.hid hbv2
          obtain ⟨i0', hi0, hz0, hz1, hz2⟩ := info_parts entInfo
          clear hLog hcell
          go_wp2
          go_region_law (first
            | (go_simp; go_at_call 43; refine (copied_any _ _ _ _ _).mono ?_; rintro e' w3 ⟨rfl, b3⟩
               have L3 := L0.below b3
               have l3 : w3.cell? ⟨g, 2, none⟩ = some vk := by rw [L3.blk.cell 2]; rfl
               have L4 := L3.below ((Below.refl w3.heap.size w3).alloc (Nat.le_refl _) (.cells #[.int .i64 e.index, .int .i64 e.term, .int .i64 e.client, .int .i64 e.seq, .slice none 0 0] 63))
               have l4 : (w3.alloc (.cells #[.int .i64 e.index, .int .i64 e.term, .int .i64 e.client, .int .i64 e.seq, .slice none 0 0] 63)).cell? ⟨g, 2, none⟩ = some vk := by rw [L4.blk.cell 2]; rfl)
            | (refine step_app rfl (.tmp 55) (.tmp 58) 56 rfl base 63 i0' _ 5 56 Try.underlying56 hi0 hz0 hz1 hz2 rfl (by omega) vk (es.length + k2) _ rfl (by have := L4.own; rw [hlk] at this; exact this) _ 1 1 [.int .i64 e.index, .int .i64 e.term, .int .i64 e.client, .int .i64 e.seq, .slice none 0 0] rfl (by simpa using Rd.new w3 #[.int .i64 e.index, .int .i64 e.term, .int .i64 e.client, .int .i64 e.seq, .slice none 0 0] 63) rfl (by simp [Value.oneCell']) (by unfold maxLen; omega) (by omega) (by have := L4.low; have := L4.blk.lt; omega) ?_
               intro v1 w5 hown1 hg1 hb1 hat1
               obtain ⟨A1, cp1, rfl, hcp1⟩ := own_form hown1
               have hne : vk.ownBlock ≠ some g := Blk.own_ne L4.blk L4.own (by decide)
               have G5 := L4.blk.grown hg1 hne
               have f5 := G5.free 2
               have g5 := G5.cell 2))
          all_goals
            go_wp2
            go_roundw
            case rel =>
              have hcell2 : Rd wr (some ⟨b, o, none⟩) (flatE news) := Rd.row HCELL.out
              have hB3 : Below base w w3 := below_of b3 ((hBB.alloc (by have := HL.out.low; have := HL.out.blk.lt; omega) _).drew) (by have := HL.out.low; have := HL.out.blk.lt; simp; omega)
              have hs3 : wr.heap.size < w3.heap.size := by have := b3.size; simp at this; omega
              have hR3 : Rd w3 (some ⟨b, o, none⟩) (flatE news) := ((hcell2.alloc _).drew).below b3
              have hR4 := hR3.alloc (.cells #[.int .i64 e.index, .int .i64 e.term, .int .i64 e.client, .int .i64 e.seq, .slice none 0 0] 63)
              have hR5 := hR4.frm (S := fun k => vk.ownBlock = some k) ((Frm.refl _ _).grown hg1 fun k hk _ => hk) (fun ad had => by injection had with had; subst had; exact HBV.out)
              refine ⟨k2 + 1, _, by omega, by go_num, ⟨G5.set_ 2 _, L4.low, ?_, i0, i1, by rw [List.length_append, List.length_take]; omega⟩, ?_, ?_, ?_, ?_, ?_⟩
              · have ht : news.take (k2 + 1) = news.take k2 ++ [e] := by rw [List.take_add_one, he]; rfl
                have hf : flatE (es ++ news.take (k2 + 1)) = flatE (es ++ news.take k2) ++ [.int .i64 e.index, .int .i64 e.term, .int .i64 e.client, .int .i64 e.seq, .slice none 0 0] := by
                  rw [ht, ← List.append_assoc]
                  simp [flatE, Ent.cells, hen]
                have hl : (es ++ news.take (k2 + 1)).length = es.length + k2 + 1 := by rw [ht, ← List.append_assoc, List.length_append, hlk]; rfl
                rw [hf, hl]
                exact own_set G5 hown1 (by decide) _
              · exact (((hB3.alloc (by have := hB3.size; have := HL.out.low; have := HL.out.blk.lt; omega) _).trans hb1).setCell L4.low _)
              · have := hb1.size; have := G5.lt; simp at *; omega
              · rcases hat1 with h | h
                · rw [h]; exact HBV.out
                · rw [h]; intro hh; injection hh with hh; simp at hh; omega
              · have hT3 : Turn g v w vk w3 := by
                  refine ⟨?_, hT.own⟩
                  exact ((hT.frm.alloc _).drew).step b3
                have hT4 := hT3.step ((Below.refl w3.heap.size w3).alloc (Nat.le_refl _) (.cells #[.int .i64 e.index, .int .i64 e.term, .int .i64 e.client, .int .i64 e.seq, .slice none 0 0] 63))
                refine hT4.trans ⟨((Frm.refl _ _).grown hg1 fun k hk _ => .inr hk).setCell (fun _ => .inl rfl) _, fun k hk => ?_⟩
                rcases hat1 with h | h
                · left; rw [← h]; exact hk
                · right; rw [h] at hk; injection hk with hk; omega
              · intro j x hx
                obtain ⟨ad, had, hc5⟩ := hR5 j x hx
                injection had with had; subst had
                rw [add_flat] at hc5
                rw [cell_set_if, if_neg (by omega)]; exact hc5
            case measure => simp [intOf]; omega
        · obtain rfl : k2 = n' := by omega
          go_wp2
          go_ret
          refine ⟨rfl, vk, ?_, hBB, hT⟩
          have e : news.take k2 = news := List.take_of_length_le (by have := HN.out; omega)
          rw [← e]; exact hLog
set_option maxRecDepth 100000 in
theorem append_any (w : World) (base g : Nat) (idx trm : Int) (es : List Ent) (v : Value) (h : LogAt w base g idx trm es v) (b o n c : Nat) (news : List Ent) (tm : Nat → Int)
    (hr : ∀ j x, (flatE news)[j]? = some x → w.cell? ⟨b, o + j, none⟩ = some x) (hn : news.length = n) (hri : Rises (idx + es.length) tm news) (h0 : tm 0 = lastT trm es) (hb : b < w.heap.size) (hbg : b ≠ g) (hbv : v.ownBlock ≠ some b) (hlen : es.length + n ≤ 1000000) :
    Calls Try.prog 29 #[.pointer (some ⟨g, 0, none⟩), .slice (some ⟨b, o, none⟩) n c] w fun e w' => e = .returned (.int .i64 0) ∧ ∃ v', LogAt w' base g idx trm (es ++ news) v' ∧ Below base w w' :=
  (append_turn w base g idx trm es v h b o n c news tm hr hn hri h0 hb hbg hbv hlen).mono fun _ _ ⟨h1, v', h2, h3, _⟩ => ⟨h1, v', h2, h3⟩
end Go.Proofs.Ytmnndekpedacmaa
