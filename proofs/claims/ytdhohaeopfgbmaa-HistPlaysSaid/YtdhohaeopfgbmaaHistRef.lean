/-
  The document's log: New, Last, At, LastTerm, Append, Newer. Conditions: those of the log.
-/
import Derived.Test.YtdhohaeopfgbmaaOne
namespace Go.Proofs.Ytdhohaeopfgbmaa
open Go Go.RowKit
attribute [local go_sem] cell_set_if

theorem ref_new_log (w : World) (x' y' x y : Int) (hx : x' = x) (hy : y' = y) (h0 : 0 ≤ x) (h1 : x ≤ 1152921504606846976) :
    RefAt (w.alloc (.cells #[.int .i64 x', .int .i64 y', .slice none 0 0] 46)) w.heap.size w.heap.size x y [] (.slice none 0 0) := by
  subst hx hy
  exact ⟨Blk.new _ _ _, Nat.le_refl _, World.ownsRow_nil _ _ _ _, h0, h1, by simp⟩

theorem ref_new_any (i t : Int) (w : World) (hi : i ≤ 1152921504606846976) :
    Calls Try.prog 7 #[.int .i64 i, .int .i64 t] w fun e w' => e = .returned (.pointer (some ⟨w.heap.size, 0, none⟩)) ∧ RefAt w' w.heap.size w.heap.size (max i 0) (max t 0) [] (.slice none 0 0) ∧ Below w.heap.size w w' := by
  have H1 : Hid (max i 0 ≤ 1152921504606846976) := by unfold Hid; omega
  have H0 : Hid (0 ≤ max i 0) := by unfold Hid; omega
  obtain ⟨x, hx⟩ : ∃ x, x = max i 0 := ⟨_, rfl⟩
  obtain ⟨y, hy⟩ : ∃ y, y = max t 0 := ⟨_, rfl⟩
  rw [← hx] at H1 H0 ⊢
  rw [← hy]
  have HX := Lib.hid hx
  have HY := Lib.hid hy
  clear hx hy
  go_enter Try.func7, Try.ntmps7
  go_wp2
  all_goals go_ret
  all_goals exact ⟨rfl, ref_new_log _ _ _ _ _ (by have := HX.out; omega) (by have := HY.out; omega) H0.out H1.out, (Below.refl _ _).alloc (Nat.le_refl _) _⟩

theorem ref_last_any (w : World) (base g : Nat) (idx trm : Int) (es : List Ent) (v : Value) (h : RefAt w base g idx trm es v) :
    Calls Try.prog 8 #[.pointer (some ⟨g, 0, none⟩)] w fun e w' => e = .returned (.int .i64 (idx + es.length)) ∧ Qt w w' := by
  obtain ⟨A, c, rfl, hc⟩ := h.form
  have c0 := h.blk.cell 0
  have c2 := h.blk.cell 2
  have h0 := h.i0
  have h1 := h.i1
  have h2 := h.n1
  simp at c0 c2
  clear h
  go_enter Try.func8, Try.ntmps8
  go_wp2
  go_quiet (fail)
  go_wp2
  go_ret
  exact ⟨rfl, Qt.drewN _ _⟩

set_option maxHeartbeats 1000000 in
theorem ref_at_no (w : World) (base g : Nat) (idx trm : Int) (es : List Ent) (v : Value) (i : Int) (h : RefAt w base g idx trm es v) (hi : i < idx ∨ idx + es.length < i) :
    Calls Try.prog 9 #[.pointer (some ⟨g, 0, none⟩), .int .i64 i] w fun e w' => e = .returned (.tuple #[.int .i64 0, .bool false]) ∧ Qt w w' := by
  have H := Lib.hid h
  have c0 := h.blk.cell 0
  simp at c0
  clear h
  have hne : (i == idx) = false := by simp; omega
  by_cases h1 : i < idx
  · clear hi
    go_enter Try.func9, Try.ntmps9
    go_wp2
    go_ret2
    exact ⟨rfl, Qt.refl _⟩
  · have h2 : idx + es.length < i := by omega
    clear hi
    go_enter Try.func9, Try.ntmps9
    go_wp2_with (go_at_call 8; refine (ref_last_any _ _ _ _ _ _ _ H.out).mono ?_; rintro e w1 ⟨rfl, hq⟩)
    go_ret2
    exact ⟨rfl, hq⟩
set_option maxHeartbeats 1000000 in
theorem ref_at_base (w : World) (base g : Nat) (idx trm : Int) (es : List Ent) (v : Value) (h : RefAt w base g idx trm es v) :
    Calls Try.prog 9 #[.pointer (some ⟨g, 0, none⟩), .int .i64 idx] w fun e w' => e = .returned (.tuple #[.int .i64 trm, .bool true]) ∧ Qt w w' := by
  have c0 := h.blk.cell 0
  have c1 := h.blk.cell 1
  simp at c0 c1
  clear h
  go_enter Try.func9, Try.ntmps9
  go_wp2
  go_ret2
  exact ⟨rfl, Qt.refl _⟩
set_option maxHeartbeats 1000000 in
theorem ref_at_at (w : World) (base g : Nat) (idx trm : Int) (es : List Ent) (v : Value) (k : Nat) (e : Ent) (h : RefAt w base g idx trm es v) (hk : es[k]? = some e) :
    Calls Try.prog 9 #[.pointer (some ⟨g, 0, none⟩), .int .i64 (idx + k + 1)] w fun e' w' => e' = .returned (.tuple #[.int .i64 e.term, .bool true]) ∧ Qt w w' := by
  have H := Lib.hid h
  have c0 := h.blk.cell 0
  have hl := (List.getElem?_eq_some_iff.1 hk).1
  have hi0 := h.i0
  have hi1 := h.i1
  have hn1 := h.n1
  obtain ⟨r, c, rfl, _, _⟩ := h.own.form (by omega)
  have hcell := h.own.cellAt (k * 5 + 1) (by omega)
  rw [flatE_at es k e hk 1 (.int .i64 e.term) rfl] at hcell
  have HC := Lib.hid hcell
  simp at c0
  clear h hk hcell
  have hne : (idx + (k : Int) + 1 == idx) = false := by simp; omega
  go_enter Try.func9, Try.ntmps9
  go_wp2_with (go_at_call 8; refine (ref_last_any _ _ _ _ _ _ _ H.out).mono ?_; rintro e w1 ⟨rfl, n, rfl⟩; have c0 := (H.out.drewN n).blk.cell 0; have c2 := (H.out.drewN n).blk.cell 2; simp at c0 c2)
  have e1 : IntKind.i64.wrap (idx + k + 1 - idx) = (k : Int) + 1 := by rw [show idx + k + 1 - idx = (k : Int) + 1 by omega]; exact IntWalk.i64_in _ (by omega)
  have e2 : IntKind.i64.wrap (k : Int) = (k : Int) := IntWalk.i64_in _ (by omega)
  have e3 : IntKind.i64.wrap ((k : Int) + 1 - 1) = (k : Int) := by rw [show (k : Int) + 1 - 1 = (k : Int) by omega]; exact e2
  have hki : (k : Int) < (es.length : Int) := by omega
  have hcc := HC.out
  go_quiet (fail)
  go_wp2
  go_ret2
  exact ⟨rfl, (Qt.drewN w n).trans (Qt.drewN _ _)⟩

/-- At, at every index. -/
theorem ref_at_any (w : World) (base g : Nat) (idx trm : Int) (es : List Ent) (v : Value) (i : Int) (h : RefAt w base g idx trm es v) :
    Calls Try.prog 9 #[.pointer (some ⟨g, 0, none⟩), .int .i64 i] w fun e' w' => e' = .returned (.tuple #[.int .i64 ((termE idx trm es i).getD 0), .bool (termE idx trm es i).isSome]) ∧ Qt w w' := by
  by_cases h1 : i < idx ∨ idx + es.length < i
  · have : termE idx trm es i = none := by unfold termE; rw [if_pos h1]
    rw [this]
    exact ref_at_no w base g idx trm es v i h h1
  · by_cases h2 : i = idx
    · subst h2
      rw [termE_base]
      exact ref_at_base w base g i trm es v h
    · obtain ⟨k, hk⟩ : ∃ k : Nat, i = idx + k + 1 := ⟨(i - idx - 1).toNat, by omega⟩
      have hkl : k < es.length := by omega
      have : termE idx trm es i = some es[k].term := by
        unfold termE
        rw [if_neg h1, if_neg h2, show (i - idx - 1).toNat = k by omega, List.getElem?_eq_getElem hkl]; rfl
      rw [this, hk]
      exact ref_at_at w base g idx trm es v k es[k] h (List.getElem?_eq_getElem hkl)

theorem ref_lastterm_any (w : World) (base g : Nat) (idx trm : Int) (es : List Ent) (v : Value) (h : RefAt w base g idx trm es v) :
    Calls Try.prog 10 #[.pointer (some ⟨g, 0, none⟩)] w fun e' w' => e' = .returned (.int .i64 (lastT trm es)) ∧ Qt w w' := by
  have H := Lib.hid h
  have E := Lib.hid (termE_last idx trm es h.i0)
  clear h
  go_enter Try.func10, Try.ntmps10
  go_wp2_with (first
    | (go_at_call 8; refine (ref_last_any _ _ _ _ _ _ _ H.out).mono ?_; rintro e w1 ⟨rfl, q1⟩)
    | (go_at_call 9; refine (ref_at_any _ _ _ _ _ _ _ _ (H.out.qt q1)).mono ?_; rw [E.out]; rintro e w2 ⟨rfl, q2⟩))
  go_ret
  exact ⟨rfl, q1.trans q2⟩


theorem cells_one (es : List Ent) (h : ∀ e ∈ es, e.cmds.oneCell' = true) : ∀ u ∈ flatE es, u.oneCell' = true := by
  intro u hu
  unfold flatE at hu
  rw [List.mem_flatMap] at hu
  obtain ⟨e, he, hu⟩ := hu
  unfold Ent.cells at hu
  simp only [List.mem_cons, List.not_mem_nil, or_false] at hu
  rcases hu with rfl | rfl | rfl | rfl | rfl
  · rfl
  · rfl
  · rfl
  · rfl
  · exact h e he

theorem own_mono {w : World} {a base : Nat} {e : TypeId} {size n : Nat} {v : Value} {xs : List Value} (h : w.ownsRow a e size v n xs) (hb : base ≤ a) : w.ownsRow base e size v n xs :=
  ⟨h.1, h.2.imp id fun ⟨g, cap, cur, hv, hg, r⟩ => ⟨g, cap, cur, hv, Nat.le_trans hb hg, r⟩⟩
/-- Entries that follow an index and a term (whatever their commands). -/
structure Rises0 (last : Int) (tm : Nat → Int) (news : List Ent) : Prop where
  idx : ∀ (k : Nat) e, news[k]? = some e → e.index = last + k + 1
  up : ∀ (k : Nat) e, news[k]? = some e → tm k ≤ e.term
  tm : ∀ (k : Nat) e, news[k]? = some e → tm (k + 1) = e.term
theorem Rises.rises0 {last : Int} {tm : Nat → Int} {news : List Ent} (h : Rises last tm news) : Rises0 last tm news := ⟨h.idx, h.up, h.tm⟩

set_option maxRecDepth 100000 in
set_option maxHeartbeats 2000000 in
theorem ref_append_any (w : World) (base g : Nat) (idx trm : Int) (es : List Ent) (v : Value) (h : RefAt w base g idx trm es v) (b o n c : Nat) (news : List Ent) (tm : Nat → Int)
    (hr : ∀ j x, (flatE news)[j]? = some x → w.cell? ⟨b, o + j, none⟩ = some x) (hn : news.length = n) (hri : Rises0 (idx + es.length) tm news) (h0 : tm 0 = lastT trm es) (_hb : b < w.heap.size) (hlen : es.length + n ≤ 1000000)
    (he1 : ∀ e ∈ es, e.cmds.oneCell' = true) (hn1 : ∀ e ∈ news, e.cmds.oneCell' = true) :
    Calls Try.prog 13 #[.pointer (some ⟨g, 0, none⟩), .slice (some ⟨b, o, none⟩) n c] w fun e w' => e = .returned (.int .i64 0) ∧ ∃ v', RefAt w' base g idx trm (es ++ news) v' ∧ Below base w w' ∧ Turn g v w v' w' := by
  have H := Lib.hid h
  have HR := Lib.hid hr
  have HRI := Lib.hid hri
  have HN := Lib.hid hn
  have H0 := Lib.hid h0
  have HE := Lib.hid (cells_one es he1)
  have HW := Lib.hid (cells_one news hn1)
  clear h0 he1 hn1
  have i0 := h.i0
  have i1 := h.i1
  have n1 := h.n1
  clear h hr hri hn
  go_enter Try.func13, Try.ntmps13
  go_wp2_with (first
    | (go_at_call 8; refine (ref_last_any _ _ _ _ _ _ _ H.out).mono ?_; rintro e w1 ⟨rfl, q1⟩)
    | (go_at_call 10; refine (ref_lastterm_any _ _ _ _ _ _ _ (H.out.qt q1)).mono ?_; rintro e w2 ⟨rfl, q2⟩))
  have B2 : Qt w w2 := q1.trans q2
  go_loopw [4, 5, 6, 7] (fun u4 u5 u6 u7 wr => ∃ k : Nat, k ≤ n ∧ u7 = .int .i64 k ∧ u5 = .int .i64 (idx + es.length + k) ∧ u6 = .int .i64 (tm k) ∧ Qt w wr) (fun _ _ _ u7 _ => n - (intOf u7).toNat)
  case atStart => exact ⟨0, by omega, rfl, by go_num, by rw [H0.out], B2⟩
  case round =>
    obtain ⟨k, hk, rfl, rfl, rfl, hq⟩ := hrel
    obtain ⟨nq, rfl⟩ := hq
    by_cases hlt : k < n
    · obtain ⟨e, he⟩ : ∃ e, news[k]? = some e := ⟨news[k]'(by have := HN.out; omega), List.getElem?_eq_getElem _⟩
      have e1 := HRI.out.idx k e he
      have e2 := HRI.out.up k e he
      have e3 := HRI.out.tm k e he
      have hc : ∀ j x, e.cells[j]? = some x → (w.drewN nq).cell? ⟨b, o + (k * 5 + j), none⟩ = some x := fun j x hj => by
        rw [World.cell?_drewN]; exact HR.out _ x (flatE_at news k e he j x hj)
      have d0 : (w.drewN nq).cell? ⟨b, o + k * 5, none⟩ = some (.int .i64 e.index) := by have := hc 0 _ rfl; simpa using this
      have d1 : (w.drewN nq).cell? ⟨b, o + k * 5 + 1, none⟩ = some (.int .i64 e.term) := by have := hc 1 _ rfl; rwa [← Nat.add_assoc] at this
      rw [World.cell?_drewN] at d0 d1
      rw [e1] at d0
      clear e1
      have e4 : IntKind.i64.wrap (idx + es.length + k + 1 - 1) = idx + es.length + k := by rw [show idx + (es.length : Int) + k + 1 - 1 = idx + es.length + k by omega]; exact IntWalk.i64_in _ (by omega)
      have e5 : (idx + (es.length : Int) + k != idx + es.length + k) = false := by simp
      clear hc
      go_wp2
      go_quiet (fail)
      go_wp2
      go_roundw
      case rel => exact ⟨k + 1, by omega, by go_num, int_eq (by omega), by rw [e3], Qt.drewN _ _⟩
      case measure => simp [intOf]; omega
    · obtain rfl : k = n := by omega
      have L := H.out.drewN nq
      have l2 := L.blk.cell 2
      have f2 := L.blk.free 2
      simp at l2
      have hcell : Rd (w.drewN nq) (some ⟨b, o, none⟩) (flatE news) := Rd.row HR.out
      obtain ⟨A0, c0, rfl, hc0⟩ := own_form L.own
      have hr0 : Rd (w.drewN nq) A0 (flatE es) := Rd.of_own L.own
      obtain ⟨i0', hi0, hz0, hz1, hz2⟩ := info_parts entInfo
      have hsz := L.blk.lt
      go_wp2_with (first
        | (at_builtin
           refine wpList_app rfl (.const (.slice none 0 0)) (.tmp 49) 41 rfl (w.drewN nq).heap.size 53 i0' _ 5 56 Try.underlying41 hi0 hz0 hz1 hz2 rfl (by omega) (.slice none 0 0) 0 [] rfl (World.ownsRow_nil _ _ _ _) A0 es.length c0 (flatE es) rfl hr0 (by rw [flatE_len]) HE.out (by unfold maxLen; omega) (by omega) (Nat.le_refl _) ?_
           intro v1 w3 hown1 hg1 hb1 hat1
           have hcell3 := hcell.below hb1)
        | (at_builtin
           refine wpList_app rfl (.tmp 50) (.tmp 51) 41 rfl (w.drewN nq).heap.size 53 i0' _ 5 56 Try.underlying41 hi0 hz0 hz1 hz2 rfl (by omega) v1 _ _ rfl hown1 (some ⟨b, o, none⟩) _ c (flatE news) rfl hcell3 (by rw [flatE_len]; have := HN.out; omega) HW.out (by unfold maxLen; omega) (by omega) hb1.size ?_
           intro v2 w4 hown2 hg2 hb2 hat2
           have B4 := hb1.trans hb2
           have G4 := L.blk.below B4
           have g4 := G4.free 2
           have g4c := G4.cell 2
           simp at g4c
           obtain ⟨A2, c2, rfl, hc2⟩ := own_form hown2))
      all_goals
        go_ret
        have h2 := G4.set_ 2 (.slice A2 (es.length + k) c2)
        have hlow := H.out.low
        rw [show 0 + es.length + k = es.length + k by omega] at hown2 hat2
        have hownb : w4.ownsRow base _ 5 _ _ _ := own_mono hown2 (by simp at hsz; simp; omega)
        refine ⟨rfl, _, ⟨h2, hlow, ?_, i0, i1, by rw [List.length_append, HN.out]; omega⟩, ?_, ?_, ?_⟩
        · rw [List.length_append, HN.out, show flatE (es ++ news) = [] ++ flatE es ++ flatE news by simp [flatE]]
          exact own_set G4 hownb (by decide) _
        · exact Below.setCell (below_of B4 ((Qt.drewN w nq).below base) (by simp at hsz; simp; omega)) hlow _
        · exact Frm.setCell (((Frm.refl _ w).drewN nq).step B4) (fun _ => .inl rfl) _
        · intro k hk
          rcases hat2 with h | h
          · rw [h] at hk
            rcases hat1 with h' | h'
            · rw [h'] at hk; cases hk
            · rw [h'] at hk; injection hk with hk; simp at hk; right; omega
          · rw [h] at hk; injection hk with hk; have := hb1.size; simp at this; right; omega
end Go.Proofs.Ytdhohaeopfgbmaa
