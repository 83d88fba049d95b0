/-
  An entry's commands cloned; an entry copied; a log whose entries have commands of their own. Conditions: rows of no more than a hundred thousand.
-/
import Derived.Test.YtdhohaeopfgbmaaHsP
import Derived.Test.YtdhohaeopfgbmaaOne
namespace Go.Proofs.Ytdhohaeopfgbmaa
open Go Go.RowKit
attribute [local go_sem] cell_set_if

set_option maxRecDepth 100000 in
theorem clonecm_any (A : Option Addr) (n c : Nat) (xs : List Cm) (w : World) (hr : Rd w A (flatCm xs)) (hn : xs.length = n) (hm : n ≤ 100000) :
    Calls Try.prog 81 #[.slice A n c] w fun e w' => ∃ B d, e = .returned (.slice B n d) ∧ w'.ownsRow w.heap.size 96 5 (.slice B n d) n (flatCm xs) ∧ Below w.heap.size w w' := by
  have hx : (flatCm xs).length = n * 5 := by rw [flatCm_len, hn]
  have h1 := flatCm_one xs
  cases A with
  | none =>
    have hx0 : xs = [] := by
      cases xs with
      | nil => rfl
      | cons b l => obtain ⟨ad, e, _⟩ := hr 0 (.int .i64 b.kind) (by simp [flatCm, Cm.cells]); cases e
    subst hx0
    obtain rfl : n = 0 := hn.symm
    have he := Lib.run_eql_slice_nil_nil (P := Try.prog) w 0 c Try.underlying49
    clear hr hx h1
    go_enter Try.func81, Try.ntmps81
    go_wp2
    go_ret
    exact ⟨none, 0, rfl, World.ownsRow_nil _ _ _ _, Below.refl _ _⟩
  | some ad =>
    have he := Lib.run_eql_slice_some_nil (P := Try.prog) w ad n c Try.underlying49
    obtain ⟨i0', hi0, hz0, hz1, hz2⟩ := info_parts cmInfo
    have HX := Lib.hid hx
    have H1 := Lib.hid h1
    have HR := Lib.hid hr
    clear hx h1 hr hn
    go_enter Try.func81, Try.ntmps81
    go_wp2_with (at_builtin
                 refine wpList_app rfl (.tmp 5) (.tmp 6) 49 rfl w.heap.size 96 i0' _ 5 72 Try.underlying49 hi0 hz0 hz1 hz2 rfl (by omega) (.slice (some ⟨w.heap.size, 0, none⟩) 0 0) 0 [] rfl (own_empty _ _ _) (some ad) n c (flatCm xs) rfl (HR.out.alloc _) HX.out H1.out (by unfold maxLen; omega) (by omega) (by simp) ?_
                 intro v2 w2 hown2 hg2 hb2 hat2
                 rw [Nat.zero_add, List.nil_append] at hown2
                 obtain ⟨A1, c1, rfl, hc1⟩ := own_form hown2)
    go_ret
    exact ⟨A1, c1, rfl, hown2, ((Below.refl _ _).alloc (Nat.le_refl _) _).trans hb2⟩
/-- An entry as a value, with this row of commands. -/
abbrev enV (x : En) (B : Option Addr) (d : Nat) : Value := .agg #[.int .i64 x.index, .int .i64 x.term, .int .i64 x.client, .int .i64 x.seq, .slice B x.n d]
set_option maxRecDepth 100000 in
theorem copiedEn_any (x : En) (w : World) (h : x.has w) : Calls Try.prog 38 #[enV x x.A x.c] w fun e w' => ∃ B d, e = .returned (enV x B d) ∧ w'.ownsRow w.heap.size 96 5 (.slice B x.n d) x.n (flatCm x.cmds) ∧ Below w.heap.size w w' := by
  have ba : Below w.heap.size w ((w.alloc (.cells #[.int .i64 x.index, .int .i64 x.term, .int .i64 x.client, .int .i64 x.seq, .slice x.A x.n x.c] 53)).alloc (.cells #[.int .i64 0, .int .i64 0, .int .i64 0, .int .i64 0, .slice none 0 0] 53)) := ((Below.refl _ _).alloc (Nat.le_refl _) _).alloc (by simp) _
  have K := (Blk.new w 53 #[.int .i64 x.index, .int .i64 x.term, .int .i64 x.client, .int .i64 x.seq, .slice x.A x.n x.c]).alloc (.cells #[.int .i64 0, .int .i64 0, .int .i64 0, .int .i64 0, .slice none 0 0] 53)
  have K2 : Blk ((w.alloc (.cells #[.int .i64 x.index, .int .i64 x.term, .int .i64 x.client, .int .i64 x.seq, .slice x.A x.n x.c] 53)).alloc (.cells #[.int .i64 0, .int .i64 0, .int .i64 0, .int .i64 0, .slice none 0 0] 53)) (w.heap.size + 1) 53 #[.int .i64 0, .int .i64 0, .int .i64 0, .int .i64 0, .slice none 0 0] := by
    have := Blk.new (w.alloc (.cells #[.int .i64 x.index, .int .i64 x.term, .int .i64 x.client, .int .i64 x.seq, .slice x.A x.n x.c] 53)) 53 #[.int .i64 0, .int .i64 0, .int .i64 0, .int .i64 0, .slice none 0 0]
    simpa using this
  have HC := Lib.hid (clonecm_any x.A x.n x.c x.cmds _ (h.1.below ba) h.2.1 h.2.2)
  clear h
  go_enter Try.func38, Try.ntmps38
  go_upto_region 1 with fail
  have HBA := Lib.hid ba
  obtain ⟨g1, hg1⟩ : ∃ g1, g1 = w.heap.size := ⟨_, rfl⟩
  obtain ⟨g2, hg2⟩ : ∃ g2, g2 = w.heap.size + 1 := ⟨_, rfl⟩
  rw [← hg1] at K
  rw [← hg2] at K2
  rw [← hg2, ← hg1]
  have hlt1 : w.heap.size ≤ g1 := by omega
  have hlt2 : w.heap.size ≤ g2 := by omega
  have hne : g1 ≠ g2 := by omega
  generalize (w.alloc (.cells #[.int .i64 x.index, .int .i64 x.term, .int .i64 x.client, .int .i64 x.seq, .slice x.A x.n x.c] 53)).alloc (.cells #[.int .i64 0, .int .i64 0, .int .i64 0, .int .i64 0, .slice none 0 0] 53) = W at K K2 HC HBA ba ⊢
  have HG1 := Lib.hid hg1
  have HG2 := Lib.hid hg2
  have k4 := K.cell 4
  simp at k4
  clear hg1 hg2 ba
  go_upto_region 2 with (go_at_call 81; with_reducible refine HC.out.mono ?_; rintro e w1 ⟨B, d, rfl, ho, b1⟩; have f4 := (K.below b1).free 4; have c4 := (K.below b1).cell 4; simp at c4)
  have K4 : Blk (w1.setCell ⟨g1, 4, none⟩ (.slice B x.n d)) g1 53 #[.int .i64 x.index, .int .i64 x.term, .int .i64 x.client, .int .i64 x.seq, .slice B x.n d] := (K.below b1).set_ 4 _
  have K5 : Blk (w1.setCell ⟨g1, 4, none⟩ (.slice B x.n d)) g2 53 #[.int .i64 0, .int .i64 0, .int .i64 0, .int .i64 0, .slice none 0 0] := (K2.below b1).far hne.symm _
  have o4 := own_set (K.below b1) ho (i := 4) (by decide) (.slice B x.n d)
  have b4 := (HBA.out.trans (b1.mono HBA.out.size)).setCell (p := ⟨g1, 4, none⟩) hlt1 (.slice B x.n d)
  generalize w1.setCell ⟨g1, 4, none⟩ (.slice B x.n d) = W4 at K4 K5 o4 b4 ⊢
  have d0 := K4.cell 0
  have d1 := K4.cell 1
  have d2 := K4.cell 2
  have d3 := K4.cell 3
  have d4 := K4.cell 4
  have f0 := K5.free 0
  have f1 := K5.free 1
  have f2 := K5.free 2
  have f3 := K5.free 3
  have f4' := K5.free 4
  have e0 := K5.cell 0
  have e1 := K5.cell 1
  have e2 := K5.cell 2
  have e3 := K5.cell 3
  have e4 := K5.cell 4
  simp at d0 d1 d2 d3 d4
  go_wp2
  have K6 : Blk (((((W4.setCell ⟨g2, 0, none⟩ (.int .i64 x.index)).setCell ⟨g2, 1, none⟩ (.int .i64 x.term)).setCell ⟨g2, 2, none⟩ (.int .i64 x.client)).setCell ⟨g2, 3, none⟩ (.int .i64 x.seq)).setCell ⟨g2, 4, none⟩ (.slice B x.n d)) g2 53 #[.int .i64 x.index, .int .i64 x.term, .int .i64 x.client, .int .i64 x.seq, .slice B x.n d] := ((((K5.set_ 0 _).set_ 1 _).set_ 2 _).set_ 3 _).set_ 4 _
  have o6 := own_set ((((K5.set_ 0 (.int .i64 x.index)).set_ 1 (.int .i64 x.term)).set_ 2 (.int .i64 x.client)).set_ 3 (.int .i64 x.seq)) (own_set (((K5.set_ 0 (.int .i64 x.index)).set_ 1 (.int .i64 x.term)).set_ 2 (.int .i64 x.client)) (own_set ((K5.set_ 0 (.int .i64 x.index)).set_ 1 (.int .i64 x.term)) (own_set (K5.set_ 0 (.int .i64 x.index)) (own_set K5 o4 (i := 0) (by decide) (.int .i64 x.index)) (i := 1) (by decide) (.int .i64 x.term)) (i := 2) (by decide) (.int .i64 x.client)) (i := 3) (by decide) (.int .i64 x.seq)) (i := 4) (by decide) (.slice B x.n d)
  have b6 := ((((b4.setCell (p := ⟨g2, 0, none⟩) hlt2 (.int .i64 x.index)).setCell (p := ⟨g2, 1, none⟩) hlt2 (.int .i64 x.term)).setCell (p := ⟨g2, 2, none⟩) hlt2 (.int .i64 x.client)).setCell (p := ⟨g2, 3, none⟩) hlt2 (.int .i64 x.seq)).setCell (p := ⟨g2, 4, none⟩) hlt2 (.slice B x.n d)
  generalize ((((W4.setCell ⟨g2, 0, none⟩ (.int .i64 x.index)).setCell ⟨g2, 1, none⟩ (.int .i64 x.term)).setCell ⟨g2, 2, none⟩ (.int .i64 x.client)).setCell ⟨g2, 3, none⟩ (.int .i64 x.seq)).setCell ⟨g2, 4, none⟩ (.slice B x.n d) = W6 at K6 o6 b6 ⊢
  clear d0 d1 d2 d3 d4 f0 f1 f2 f3 f4' e0 e1 e2 e3 e4
  have y0 := K6.cell 0
  have y1 := K6.cell 1
  have y2 := K6.cell 2
  have y3 := K6.cell 3
  have y4 := K6.cell 4
  simp at y0 y1 y2 y3 y4
  refine bodyPost_ret (v := enV x B d) (by simp only [results, show Try.f38.results = #[.cell 2 53] from rfl]; go_simp) rfl ⟨B, d, rfl, own_base o6 HBA.out.size, b6⟩
/-- A log whose entries have commands of their own. -/
structure LogM (w : World) (base g : Nat) (idx trm : Int) (es : List En) (v : Value) : Prop where
  L : LogAt w base g idx trm (ents es) v
  mi : ∀ x ∈ es, x.mine w base
theorem LogM.below {w w' : World} {base g : Nat} {idx trm : Int} {es : List En} {v : Value} (h : LogM w base g idx trm es v) (b : Below w.heap.size w w') : LogM w' base g idx trm es v := ⟨h.L.below b, fun x hx => (h.mi x hx).below b⟩
theorem LogM.qt {w w' : World} {base g : Nat} {idx trm : Int} {es : List En} {v : Value} (h : LogM w base g idx trm es v) (q : Qt w w') : LogM w' base g idx trm es v := h.below (q.below _)
/-- What a log's turning touches is no commands. -/
theorem LogM.ty {w : World} {base g : Nat} {idx trm : Int} {es : List En} {v : Value} (h : LogM w base g idx trm es v) : TyS w (mine g v) [70, 53] := TyS.two h.L.blk h.L.own
theorem LogT.ty {T : TypeId} {w : World} {base g : Nat} {idx trm : Int} {es : List Ent} {v : Value} (h : LogT T w base g idx trm es v) : TyS w (mine g v) [T, 53] := TyS.two h.blk h.own
end Go.Proofs.Ytdhohaeopfgbmaa
