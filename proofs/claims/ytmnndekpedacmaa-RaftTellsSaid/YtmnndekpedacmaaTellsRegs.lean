/-
  UNDER WAY: regions 17 and 18 of RaftTells as a whole.
-/
import Derived.Test.YtmnndekpedacmaaTellsInv
namespace Go.Proofs.Ytmnndekpedacmaa
open Go Go.RowKit
attribute [local go_sem] cell_set_if

theorem early17 : (ops17.toArray.toList.zipIdx.all fun p => p.1.after.all fun e => decide (e.on < p.2)) = true := by kernel_rfl
/-- Nothing may come next: all is done. -/
theorem all17 {listed : Array Bool} (hs : listed.size = 14) (hr : Region.ready .any ops17.toArray listed = []) : ∀ j, j < 14 → listed.getD j false = true := by
  intro j
  induction j using Nat.strongRecOn with
  | _ j ih =>
    intro hj
    cases hl : listed.getD j false
    · exfalso
      have hsz : ops17.toArray.size = 14 := by rw [List.size_toArray]; exact size17
      obtain ⟨oj, hoj⟩ : ∃ oj, ops17.toArray[j]? = some oj := ⟨_, Array.getElem?_eq_getElem (by omega)⟩
      have hm : j ∈ Region.ready .any ops17.toArray listed := by
        refine mem_ready.2 ⟨?_, oj, hoj, fun e he _ => ?_⟩
        · simp only [Array.getD_eq_getD_getElem?, Array.getElem?_eq_getElem (show j < listed.size by omega)] at hl ⊢
          simpa using hl
        · have h1 := List.all_eq_true.1 early17 (oj, j) (by
            rw [List.mem_zipIdx_iff_getElem?]
            rw [← Array.getElem?_toList] at hoj
            exact hoj)
          have h2 := Array.all_eq_true'.1 h1 e he
          have h3 : e.on < j := by simpa using h2
          exact ih e.on h3 (by omega)
      rw [hr] at hm
      cases hm
    · rfl
/-- What is known while the region runs. -/
structure Run17 (S : World) (b6 o6 c6 gp gt : Nat) (t f z V1 V2 : Int) (a0 : Act) (listed : Array Bool) (a : Act) (w : World) : Prop where
  al : Alike [133, 134, 135, 136, 137, 138, 139, 140, 141, 142, 27, 28] a0 a
  bel : Below S.heap.size S w
  did : ∀ j, j < 14 → listed.getD j false = true → Did17 S b6 o6 c6 gp gt t f z V1 V2 a w j
  c12 : listed.getD 12 false = true → listed.getD 10 false = true
  c13 : listed.getD 13 false = true → listed.getD 11 false = true
theorem Run17.next {S : World} {b6 o6 c6 gp gt : Nat} {t f z V1 V2 : Int} {a0 a : Act} {listed : Array Bool} {w w' : World} (h : Run17 S b6 o6 c6 gp gt t f z V1 V2 a0 listed a w) (hs : listed.size = 14) {i d : Nat} {v : Value} (hi : i < 12) (hd : (i, d) ∈ [(0, 133), (1, 134), (2, 135), (3, 136), (4, 137), (5, 138), (6, 139), (7, 140), (8, 141), (9, 142), (10, 27), (11, 28)]) (hn : listed.getD i true = false) (hb : Below w.heap.size w w') (hB : Below S.heap.size S w')
    (hnew : Did17 S b6 o6 c6 gp gt t f z V1 V2 (a.put (some d) v) w' i) : Run17 S b6 o6 c6 gp gt t f z V1 V2 a0 (listed.setIfInBounds i true) (a.put (some d) v) w' := by
  have hdD : d ∈ [133, 134, 135, 136, 137, 138, 139, 140, 141, 142, 27, 28] := by
    simp only [List.mem_cons, Prod.mk.injEq, List.mem_nil_iff, or_false] at hd ⊢
    omega
  have hget : ∀ j, j ≠ i → (listed.setIfInBounds i true).getD j false = listed.getD j false := fun j hj => by
    simp only [Array.getD_eq_getD_getElem?]
    rw [Array.getElem?_setIfInBounds_ne (Ne.symm hj)]
  have hset : (listed.setIfInBounds i true).getD i false = true := by
    simp only [Array.getD_eq_getD_getElem?]
    rw [Array.getElem?_setIfInBounds_self_of_lt (by omega)]; rfl
  have hnf : listed.getD i false = false := by
    simp only [Array.getD_eq_getD_getElem?, Array.getElem?_eq_getElem (show i < listed.size by omega)] at hn ⊢
    simpa using hn
  refine ⟨h.al.put hdD v, hB, fun j hj hl => ?_, fun hl => ?_, fun hl => ?_⟩
  · by_cases hji : j = i
    · subst hji; exact hnew
    · rw [hget j hji] at hl
      refine (h.did j hj hl).keep hb (fun hm => ?_)
      have h12 := h.c12
      have h13 := h.c13
      simp only [List.mem_cons, Prod.mk.injEq, List.mem_nil_iff, or_false] at hd hm
      by_cases e12 : j = 12
      · subst e12
        have := h12 hl
        have hi10 : i = 10 := by omega
        subst hi10
        rw [hnf] at this; cases this
      · by_cases e13 : j = 13
        · subst e13
          have := h13 hl
          have hi11 : i = 11 := by omega
          subst hi11
          rw [hnf] at this; cases this
        · omega
  · rw [hget 12 (by omega)] at hl
    by_cases e : i = 10
    · subst e; exact hset
    · rw [hget 10 (by omega)]; exact h.c12 hl
  · rw [hget 13 (by omega)] at hl
    by_cases e : i = 11
    · subst e; exact hset
    · rw [hget 11 (by omega)]; exact h.c13 hl
theorem Run17.stored12 {S : World} {b6 o6 c6 gp gt : Nat} {t f z V1 V2 : Int} {a0 a : Act} {listed : Array Bool} {w : World} (h : Run17 S b6 o6 c6 gp gt t f z V1 V2 a0 listed a w) (hs : listed.size = 14) {x : Nat} {c e : Value} (h1 : S.heap.size ≤ x) (h2 : slot a 27 = .pointer (some ⟨x, 0, none⟩)) (h3 : Blk w x 38 #[c, e]) (hl10 : listed.getD 10 false = true) :
    Run17 S b6 o6 c6 gp gt t f z V1 V2 a0 (listed.setIfInBounds 12 true) a ((w.setCell ⟨x, 0, none⟩ (.int .i64 V1)).setCell ⟨x, 1, none⟩ (.int .i64 V2)) := by
  have hget : ∀ j, j ≠ 12 → (listed.setIfInBounds 12 true).getD j false = listed.getD j false := fun j hj => by
    simp only [Array.getD_eq_getD_getElem?]
    rw [Array.getElem?_setIfInBounds_ne (Ne.symm hj)]
  have hfar : ∀ (g : Nat) (T : TypeId) (cs : Array Value), Blk w g T cs → g ≠ x → Blk ((w.setCell ⟨x, 0, none⟩ (.int .i64 V1)).setCell ⟨x, 1, none⟩ (.int .i64 V2)) g T cs := fun g T cs hB hne => (hB.far (p := ⟨x, 0, none⟩) hne _).far (p := ⟨x, 1, none⟩) hne _
  have hme : Blk ((w.setCell ⟨x, 0, none⟩ (.int .i64 V1)).setCell ⟨x, 1, none⟩ (.int .i64 V2)) x 38 #[.int .i64 V1, .int .i64 V2] := by
    have := (h3.set_ 0 (.int .i64 V1)).set_ 1 (.int .i64 V2)
    simpa using this
  refine ⟨h.al, (h.bel.setCell h1 _).setCell h1 _, fun j hj hl => ?_, fun hl => ?_, fun hl => ?_⟩
  · by_cases hji : j = 12
    · subst hji; exact ⟨x, h2, hme⟩
    · rw [hget j hji] at hl
      have hd := h.did j hj hl
      by_cases e10 : j = 10
      · subst e10; exact ⟨x, _, _, h1, h2, hme⟩
      · by_cases e11 : j = 11
        · subst e11
          obtain ⟨y, c', e', g1, g2, g3⟩ := hd
          exact ⟨y, c', e', g1, g2, hfar y _ _ g3 (Blk.ne_ g3 h3 (by decide))⟩
        · by_cases e13 : j = 13
          · subst e13
            obtain ⟨y, g2, g3⟩ := hd
            exact ⟨y, g2, hfar y _ _ g3 (Blk.ne_ g3 h3 (by decide))⟩
          · match j, hd with
            | 0, hd => exact hd
            | 1, hd => exact hd
            | 2, hd => exact hd
            | 3, hd => exact hd
            | 4, hd => exact hd
            | 5, hd => exact hd
            | 6, hd => exact hd
            | 7, hd => exact hd
            | 8, hd => exact hd
            | 9, hd => exact hd
            | 10, hd => exact absurd rfl (by first | exact e10 | exact e11)
            | 11, hd => exact absurd rfl (by first | exact e10 | exact e11)
            | 12, hd => exact absurd rfl (by first | exact hji | exact e13)
            | 13, hd => exact absurd rfl (by first | exact hji | exact e13)
            | n + 14, hd => exact trivial
  · rw [hget 10 (by omega)]
    exact hl10
  · rw [hget 11 (by omega)]
    rw [hget 13 (by omega)] at hl; exact h.c13 hl
theorem Run17.stored13 {S : World} {b6 o6 c6 gp gt : Nat} {t f z V1 V2 : Int} {a0 a : Act} {listed : Array Bool} {w : World} (h : Run17 S b6 o6 c6 gp gt t f z V1 V2 a0 listed a w) (hs : listed.size = 14) {x : Nat} {c e : Value} (h1 : S.heap.size ≤ x) (h2 : slot a 28 = .pointer (some ⟨x, 0, none⟩)) (h3 : Blk w x 42 #[c, e]) (hl11 : listed.getD 11 false = true) :
    Run17 S b6 o6 c6 gp gt t f z V1 V2 a0 (listed.setIfInBounds 13 true) a ((w.setCell ⟨x, 0, none⟩ (.int .i64 V1)).setCell ⟨x, 1, none⟩ (.int .i64 V2)) := by
  have hget : ∀ j, j ≠ 13 → (listed.setIfInBounds 13 true).getD j false = listed.getD j false := fun j hj => by
    simp only [Array.getD_eq_getD_getElem?]
    rw [Array.getElem?_setIfInBounds_ne (Ne.symm hj)]
  have hfar : ∀ (g : Nat) (T : TypeId) (cs : Array Value), Blk w g T cs → g ≠ x → Blk ((w.setCell ⟨x, 0, none⟩ (.int .i64 V1)).setCell ⟨x, 1, none⟩ (.int .i64 V2)) g T cs := fun g T cs hB hne => (hB.far (p := ⟨x, 0, none⟩) hne _).far (p := ⟨x, 1, none⟩) hne _
  have hme : Blk ((w.setCell ⟨x, 0, none⟩ (.int .i64 V1)).setCell ⟨x, 1, none⟩ (.int .i64 V2)) x 42 #[.int .i64 V1, .int .i64 V2] := by
    have := (h3.set_ 0 (.int .i64 V1)).set_ 1 (.int .i64 V2)
    simpa using this
  refine ⟨h.al, (h.bel.setCell h1 _).setCell h1 _, fun j hj hl => ?_, fun hl => ?_, fun hl => ?_⟩
  · by_cases hji : j = 13
    · subst hji; exact ⟨x, h2, hme⟩
    · rw [hget j hji] at hl
      have hd := h.did j hj hl
      by_cases e10 : j = 11
      · subst e10; exact ⟨x, _, _, h1, h2, hme⟩
      · by_cases e11 : j = 10
        · subst e11
          obtain ⟨y, c', e', g1, g2, g3⟩ := hd
          exact ⟨y, c', e', g1, g2, hfar y _ _ g3 (Blk.ne_ g3 h3 (by decide))⟩
        · by_cases e13 : j = 12
          · subst e13
            obtain ⟨y, g2, g3⟩ := hd
            exact ⟨y, g2, hfar y _ _ g3 (Blk.ne_ g3 h3 (by decide))⟩
          · match j, hd with
            | 0, hd => exact hd
            | 1, hd => exact hd
            | 2, hd => exact hd
            | 3, hd => exact hd
            | 4, hd => exact hd
            | 5, hd => exact hd
            | 6, hd => exact hd
            | 7, hd => exact hd
            | 8, hd => exact hd
            | 9, hd => exact hd
            | 10, hd => exact absurd rfl (by first | exact e10 | exact e11)
            | 11, hd => exact absurd rfl (by first | exact e10 | exact e11)
            | 12, hd => exact absurd rfl (by first | exact hji | exact e13)
            | 13, hd => exact absurd rfl (by first | exact hji | exact e13)
            | n + 14, hd => exact trivial
  · rw [hget 10 (by omega)]
    rw [hget 12 (by omega)] at hl; exact h.c12 hl
  · rw [hget 11 (by omega)]
    exact hl11
set_option maxHeartbeats 2000000 in
theorem region17 (S : World) (b6 o6 c6 gp gt : Nat) (t f z V1 V2 : Int) (a0 : Act) (Q : Exit → Act → World → Prop) (hsz : ∀ d ∈ [133, 134, 135, 136, 137, 138, 139, 140, 141, 142, 27, 28], d < a0.tmps.size)
    (p8 : slot a0 8 = .pointer (some ⟨gt, 0, none⟩)) (p20 : slot a0 20 = .pointer (some ⟨gp, 0, none⟩)) (p6 : slot a0 6 = .slice (some ⟨b6, o6, none⟩) 5 c6) (cz : S.cell? ⟨b6, o6 + 0, none⟩ = some (.int .i64 z))
    (t0 : S.cell? ⟨gt, 0, none⟩ = some (.int .i64 t)) (t1 : S.cell? ⟨gt, 1, none⟩ = some (.int .i64 f)) (s0 : S.cell? ⟨gp, 0, none⟩ = some (.int .i64 t)) (s1 : S.cell? ⟨gp, 1, none⟩ = some (.int .i64 f))
    (C1 : ∀ W, Calls Try.prog 18 #[bal t f, .int .i64 z] W fun e w' => e = .returned (bal V1 V2) ∧ Below W.heap.size W w') (C2 : ∀ W, Calls Try.prog 19 #[bal t f, .int .i64 z] W fun e w' => e = .returned (bal V1 V2) ∧ Below W.heap.size W w')
    (hQ : ∀ a w, Alike [133, 134, 135, 136, 137, 138, 139, 140, 141, 142, 27, 28] a0 a → Below S.heap.size S w → (∀ j, j < 14 → Did17 S b6 o6 c6 gp gt t f z V1 V2 a w j) → Q .normal a w) : (Code.region 17 ops17.toArray true).wp Try.prog Q a0 S := by
  refine wp_region_inv (l := ops17) (by kernel_rfl) (Run17 S b6 o6 c6 gp gt t f z V1 V2 a0) ?_ ?_ ?_
  · refine ⟨Alike.refl _ _, (Below.refl _ _).drew, fun j hj hl => ?_, fun hl => ?_, fun hl => ?_⟩
    all_goals
      rw [getD_replicate_false] at hl
      cases hl
  · intro listed a w i hs hR hi
    rw [size17] at hs
    have hlt := ready_lt hi
    have hn := hlt.2
    have h14 : i < 14 := by have := hlt.1; rwa [List.size_toArray, size17] at this
    have hw := fun j (h : Region.waitsFor .any ops17.toArray i j = true) => ready_waits hi h
    have hsz' : ∀ d ∈ [133, 134, 135, 136, 137, 138, 139, 140, 141, 142, 27, 28], d < a.tmps.size := fun d hd => by rw [hR.al.size]; exact hsz d hd
    have e8 : slot a 8 = .pointer (some ⟨gt, 0, none⟩) := (hR.al.slot (by decide)).trans p8
    have e20 : slot a 20 = .pointer (some ⟨gp, 0, none⟩) := (hR.al.slot (by decide)).trans p20
    have e6 : slot a 6 = .slice (some ⟨b6, o6, none⟩) 5 c6 := (hR.al.slot (by decide)).trans p6
    have hc : i = 0 ∨ i = 1 ∨ i = 2 ∨ i = 3 ∨ i = 4 ∨ i = 5 ∨ i = 6 ∨ i = 7 ∨ i = 8 ∨ i = 9 ∨ i = 10 ∨ i = 11 ∨ i = 12 ∨ i = 13 := by omega
    rcases hc with rfl | rfl | rfl | rfl | rfl | rfl | rfl | rfl | rfl | rfl | rfl | rfl | rfl | rfl
    · obtain ⟨o, ho, hd, hop, hg⟩ := oper_parts op17_0
      exact wpOp_go ho hg (step_loadR a w o _ Q 133 8 gt t f hd hop e8 (cell_b hR.bel t0) (cell_b hR.bel t1) (hR.next hs (by omega) (by decide) hn (Below.refl _ _) hR.bel (slot_same (hsz' 133 (by decide)) _)))
    · obtain ⟨o, ho, hd, hop, hg⟩ := oper_parts op17_1
      exact wpOp_go ho hg (step_move a w o _ Q 134 6 _ hd hop e6 (hR.next hs (by omega) (by decide) hn (Below.refl _ _) hR.bel (slot_same (hsz' 134 (by decide)) _)))
    · obtain ⟨o, ho, hd, hop, hg⟩ := oper_parts op17_2
      exact wpOp_go ho hg (step_index a w o _ Q 135 134 b6 o6 c6 0 (by decide) hd hop (hR.did 1 (by omega) (hw 1 w17_2_1)) (hR.next hs (by omega) (by decide) hn (Below.refl _ _) hR.bel (slot_same (hsz' 135 (by decide)) _)))
    · obtain ⟨o, ho, hd, hop, hg⟩ := oper_parts op17_3
      exact wpOp_go ho hg (step_loadI a w o _ Q 136 135 ⟨b6, o6 + 0, none⟩ z hd hop (hR.did 2 (by omega) (hw 2 w17_3_2)) (cell_b hR.bel cz) (hR.next hs (by omega) (by decide) hn (Below.refl _ _) hR.bel (slot_same (hsz' 136 (by decide)) _)))
    · obtain ⟨o, ho, hd, hop, hg⟩ := oper_parts op17_4
      exact wpOp_go ho hg (step_call a w o _ Q 137 18 133 136 _ (bal t f) (.int .i64 z) (bal V1 V2) hd hop (hR.did 0 (by omega) (hw 0 w17_4_0)) (hR.did 3 (by omega) (hw 3 w17_4_3)) (C1 w) (by kernel_rfl) (fun w' hb => hR.next hs (by omega) (by decide) hn hb (below_of hb hR.bel hR.bel.size) (slot_same (hsz' 137 (by decide)) _)))
    · obtain ⟨o, ho, hd, hop, hg⟩ := oper_parts op17_5
      exact wpOp_go ho hg (step_loadF a w o _ Q 138 20 gp t f hd hop e20 (cell_b hR.bel s0) (cell_b hR.bel s1) (hR.next hs (by omega) (by decide) hn (Below.refl _ _) hR.bel (slot_same (hsz' 138 (by decide)) _)))
    · obtain ⟨o, ho, hd, hop, hg⟩ := oper_parts op17_6
      exact wpOp_go ho hg (step_move a w o _ Q 139 6 _ hd hop e6 (hR.next hs (by omega) (by decide) hn (Below.refl _ _) hR.bel (slot_same (hsz' 139 (by decide)) _)))
    · obtain ⟨o, ho, hd, hop, hg⟩ := oper_parts op17_7
      exact wpOp_go ho hg (step_index a w o _ Q 140 139 b6 o6 c6 0 (by decide) hd hop (hR.did 6 (by omega) (hw 6 w17_7_6)) (hR.next hs (by omega) (by decide) hn (Below.refl _ _) hR.bel (slot_same (hsz' 140 (by decide)) _)))
    · obtain ⟨o, ho, hd, hop, hg⟩ := oper_parts op17_8
      exact wpOp_go ho hg (step_loadI a w o _ Q 141 140 ⟨b6, o6 + 0, none⟩ z hd hop (hR.did 7 (by omega) (hw 7 w17_8_7)) (cell_b hR.bel cz) (hR.next hs (by omega) (by decide) hn (Below.refl _ _) hR.bel (slot_same (hsz' 141 (by decide)) _)))
    · obtain ⟨o, ho, hd, hop, hg⟩ := oper_parts op17_9
      exact wpOp_go ho hg (step_call a w o _ Q 142 19 138 141 _ (bal t f) (.int .i64 z) (bal V1 V2) hd hop (hR.did 5 (by omega) (hw 5 w17_9_5)) (hR.did 8 (by omega) (hw 8 w17_9_8)) (C2 w) (by kernel_rfl) (fun w' hb => hR.next hs (by omega) (by decide) hn hb (below_of hb hR.bel hR.bel.size) (slot_same (hsz' 142 (by decide)) _)))
    · obtain ⟨o, ho, hd, hop, hg⟩ := oper_parts op17_10
      exact wpOp_go ho hg (step_alloc a w o _ Q 27 hd hop (hR.next hs (by omega) (by decide) hn ((Below.refl _ _).alloc (Nat.le_refl _) _) (hR.bel.alloc hR.bel.size _) ⟨w.heap.size, _, _, hR.bel.size, slot_same (hsz' 27 (by decide)) _, Blk.new _ _ _⟩))
    · obtain ⟨o, ho, hd, hop, hg⟩ := oper_parts op17_11
      exact wpOp_go ho hg (step_allocF a w o _ Q 28 hd hop (hR.next hs (by omega) (by decide) hn ((Below.refl _ _).alloc (Nat.le_refl _) _) (hR.bel.alloc hR.bel.size _) ⟨w.heap.size, _, _, hR.bel.size, slot_same (hsz' 28 (by decide)) _, Blk.new _ _ _⟩))
    · obtain ⟨o, ho, hd, hop, hg⟩ := oper_parts op17_12
      obtain ⟨x, c, e, h1, h2, h3⟩ := hR.did 10 (by omega) (hw 10 w17_12_10)
      exact wpOp_go ho hg (step_store a w o _ Q 27 137 x V1 V2 hd hop h2 (hR.did 4 (by omega) (hw 4 w17_12_4)) h3 (hR.stored12 hs h1 h2 h3 (hw 10 w17_12_10)))
    · obtain ⟨o, ho, hd, hop, hg⟩ := oper_parts op17_13
      obtain ⟨x, c, e, h1, h2, h3⟩ := hR.did 11 (by omega) (hw 11 w17_13_11)
      exact wpOp_go ho hg (step_storeF a w o _ Q 28 142 x V1 V2 hd hop h2 (hR.did 9 (by omega) (hw 9 w17_13_9)) h3 (hR.stored13 hs h1 h2 h3 (hw 11 w17_13_11)))
  · intro listed a w hs hR hr
    rw [size17] at hs
    exact hQ a w hR.al hR.bel (fun j hj => hR.did j hj (all17 hs hr j hj))
theorem early18 : (ops18.toArray.toList.zipIdx.all fun p => p.1.after.all fun e => decide (e.on < p.2)) = true := by kernel_rfl
/-- Nothing may come next: all is done. -/
theorem all18 {listed : Array Bool} (hs : listed.size = 14) (hr : Region.ready .any ops18.toArray listed = []) : ∀ j, j < 14 → listed.getD j false = true := by
  intro j
  induction j using Nat.strongRecOn with
  | _ j ih =>
    intro hj
    cases hl : listed.getD j false
    · exfalso
      have hsz : ops18.toArray.size = 14 := by rw [List.size_toArray]; exact size18
      obtain ⟨oj, hoj⟩ : ∃ oj, ops18.toArray[j]? = some oj := ⟨_, Array.getElem?_eq_getElem (by omega)⟩
      have hm : j ∈ Region.ready .any ops18.toArray listed := by
        refine mem_ready.2 ⟨?_, oj, hoj, fun e he _ => ?_⟩
        · simp only [Array.getD_eq_getD_getElem?, Array.getElem?_eq_getElem (show j < listed.size by omega)] at hl ⊢
          simpa using hl
        · have h1 := List.all_eq_true.1 early18 (oj, j) (by
            rw [List.mem_zipIdx_iff_getElem?]
            rw [← Array.getElem?_toList] at hoj
            exact hoj)
          have h2 := Array.all_eq_true'.1 h1 e he
          have h3 : e.on < j := by simpa using h2
          exact ih e.on h3 (by omega)
      rw [hr] at hm
      cases hm
    · rfl
/-- What is known while the region runs. -/
structure Run18 (S : World) (b6 o6 c6 gp gt : Nat) (t f z V1 V2 : Int) (a0 : Act) (listed : Array Bool) (a : Act) (w : World) : Prop where
  al : Alike [143, 144, 145, 146, 147, 148, 149, 150, 151, 152, 29, 30] a0 a
  bel : Below S.heap.size S w
  did : ∀ j, j < 14 → listed.getD j false = true → Did18 S b6 o6 c6 gp gt t f z V1 V2 a w j
  c12 : listed.getD 12 false = true → listed.getD 10 false = true
  c13 : listed.getD 13 false = true → listed.getD 11 false = true
theorem Run18.next {S : World} {b6 o6 c6 gp gt : Nat} {t f z V1 V2 : Int} {a0 a : Act} {listed : Array Bool} {w w' : World} (h : Run18 S b6 o6 c6 gp gt t f z V1 V2 a0 listed a w) (hs : listed.size = 14) {i d : Nat} {v : Value} (hi : i < 12) (hd : (i, d) ∈ [(0, 143), (1, 144), (2, 145), (3, 146), (4, 147), (5, 148), (6, 149), (7, 150), (8, 151), (9, 152), (10, 29), (11, 30)]) (hn : listed.getD i true = false) (hb : Below w.heap.size w w') (hB : Below S.heap.size S w')
    (hnew : Did18 S b6 o6 c6 gp gt t f z V1 V2 (a.put (some d) v) w' i) : Run18 S b6 o6 c6 gp gt t f z V1 V2 a0 (listed.setIfInBounds i true) (a.put (some d) v) w' := by
  have hdD : d ∈ [143, 144, 145, 146, 147, 148, 149, 150, 151, 152, 29, 30] := by
    simp only [List.mem_cons, Prod.mk.injEq, List.mem_nil_iff, or_false] at hd ⊢
    omega
  have hget : ∀ j, j ≠ i → (listed.setIfInBounds i true).getD j false = listed.getD j false := fun j hj => by
    simp only [Array.getD_eq_getD_getElem?]
    rw [Array.getElem?_setIfInBounds_ne (Ne.symm hj)]
  have hset : (listed.setIfInBounds i true).getD i false = true := by
    simp only [Array.getD_eq_getD_getElem?]
    rw [Array.getElem?_setIfInBounds_self_of_lt (by omega)]; rfl
  have hnf : listed.getD i false = false := by
    simp only [Array.getD_eq_getD_getElem?, Array.getElem?_eq_getElem (show i < listed.size by omega)] at hn ⊢
    simpa using hn
  refine ⟨h.al.put hdD v, hB, fun j hj hl => ?_, fun hl => ?_, fun hl => ?_⟩
  · by_cases hji : j = i
    · subst hji; exact hnew
    · rw [hget j hji] at hl
      refine (h.did j hj hl).keep hb (fun hm => ?_)
      have h12 := h.c12
      have h13 := h.c13
      simp only [List.mem_cons, Prod.mk.injEq, List.mem_nil_iff, or_false] at hd hm
      by_cases e12 : j = 12
      · subst e12
        have := h12 hl
        have hi10 : i = 10 := by omega
        subst hi10
        rw [hnf] at this; cases this
      · by_cases e13 : j = 13
        · subst e13
          have := h13 hl
          have hi11 : i = 11 := by omega
          subst hi11
          rw [hnf] at this; cases this
        · omega
  · rw [hget 12 (by omega)] at hl
    by_cases e : i = 10
    · subst e; exact hset
    · rw [hget 10 (by omega)]; exact h.c12 hl
  · rw [hget 13 (by omega)] at hl
    by_cases e : i = 11
    · subst e; exact hset
    · rw [hget 11 (by omega)]; exact h.c13 hl
theorem Run18.stored12 {S : World} {b6 o6 c6 gp gt : Nat} {t f z V1 V2 : Int} {a0 a : Act} {listed : Array Bool} {w : World} (h : Run18 S b6 o6 c6 gp gt t f z V1 V2 a0 listed a w) (hs : listed.size = 14) {x : Nat} {c e : Value} (h1 : S.heap.size ≤ x) (h2 : slot a 29 = .pointer (some ⟨x, 0, none⟩)) (h3 : Blk w x 38 #[c, e]) (hl10 : listed.getD 10 false = true) :
    Run18 S b6 o6 c6 gp gt t f z V1 V2 a0 (listed.setIfInBounds 12 true) a ((w.setCell ⟨x, 0, none⟩ (.int .i64 V1)).setCell ⟨x, 1, none⟩ (.int .i64 V2)) := by
  have hget : ∀ j, j ≠ 12 → (listed.setIfInBounds 12 true).getD j false = listed.getD j false := fun j hj => by
    simp only [Array.getD_eq_getD_getElem?]
    rw [Array.getElem?_setIfInBounds_ne (Ne.symm hj)]
  have hfar : ∀ (g : Nat) (T : TypeId) (cs : Array Value), Blk w g T cs → g ≠ x → Blk ((w.setCell ⟨x, 0, none⟩ (.int .i64 V1)).setCell ⟨x, 1, none⟩ (.int .i64 V2)) g T cs := fun g T cs hB hne => (hB.far (p := ⟨x, 0, none⟩) hne _).far (p := ⟨x, 1, none⟩) hne _
  have hme : Blk ((w.setCell ⟨x, 0, none⟩ (.int .i64 V1)).setCell ⟨x, 1, none⟩ (.int .i64 V2)) x 38 #[.int .i64 V1, .int .i64 V2] := by
    have := (h3.set_ 0 (.int .i64 V1)).set_ 1 (.int .i64 V2)
    simpa using this
  refine ⟨h.al, (h.bel.setCell h1 _).setCell h1 _, fun j hj hl => ?_, fun hl => ?_, fun hl => ?_⟩
  · by_cases hji : j = 12
    · subst hji; exact ⟨x, h2, hme⟩
    · rw [hget j hji] at hl
      have hd := h.did j hj hl
      by_cases e10 : j = 10
      · subst e10; exact ⟨x, _, _, h1, h2, hme⟩
      · by_cases e11 : j = 11
        · subst e11
          obtain ⟨y, c', e', g1, g2, g3⟩ := hd
          exact ⟨y, c', e', g1, g2, hfar y _ _ g3 (Blk.ne_ g3 h3 (by decide))⟩
        · by_cases e13 : j = 13
          · subst e13
            obtain ⟨y, g2, g3⟩ := hd
            exact ⟨y, g2, hfar y _ _ g3 (Blk.ne_ g3 h3 (by decide))⟩
          · match j, hd with
            | 0, hd => exact hd
            | 1, hd => exact hd
            | 2, hd => exact hd
            | 3, hd => exact hd
            | 4, hd => exact hd
            | 5, hd => exact hd
            | 6, hd => exact hd
            | 7, hd => exact hd
            | 8, hd => exact hd
            | 9, hd => exact hd
            | 10, hd => exact absurd rfl (by first | exact e10 | exact e11)
            | 11, hd => exact absurd rfl (by first | exact e10 | exact e11)
            | 12, hd => exact absurd rfl (by first | exact hji | exact e13)
            | 13, hd => exact absurd rfl (by first | exact hji | exact e13)
            | n + 14, hd => exact trivial
  · rw [hget 10 (by omega)]
    exact hl10
  · rw [hget 11 (by omega)]
    rw [hget 13 (by omega)] at hl; exact h.c13 hl
theorem Run18.stored13 {S : World} {b6 o6 c6 gp gt : Nat} {t f z V1 V2 : Int} {a0 a : Act} {listed : Array Bool} {w : World} (h : Run18 S b6 o6 c6 gp gt t f z V1 V2 a0 listed a w) (hs : listed.size = 14) {x : Nat} {c e : Value} (h1 : S.heap.size ≤ x) (h2 : slot a 30 = .pointer (some ⟨x, 0, none⟩)) (h3 : Blk w x 42 #[c, e]) (hl11 : listed.getD 11 false = true) :
    Run18 S b6 o6 c6 gp gt t f z V1 V2 a0 (listed.setIfInBounds 13 true) a ((w.setCell ⟨x, 0, none⟩ (.int .i64 V1)).setCell ⟨x, 1, none⟩ (.int .i64 V2)) := by
  have hget : ∀ j, j ≠ 13 → (listed.setIfInBounds 13 true).getD j false = listed.getD j false := fun j hj => by
    simp only [Array.getD_eq_getD_getElem?]
    rw [Array.getElem?_setIfInBounds_ne (Ne.symm hj)]
  have hfar : ∀ (g : Nat) (T : TypeId) (cs : Array Value), Blk w g T cs → g ≠ x → Blk ((w.setCell ⟨x, 0, none⟩ (.int .i64 V1)).setCell ⟨x, 1, none⟩ (.int .i64 V2)) g T cs := fun g T cs hB hne => (hB.far (p := ⟨x, 0, none⟩) hne _).far (p := ⟨x, 1, none⟩) hne _
  have hme : Blk ((w.setCell ⟨x, 0, none⟩ (.int .i64 V1)).setCell ⟨x, 1, none⟩ (.int .i64 V2)) x 42 #[.int .i64 V1, .int .i64 V2] := by
    have := (h3.set_ 0 (.int .i64 V1)).set_ 1 (.int .i64 V2)
    simpa using this
  refine ⟨h.al, (h.bel.setCell h1 _).setCell h1 _, fun j hj hl => ?_, fun hl => ?_, fun hl => ?_⟩
  · by_cases hji : j = 13
    · subst hji; exact ⟨x, h2, hme⟩
    · rw [hget j hji] at hl
      have hd := h.did j hj hl
      by_cases e10 : j = 11
      · subst e10; exact ⟨x, _, _, h1, h2, hme⟩
      · by_cases e11 : j = 10
        · subst e11
          obtain ⟨y, c', e', g1, g2, g3⟩ := hd
          exact ⟨y, c', e', g1, g2, hfar y _ _ g3 (Blk.ne_ g3 h3 (by decide))⟩
        · by_cases e13 : j = 12
          · subst e13
            obtain ⟨y, g2, g3⟩ := hd
            exact ⟨y, g2, hfar y _ _ g3 (Blk.ne_ g3 h3 (by decide))⟩
          · match j, hd with
            | 0, hd => exact hd
            | 1, hd => exact hd
            | 2, hd => exact hd
            | 3, hd => exact hd
            | 4, hd => exact hd
            | 5, hd => exact hd
            | 6, hd => exact hd
            | 7, hd => exact hd
            | 8, hd => exact hd
            | 9, hd => exact hd
            | 10, hd => exact absurd rfl (by first | exact e10 | exact e11)
            | 11, hd => exact absurd rfl (by first | exact e10 | exact e11)
            | 12, hd => exact absurd rfl (by first | exact hji | exact e13)
            | 13, hd => exact absurd rfl (by first | exact hji | exact e13)
            | n + 14, hd => exact trivial
  · rw [hget 10 (by omega)]
    rw [hget 12 (by omega)] at hl; exact h.c12 hl
  · rw [hget 11 (by omega)]
    exact hl11
set_option maxHeartbeats 2000000 in
theorem region18 (S : World) (b6 o6 c6 gp gt : Nat) (t f z V1 V2 : Int) (a0 : Act) (Q : Exit → Act → World → Prop) (hsz : ∀ d ∈ [143, 144, 145, 146, 147, 148, 149, 150, 151, 152, 29, 30], d < a0.tmps.size)
    (p8 : slot a0 8 = .pointer (some ⟨gt, 0, none⟩)) (p20 : slot a0 20 = .pointer (some ⟨gp, 0, none⟩)) (p6 : slot a0 6 = .slice (some ⟨b6, o6, none⟩) 5 c6) (cz : S.cell? ⟨b6, o6 + 1, none⟩ = some (.int .i64 z))
    (t0 : S.cell? ⟨gt, 0, none⟩ = some (.int .i64 t)) (t1 : S.cell? ⟨gt, 1, none⟩ = some (.int .i64 f)) (s0 : S.cell? ⟨gp, 0, none⟩ = some (.int .i64 t)) (s1 : S.cell? ⟨gp, 1, none⟩ = some (.int .i64 f))
    (C1 : ∀ W, Calls Try.prog 20 #[bal t f, .int .i64 z] W fun e w' => e = .returned (bal V1 V2) ∧ Below W.heap.size W w') (C2 : ∀ W, Calls Try.prog 21 #[bal t f, .int .i64 z] W fun e w' => e = .returned (bal V1 V2) ∧ Below W.heap.size W w')
    (hQ : ∀ a w, Alike [143, 144, 145, 146, 147, 148, 149, 150, 151, 152, 29, 30] a0 a → Below S.heap.size S w → (∀ j, j < 14 → Did18 S b6 o6 c6 gp gt t f z V1 V2 a w j) → Q .normal a w) : (Code.region 18 ops18.toArray true).wp Try.prog Q a0 S := by
  refine wp_region_inv (l := ops18) (by kernel_rfl) (Run18 S b6 o6 c6 gp gt t f z V1 V2 a0) ?_ ?_ ?_
  · refine ⟨Alike.refl _ _, (Below.refl _ _).drew, fun j hj hl => ?_, fun hl => ?_, fun hl => ?_⟩
    all_goals
      rw [getD_replicate_false] at hl
      cases hl
  · intro listed a w i hs hR hi
    rw [size18] at hs
    have hlt := ready_lt hi
    have hn := hlt.2
    have h14 : i < 14 := by have := hlt.1; rwa [List.size_toArray, size18] at this
    have hw := fun j (h : Region.waitsFor .any ops18.toArray i j = true) => ready_waits hi h
    have hsz' : ∀ d ∈ [143, 144, 145, 146, 147, 148, 149, 150, 151, 152, 29, 30], d < a.tmps.size := fun d hd => by rw [hR.al.size]; exact hsz d hd
    have e8 : slot a 8 = .pointer (some ⟨gt, 0, none⟩) := (hR.al.slot (by decide)).trans p8
    have e20 : slot a 20 = .pointer (some ⟨gp, 0, none⟩) := (hR.al.slot (by decide)).trans p20
    have e6 : slot a 6 = .slice (some ⟨b6, o6, none⟩) 5 c6 := (hR.al.slot (by decide)).trans p6
    have hc : i = 0 ∨ i = 1 ∨ i = 2 ∨ i = 3 ∨ i = 4 ∨ i = 5 ∨ i = 6 ∨ i = 7 ∨ i = 8 ∨ i = 9 ∨ i = 10 ∨ i = 11 ∨ i = 12 ∨ i = 13 := by omega
    rcases hc with rfl | rfl | rfl | rfl | rfl | rfl | rfl | rfl | rfl | rfl | rfl | rfl | rfl | rfl
    · obtain ⟨o, ho, hd, hop, hg⟩ := oper_parts op18_0
      exact wpOp_go ho hg (step_loadR a w o _ Q 143 8 gt t f hd hop e8 (cell_b hR.bel t0) (cell_b hR.bel t1) (hR.next hs (by omega) (by decide) hn (Below.refl _ _) hR.bel (slot_same (hsz' 143 (by decide)) _)))
    · obtain ⟨o, ho, hd, hop, hg⟩ := oper_parts op18_1
      exact wpOp_go ho hg (step_move a w o _ Q 144 6 _ hd hop e6 (hR.next hs (by omega) (by decide) hn (Below.refl _ _) hR.bel (slot_same (hsz' 144 (by decide)) _)))
    · obtain ⟨o, ho, hd, hop, hg⟩ := oper_parts op18_2
      exact wpOp_go ho hg (step_index a w o _ Q 145 144 b6 o6 c6 1 (by decide) hd hop (hR.did 1 (by omega) (hw 1 w18_2_1)) (hR.next hs (by omega) (by decide) hn (Below.refl _ _) hR.bel (slot_same (hsz' 145 (by decide)) _)))
    · obtain ⟨o, ho, hd, hop, hg⟩ := oper_parts op18_3
      exact wpOp_go ho hg (step_loadI a w o _ Q 146 145 ⟨b6, o6 + 1, none⟩ z hd hop (hR.did 2 (by omega) (hw 2 w18_3_2)) (cell_b hR.bel cz) (hR.next hs (by omega) (by decide) hn (Below.refl _ _) hR.bel (slot_same (hsz' 146 (by decide)) _)))
    · obtain ⟨o, ho, hd, hop, hg⟩ := oper_parts op18_4
      exact wpOp_go ho hg (step_call a w o _ Q 147 20 143 146 _ (bal t f) (.int .i64 z) (bal V1 V2) hd hop (hR.did 0 (by omega) (hw 0 w18_4_0)) (hR.did 3 (by omega) (hw 3 w18_4_3)) (C1 w) (by kernel_rfl) (fun w' hb => hR.next hs (by omega) (by decide) hn hb (below_of hb hR.bel hR.bel.size) (slot_same (hsz' 147 (by decide)) _)))
    · obtain ⟨o, ho, hd, hop, hg⟩ := oper_parts op18_5
      exact wpOp_go ho hg (step_loadF a w o _ Q 148 20 gp t f hd hop e20 (cell_b hR.bel s0) (cell_b hR.bel s1) (hR.next hs (by omega) (by decide) hn (Below.refl _ _) hR.bel (slot_same (hsz' 148 (by decide)) _)))
    · obtain ⟨o, ho, hd, hop, hg⟩ := oper_parts op18_6
      exact wpOp_go ho hg (step_move a w o _ Q 149 6 _ hd hop e6 (hR.next hs (by omega) (by decide) hn (Below.refl _ _) hR.bel (slot_same (hsz' 149 (by decide)) _)))
    · obtain ⟨o, ho, hd, hop, hg⟩ := oper_parts op18_7
      exact wpOp_go ho hg (step_index a w o _ Q 150 149 b6 o6 c6 1 (by decide) hd hop (hR.did 6 (by omega) (hw 6 w18_7_6)) (hR.next hs (by omega) (by decide) hn (Below.refl _ _) hR.bel (slot_same (hsz' 150 (by decide)) _)))
    · obtain ⟨o, ho, hd, hop, hg⟩ := oper_parts op18_8
      exact wpOp_go ho hg (step_loadI a w o _ Q 151 150 ⟨b6, o6 + 1, none⟩ z hd hop (hR.did 7 (by omega) (hw 7 w18_8_7)) (cell_b hR.bel cz) (hR.next hs (by omega) (by decide) hn (Below.refl _ _) hR.bel (slot_same (hsz' 151 (by decide)) _)))
    · obtain ⟨o, ho, hd, hop, hg⟩ := oper_parts op18_9
      exact wpOp_go ho hg (step_call a w o _ Q 152 21 148 151 _ (bal t f) (.int .i64 z) (bal V1 V2) hd hop (hR.did 5 (by omega) (hw 5 w18_9_5)) (hR.did 8 (by omega) (hw 8 w18_9_8)) (C2 w) (by kernel_rfl) (fun w' hb => hR.next hs (by omega) (by decide) hn hb (below_of hb hR.bel hR.bel.size) (slot_same (hsz' 152 (by decide)) _)))
    · obtain ⟨o, ho, hd, hop, hg⟩ := oper_parts op18_10
      exact wpOp_go ho hg (step_alloc a w o _ Q 29 hd hop (hR.next hs (by omega) (by decide) hn ((Below.refl _ _).alloc (Nat.le_refl _) _) (hR.bel.alloc hR.bel.size _) ⟨w.heap.size, _, _, hR.bel.size, slot_same (hsz' 29 (by decide)) _, Blk.new _ _ _⟩))
    · obtain ⟨o, ho, hd, hop, hg⟩ := oper_parts op18_11
      exact wpOp_go ho hg (step_allocF a w o _ Q 30 hd hop (hR.next hs (by omega) (by decide) hn ((Below.refl _ _).alloc (Nat.le_refl _) _) (hR.bel.alloc hR.bel.size _) ⟨w.heap.size, _, _, hR.bel.size, slot_same (hsz' 30 (by decide)) _, Blk.new _ _ _⟩))
    · obtain ⟨o, ho, hd, hop, hg⟩ := oper_parts op18_12
      obtain ⟨x, c, e, h1, h2, h3⟩ := hR.did 10 (by omega) (hw 10 w18_12_10)
      exact wpOp_go ho hg (step_store a w o _ Q 29 147 x V1 V2 hd hop h2 (hR.did 4 (by omega) (hw 4 w18_12_4)) h3 (hR.stored12 hs h1 h2 h3 (hw 10 w18_12_10)))
    · obtain ⟨o, ho, hd, hop, hg⟩ := oper_parts op18_13
      obtain ⟨x, c, e, h1, h2, h3⟩ := hR.did 11 (by omega) (hw 11 w18_13_11)
      exact wpOp_go ho hg (step_storeF a w o _ Q 30 152 x V1 V2 hd hop h2 (hR.did 9 (by omega) (hw 9 w18_13_9)) h3 (hR.stored13 hs h1 h2 h3 (hw 11 w18_13_11)))
  · intro listed a w hs hR hr
    rw [size18] at hs
    exact hQ a w hR.al hR.bel (fun j hj => hR.did j hj (all18 hs hr j hj))
end Go.Proofs.Ytmnndekpedacmaa
