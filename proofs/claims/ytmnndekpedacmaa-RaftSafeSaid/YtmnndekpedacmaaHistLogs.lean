/-
  Chapter 25's logs: a log and the document's one, of terms behind a base. Conditions: the base is at most 2^59, at most 100000 terms.
-/
import Derived.Test.YtmnndekpedacmaaHistRef
namespace Go.Proofs.Ytmnndekpedacmaa
open Go Go.RowKit
attribute [local go_sem] cell_set_if

/-- The entries of terms behind an index and a term. -/
def risenE (i t : Int) : List Int → List Ent
  | [] => []
  | x :: xs => ⟨i + 1, max t x, 0, 0, .slice none 0 0⟩ :: risenE (i + 1) (max t x) xs
/-- The greatest of a term and terms. -/
def risenT (t : Int) : List Int → Int
  | [] => t
  | x :: xs => risenT (max t x) xs
theorem risenE_len (i t : Int) (xs : List Int) : (risenE i t xs).length = xs.length := by
  induction xs generalizing i t with
  | nil => rfl
  | cons x xs ih => simp [risenE, ih]
theorem risenT_app (t : Int) (xs : List Int) (x : Int) : risenT t (xs ++ [x]) = max (risenT t xs) x := by
  induction xs generalizing t with
  | nil => rfl
  | cons y xs ih => simp [risenT, ih]
theorem risenE_app (i t : Int) (xs : List Int) (x : Int) : risenE i t (xs ++ [x]) = risenE i t xs ++ [⟨i + xs.length + 1, max (risenT t xs) x, 0, 0, .slice none 0 0⟩] := by
  induction xs generalizing i t with
  | nil => simp [risenE, risenT]
  | cons y xs ih =>
    simp only [List.cons_append, risenE, risenT, ih, List.length_cons]
    rw [show i + 1 + (xs.length : Int) + 1 = i + ((xs.length + 1 : Nat) : Int) + 1 by omega]
theorem lastT_app (t : Int) (es : List Ent) (e : Ent) : lastT t (es ++ [e]) = e.term := by unfold lastT; simp
theorem lastT_cons (t : Int) (e : Ent) (es : List Ent) : lastT t (e :: es) = lastT e.term es := by
  unfold lastT
  cases es with
  | nil => rfl
  | cons a es => simp [List.getLast?_cons_cons, List.getLast?_cons]
theorem risenE_last (i t : Int) (xs : List Int) : lastT t (risenE i t xs) = risenT t xs := by
  induction xs generalizing i t with
  | nil => rfl
  | cons x xs ih => rw [risenE, lastT_cons, ih]; rfl
theorem risenE_nil (i t : Int) (xs : List Int) : ∀ e ∈ risenE i t xs, e.cmds = .slice none 0 0 := by
  induction xs generalizing i t with
  | nil => intro e he; cases he
  | cons x xs ih =>
    intro e he
    simp only [risenE, List.mem_cons] at he
    rcases he with rfl | he
    · rfl
    · exact ih _ _ e he
theorem risenE_one (i t : Int) (xs : List Int) : ∀ e ∈ risenE i t xs, e.cmds.oneCell' = true := fun e he => by rw [risenE_nil i t xs e he]; rfl

theorem LogT.base {T : TypeId} {w : World} {base base' g : Nat} {idx trm : Int} {es : List Ent} {v : Value} (h : LogT T w base g idx trm es v) (hb : base' ≤ base) : LogT T w base' g idx trm es v :=
  ⟨h.blk, Nat.le_trans hb h.low, own_base h.own hb, h.i0, h.i1, h.n1⟩
theorem LogT.mine_lt {T : TypeId} {w : World} {base g : Nat} {idx trm : Int} {es : List Ent} {v : Value} (h : LogT T w base g idx trm es v) (k : Nat) (hk : mine g v k) : base ≤ k ∧ k < w.heap.size := by
  rcases hk with rfl | hk
  · exact ⟨h.low, h.blk.lt⟩
  · have := h.own.lt k hk; omega
/-- Two objects have no block in common. -/
def Aside (g : Nat) (v : Value) (g' : Nat) (v' : Value) : Prop := ∀ k, mine g v k → ¬ mine g' v' k
theorem LogT.turn {T : TypeId} {w w' : World} {base g g' : Nat} {idx trm : Int} {es : List Ent} {v u u' : Value} (h : LogT T w base g idx trm es v) (ha : Aside g v g' u) (hT : Turn g' u w u' w') :
    LogT T w' base g idx trm es v ∧ Aside g v g' u' := by
  refine ⟨h.frm hT.frm (ha g (.inl rfl)) fun r hr => ha r (.inr hr), fun k hk hm => ?_⟩
  rcases hT.ofmine k hm with h1 | h1
  · exact ha k hk h1
  · have := h.mine_lt k hk; omega

theorem Aside.symm {g g' : Nat} {v v' : Value} (h : Aside g v g' v') : Aside g' v' g v := fun k h1 h2 => h k h2 h1
theorem Turn.new_cell {g : Nat} {v v' : Value} {w w' : World} {o : Obj} (h : Turn g v (w.alloc o) v' w') (hm : ∀ k, mine g v k → k < w.heap.size) (j : Nat) : w'.cell? ⟨w.heap.size, j, none⟩ = (w.alloc o).cell? ⟨w.heap.size, j, none⟩ :=
  h.frm.cell (by simp) (fun hk => by have := hm _ hk; simp at this)
theorem Turn.new {g : Nat} {v v' : Value} {w w' : World} {o : Obj} (h : Turn g v (w.alloc o) v' w') : Turn g v w v' w' :=
  Turn.trans (v' := v) ⟨(Frm.refl _ _).alloc _, fun k hk => .inl hk⟩ h

theorem rises_one (last t t' : Int) (h : t ≤ t') : Rises last (fun k => if k = 0 then t else t') [⟨last + 1, t', 0, 0, .slice none 0 0⟩] := by
  constructor
  all_goals
    intro k e he
    rcases k with _ | k
    · simp at he; subst he; simp <;> omega
    · simp at he

theorem one_append (w : World) (base g : Nat) (idx trm : Int) (es : List Ent) (v : Value) (h : LogAt w base g idx trm es v) (B : Nat) (hB : B = w.heap.size) (x t' : Int) (hx : x = idx + es.length + 1) (ht : lastT trm es ≤ t') (hlen : es.length + 1 ≤ 1000000) :
    Calls Try.prog 29 #[.pointer (some ⟨g, 0, none⟩), .slice (some ⟨B, 0, none⟩) 1 1] (w.alloc (.cells #[.int .i64 x, .int .i64 t', .int .i64 0, .int .i64 0, .slice none 0 0] 63))
      fun e w' => e = .returned (.int .i64 0) ∧ ∃ v', LogAt w' base g idx trm (es ++ [⟨idx + es.length + 1, t', 0, 0, .slice none 0 0⟩]) v' ∧ Turn g v w v' w' := by
  subst hB
  subst hx
  have L1 := h.below ((Below.refl _ _).alloc (Nat.le_refl _) (.cells #[.int .i64 (idx + es.length + 1), .int .i64 t', .int .i64 0, .int .i64 0, .slice none 0 0] 63))
  refine (append_turn _ base g idx trm es v L1 w.heap.size 0 1 1 [⟨idx + es.length + 1, t', 0, 0, .slice none 0 0⟩] (fun k => if k = 0 then lastT trm es else t') (fun j x hx => ?_) rfl (rises_one _ _ _ ht) rfl (by simp) (by have := h.blk.lt; omega) (fun hk => ?_) hlen).mono ?_
  · rw [Nat.zero_add, World.cell?_alloc_new]
    simpa [flatE, Ent.cells] using hx
  · have := h.own.lt _ hk; omega
  · rintro e w' ⟨h0, v', h1, h2, h3⟩
    exact ⟨h0, v', h1, Turn.trans (v' := v) ⟨(Frm.refl _ _).alloc _, fun k hk => .inl hk⟩ h3⟩
theorem one_ref_append (w : World) (base g : Nat) (idx trm : Int) (es : List Ent) (v : Value) (h : RefAt w base g idx trm es v) (B : Nat) (hB : B = w.heap.size) (x t' : Int) (hx : x = idx + es.length + 1) (ht : lastT trm es ≤ t') (hlen : es.length + 1 ≤ 1000000) (he1 : ∀ e ∈ es, e.cmds.oneCell' = true) :
    Calls Try.prog 30 #[.pointer (some ⟨g, 0, none⟩), .slice (some ⟨B, 0, none⟩) 1 1] (w.alloc (.cells #[.int .i64 x, .int .i64 t', .int .i64 0, .int .i64 0, .slice none 0 0] 63))
      fun e w' => e = .returned (.int .i64 0) ∧ ∃ v', RefAt w' base g idx trm (es ++ [⟨idx + es.length + 1, t', 0, 0, .slice none 0 0⟩]) v' ∧ Turn g v w v' w' := by
  subst hB
  subst hx
  have L1 := h.below ((Below.refl _ _).alloc (Nat.le_refl _) (.cells #[.int .i64 (idx + es.length + 1), .int .i64 t', .int .i64 0, .int .i64 0, .slice none 0 0] 63))
  refine (ref_append_any _ base g idx trm es v L1 w.heap.size 0 1 1 [⟨idx + es.length + 1, t', 0, 0, .slice none 0 0⟩] (fun k => if k = 0 then lastT trm es else t') (fun j x hx => ?_) rfl (rises_one _ _ _ ht).rises0 rfl (by simp) hlen he1 ?_).mono ?_
  · rw [Nat.zero_add, World.cell?_alloc_new]
    simpa [flatE, Ent.cells] using hx
  · intro e he; simp at he; subst he; rfl
  · rintro e w' ⟨h0, v', h1, h2, h3⟩
    exact ⟨h0, v', h1, Turn.trans (v' := v) ⟨(Frm.refl _ _).alloc _, fun k hk => .inl hk⟩ h3⟩

set_option maxRecDepth 100000 in
set_option maxHeartbeats 2000000 in
theorem logs_any (w : World) (i t : Int) (A : Option Addr) (m c : Nat) (xs : List Int) (hr : Rd w A (xs.map (Value.int .i64))) (hm : xs.length = m) (hi : i ≤ 576460752303423488) (hmax : m ≤ 100000) :
    Calls Try.prog 7 #[.int .i64 i, .int .i64 t, .slice A m c] w fun e w' => ∃ g1 v1 g2 v2, e = .returned (.tuple #[.pointer (some ⟨g1, 0, none⟩), .pointer (some ⟨g2, 0, none⟩)]) ∧
      LogAt w' w.heap.size g1 (max i 0) (max t 0) (risenE (max i 0) (max t 0) xs) v1 ∧ RefAt w' w.heap.size g2 (max i 0) (max t 0) (risenE (max i 0) (max t 0) xs) v2 ∧ Below w.heap.size w w' ∧ Aside g1 v1 g2 v2 := by
  obtain ⟨ii, hii⟩ : ∃ ii, ii = max i 0 := ⟨_, rfl⟩
  obtain ⟨tt, htt⟩ : ∃ tt, tt = max t 0 := ⟨_, rfl⟩
  have hN := fun w => new_any i t w (by omega)
  have hR := fun w => ref_new_any i t w (by omega)
  rw [← hii, ← htt] at hN hR ⊢
  have i0 : 0 ≤ ii ∧ ii ≤ 576460752303423488 := by omega
  clear hii htt
  have HN := Lib.hid hN
  have HR := Lib.hid hR
  have HX := Lib.hid hr
  have HM := Lib.hid hm
  clear hN hR hr hm
  go_enter Try.func7, Try.ntmps7
  go_wp2_with (first
    | (go_at_call 27; refine (HN.out _).mono ?_; rintro e w1 ⟨rfl, L1, b1⟩)
    | (go_at_call 28; refine (HR.out _).mono ?_; rintro e w2 ⟨rfl, L2, b2⟩; have c1 := L2.blk.cell 1; simp at c1))
  have B2 : Below w.heap.size w w2 := below_of b2 b1 b1.size
  have L1' := (L1.below b2)
  have L2' := L2.base b1.size
  have hA : Aside w.heap.size (.slice none 0 0) w1.heap.size (.slice none 0 0) := by
    intro k hk hk'
    have := L1.blk.lt
    rcases hk with rfl | hk
    · rcases hk' with hk' | hk'
      · omega
      · cases hk'
    · cases hk
  have hsz := L2.blk.lt
  generalize hg1 : w.heap.size = g1 at *
  generalize hg2 : w1.heap.size = g2 at *
  clear hg2
  go_loopw [10, 11] (fun u10 u11 wr => ∃ (k : Nat) (va vb : Value), k ≤ m ∧ u11 = .int .i64 k ∧ u10 = .int .i64 (risenT tt (xs.take k)) ∧ LogAt wr g1 g1 ii tt (risenE ii tt (xs.take k)) va ∧ RefAt wr g1 g2 ii tt (risenE ii tt (xs.take k)) vb ∧ Below g1 w wr ∧ Aside g1 va g2 vb) (fun _ u11 _ => m - (intOf u11).toNat)
  case atStart => exact ⟨0, _, _, by omega, rfl, rfl, L1', L2', B2, hA⟩
  case round =>
    obtain ⟨k, va, vb, hk, rfl, rfl, La, Lb, hB, hAs⟩ := hrel
    clear L1' L2' B2 hA L1 L2 c1
    by_cases hlt : k < m
    · obtain ⟨x, hx⟩ : ∃ x, xs[k]? = some x := ⟨xs[k]'(by have := HM.out; omega), List.getElem?_eq_getElem _⟩
      obtain ⟨b, o, rfl, hb, hcs⟩ := HX.out.flat (by simp; have := HM.out; omega)
      have hx0 : wr.cell? ⟨b, o + k, none⟩ = some (.int .i64 x) := by
        rw [(below_cells hB).1 b _ (by omega)]
        exact hcs k _ (by simp [hx])
      clear hcs
      have ht : xs.take (k + 1) = xs.take k ++ [x] := by rw [List.take_add_one, hx]; rfl
      have hE : risenE ii tt (xs.take (k + 1)) = risenE ii tt (xs.take k) ++ [⟨ii + k + 1, max (risenT tt (xs.take k)) x, 0, 0, .slice none 0 0⟩] := by
        rw [ht, risenE_app, List.length_take, show min k xs.length = k by have := HM.out; omega]
      have hT : risenT tt (xs.take (k + 1)) = max (risenT tt (xs.take k)) x := by rw [ht, risenT_app]
      have hlen : (risenE ii tt (xs.take k)).length = k := by rw [risenE_len, List.length_take]; have := HM.out; omega
      have hlast : lastT tt (risenE ii tt (xs.take k)) = risenT tt (xs.take k) := risenE_last _ _ _
      have hone := risenE_one ii tt (xs.take k)
      have HE := Lib.hid hE
      have HT := Lib.hid hT
      clear hE hT ht hx
      generalize risenE ii tt (xs.take k) = es at *
      generalize risenT tt (xs.take k) = t0 at *
      obtain ⟨t1, ht1⟩ : ∃ t1, t1 = max t0 x := ⟨_, rfl⟩
      rw [← ht1] at HE HT
      have hcase : (t1 = t0 ∧ x ≤ t0) ∨ (t1 = x ∧ t0 < x) := by omega
      clear ht1
      have hel : ii + (es.length : Int) = ii + k := by omega
      have HL := Lib.hid hlen
      have HLT := Lib.hid hlast
      have HOne := Lib.hid hone
      clear hlen hlast hone
      rcases hcase with ⟨rfl, hc⟩ | ⟨rfl, hc⟩
      all_goals
        go_wp2_with (first
          | (go_at_call 8; refine (ref_last_any _ _ _ _ _ _ _ Lb).mono ?_; rw [hel]; rintro e w3 ⟨rfl, q3⟩; have La3 := La.qt q3; have Lb3 := Lb.qt q3; have B3 : Below g1 w w3 := below_of (q3.below wr.heap.size) hB (by have := hB.size; omega); clear La Lb hB)
          | (go_at_call 29; refine (one_append _ _ _ _ _ _ _ (La3.below ((Below.refl _ _).alloc (Nat.le_refl _) _)) _ (by simp) _ _ (by rw [hel]) (by rw [HLT.out]; omega) (by have := HL.out; omega)).mono ?_; rintro e w4 ⟨rfl, va', La4, hT4⟩
             have hm4 : ∀ k, mine g1 va k → k < w3.heap.size := fun k hk => (La3.mine_lt k hk).2
             have hx3 := Lb3.turn hAs.symm hT4.new
             have Lb4 := hx3.1
             have B4 : Below g1 w w4 := below_frm B3 hT4.new.frm (by have := (La3.mine_lt g1 (.inl rfl)).2; omega) fun k hk => (La3.mine_lt k hk).1
             have e0 := hT4.new_cell hm4 0
             have e1 := hT4.new_cell hm4 1
             have e2 := hT4.new_cell hm4 2
             have e3 := hT4.new_cell hm4 3
             have e4 := hT4.new_cell hm4 4
             simp at e0 e1 e2 e3 e4))
        refine (one_ref_append _ _ _ _ _ _ _ Lb4 _ (by simp) _ _ (by rw [hel]) (by rw [HLT.out]; omega) (by have := HL.out; omega) HOne.out).mono ?_
        rintro e w5 ⟨rfl, vb', Lb5, hT5⟩
        have hx5 := La4.turn hx3.2.symm hT5
        have B5 : Below g1 w w5 := below_frm B4 hT5.frm (by have := (La4.mine_lt g1 (.inl rfl)).2; omega) fun k hk => (Lb4.mine_lt k hk).1
        go_wp2
        go_roundw
        case rel => exact ⟨k + 1, va', vb', by omega, by go_num, by rw [HT.out], by rw [HE.out, ← hel]; exact hx5.1, by rw [HE.out, ← hel]; exact Lb5, B5, hx5.2⟩
        case measure => simp [intOf]; omega
    · obtain rfl : k = m := by omega
      have e : xs.take k = xs := List.take_of_length_le (by have := HM.out; omega)
      rw [e] at La Lb
      go_wp2
      go_ret2
      exact ⟨g1, va, g2, vb, rfl, by rw [hg1]; exact La, by rw [hg1]; exact Lb, by rw [hg1]; exact hB, hAs⟩
end Go.Proofs.Ytmnndekpedacmaa
