/-
  What Clone and Cut of items give. Conditions: the items are right; no more than a million.
-/
import Derived.Test.YtldkhhipfoeckaaGreatRowsItems
import Derived.Test.YtldkhhipfoeckaaGreatItemCutP
namespace Go.Proofs.YtldkhhipfoeckaaGreat
open Go Go.RowKit
attribute [local go_sem] cell_set_if

theorem flatI_drop (ks : List Im) (k : Nat) : (flatI ks).drop (k * 3) = flatI (ks.drop k) := by
  induction ks generalizing k with
  | nil => simp [flatI]
  | cons x ks ih =>
    cases k with
    | zero => simp
    | succ k =>
      rw [List.drop_succ_cons, ← ih k]
      rw [show (k + 1) * 3 = k * 3 + 1 + 1 + 1 by omega]
      rfl
theorem flatI_take (ks : List Im) (k : Nat) : (flatI ks).take (k * 3) = flatI (ks.take k) := by
  induction ks generalizing k with
  | nil => simp [flatI]
  | cons x ks ih =>
    cases k with
    | zero => simp [flatI]
    | succ k =>
      rw [List.take_succ_cons]
      show ([Value.string x.key, .string x.val, .int .i64 x.kind] ++ flatI ks).take ((k + 1) * 3) = [Value.string x.key, .string x.val, .int .i64 x.kind] ++ flatI (ks.take k)
      rw [← ih k, show (k + 1) * 3 = k * 3 + 1 + 1 + 1 by omega]
      rfl
/-- A part of a slice of items. -/
theorem Rd.part {w : World} {b o : Nat} {ks : List Im} (h : Rd w (some ⟨b, o, none⟩) (flatI ks)) (f m : Nat) : Rd w (some ⟨b, o + f * 3, none⟩) (flatI ((ks.drop f).take m)) := by
  refine Rd.row fun j x hx => ?_
  rw [← flatI_take, ← flatI_drop] at hx
  rw [List.getElem?_take] at hx
  split at hx
  · rw [List.getElem?_drop] at hx
    obtain ⟨ad, e, hc⟩ := h _ _ hx
    injection e with e; subst e
    rw [add_flat] at hc
    rwa [Nat.add_assoc]
  · cases hx
theorem own_mt (w : World) (t : TypeId) (size : Nat) : (w.alloc (.cells #[] t)).ownsRow w.heap.size t size (.slice (some ⟨w.heap.size, 0, none⟩) 0 0) 0 [] :=
  ⟨by simp, .inr ⟨w.heap.size, 0, #[], rfl, Nat.le_refl _, heap_alloc_new w _, Nat.le_refl _, by unfold maxLen; omega, by simp, by simp⟩⟩
set_option maxRecDepth 100000 in
theorem clone_items (w : World) (A : Option Addr) (n c : Nat) (ks : List Im) (hr : Rd w A (flatI ks)) (hx : ks.length = n) (hn : n ≤ 1000000) :
    Calls Tryz.prog 98 #[.slice A n c] w fun e w' => ∃ B d, e = .returned (.slice B n d) ∧ w'.ownsRow w.heap.size 50 3 (.slice B n d) n (flatI ks) ∧ Below w.heap.size w w' := by
  cases A with
  | none =>
    have hx0 : flatI ks = [] := by
      cases h : flatI ks with
      | nil => rfl
      | cons b l => obtain ⟨ad, e, _⟩ := hr 0 b (by rw [h]; rfl); cases e
    have hn0 : n = 0 := by have := flatI_len ks; rw [hx0] at this; rw [List.length_nil] at this; omega
    rw [hx0]
    subst hn0
    have he := Lib.run_eql_slice_nil_nil (P := Tryz.prog) w 0 c Tryz.underlying22
    clear hr hx hx0
    go_enter Tryz.func98, Tryz.ntmps98
    go_wp2
    go_ret
    exact ⟨_, _, rfl, World.ownsRow_nil _ _ _ _, Below.refl _ _⟩
  | some ad =>
    have he := Lib.run_eql_slice_some_nil (P := Tryz.prog) w ad n c Tryz.underlying22
    obtain ⟨i0, hi0, hz0, hz1, hz2⟩ := info_parts iteminfo
    have hl := flatI_len ks
    rw [hx] at hl
    have HX := Lib.hid hl
    have H1 := Lib.hid (flatI_one ks)
    have HR := Lib.hid hr
    generalize flatI ks = xs at *
    clear hx hl hr
    go_enter Tryz.func98, Tryz.ntmps98
    go_wp2_with (at_builtin
                 refine wpList_app rfl (.tmp 5) (.tmp 6) 22 rfl w.heap.size 50 i0 _ 3 40 Tryz.underlying22 hi0 hz0 hz1 hz2 rfl (by omega) (.slice (some ⟨w.heap.size, 0, none⟩) 0 0) 0 [] rfl (own_mt _ _ _) (some ad) n c xs rfl (HR.out.alloc _) HX.out H1.out (by unfold maxLen; omega) (by omega) (by simp) ?_
                 intro v2 w2 hown2 hg2 hb2 hat2
                 rw [Nat.zero_add, List.nil_append] at hown2
                 obtain ⟨A2, c2, rfl, hc2⟩ := own_form hown2)
    go_ret
    exact ⟨_, _, rfl, hown2, ((Below.refl _ _).alloc (Nat.le_refl _) _).trans hb2⟩
theorem partrow : (Tryz.prog.info? 22).map (fun i => (i.zero, i.size, i.bytes)) = some (some (.slice none 0 0), 1, 24) := by kernel_rfl
/-- Parts, of the call's own, no two in one block. -/
structure PartsAt (base : Nat) (w : World) (v : Value) (N : Nat) (ps : List (List Im)) (V : List Value) : Prop where
  len : ps.length = N
  own : w.ownsRow base 22 1 v N V
  rows : RowsI w base V N (fun i => ps.getD i [])
  ap : ApartV V
theorem PartsAt.nil (base : Nat) (w : World) : PartsAt base w (.slice none 0 0) 0 [] [] := ⟨rfl, World.ownsRow_nil _ _ _ _, ⟨rfl, fun i h => by omega⟩, fun i j x y k _ h => by simp at h⟩
theorem PartsAt.below {base N : Nat} {w w' : World} {v : Value} {ps : List (List Im)} {V : List Value} (h : PartsAt base w v N ps V) (k : Below w.heap.size w w') : PartsAt base w' v N ps V :=
  ⟨h.len, own_frm h.own (S := no) (Frm.of_below k) (fun _ _ h => h), h.rows.below k, h.ap⟩
/-- One more part. -/
theorem PartsAt.more {base N : Nat} {w w' : World} {v v' : Value} {ps : List (List Im)} {V : List Value} (h : PartsAt base w v N ps V) {B : Option Addr} {n d : Nat} {xs : List Im} (hn : xs.length = n) (hlo : base ≤ w.heap.size)
    (ho : w.ownsRow base 50 3 (.slice B n d) n (flatI xs)) (hfr : ∀ (i : Nat) (x : Value) (b : Nat), V[i]? = some x → x.ownBlock = some b → (Value.slice B n d).ownBlock ≠ some b)
    (hg : w.grownBy w' v.ownBlock) (hv : w'.ownsRow base 22 1 v' (N + 1) (V ++ [.slice B n d])) : PartsAt base w' v' (N + 1) (ps ++ [xs]) (V ++ [.slice B n d]) := by
  have F : Frm (fun k => v.ownBlock = some k) w w' := (Frm.refl _ w).grown hg fun k hk _ => hk
  have R : RowsI w' base V N (fun i => ps.getD i []) := h.rows.frm F fun i x b hx hb hs => h.rows.ne h.own (by decide) i x b hx hb hs
  have O := own_frm ho F fun k hk hs => own_own h.own ho (by decide) hs hk
  refine ⟨by rw [List.length_append, h.len]; rfl, hv, (R.snoc hn O).congr fun i hi => ?_, h.ap.snoc hfr⟩
  by_cases hc : i = N
  · subst hc; rw [if_pos rfl, List.getD_eq_getElem?_getD, List.getElem?_append_right (by rw [h.len]; exact Nat.le_refl _), h.len, Nat.sub_self]; rfl
  · rw [if_neg hc, List.getD_eq_getElem?_getD, List.getD_eq_getElem?_getD, List.getElem?_append_left (by rw [h.len]; omega)]

end Go.Proofs.YtldkhhipfoeckaaGreat
