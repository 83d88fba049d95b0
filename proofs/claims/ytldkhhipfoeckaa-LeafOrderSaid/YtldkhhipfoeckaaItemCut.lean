/-
  What Clone and Cut of items give. Conditions: the items are right; no more than a million.
-/
import Derived.Test.YtldkhhipfoeckaaRowsItems
import Derived.Test.YtldkhhipfoeckaaItemCutP
namespace Go.Proofs.Ytldkhhipfoeckaa
open Go Go.RowKit
attribute [local go_sem] cell_set_if

theorem flatI_drop (ks : List Im) (k : Nat) : (flatI ks).drop (k * 3) = flatI (ks.drop k) := by
  induction ks generalizing k with
  | nil => simp [flatI]
  | cons x ks ih =>
    cases k with
    | zero => simp
    | succ k =>
      rw [List.drop_succ_cons, ← ih k]
      rw [show (k + 1) * 3 = k * 3 + 1 + 1 + 1 by omega]
      rfl
theorem flatI_take (ks : List Im) (k : Nat) : (flatI ks).take (k * 3) = flatI (ks.take k) := by
  induction ks generalizing k with
  | nil => simp [flatI]
  | cons x ks ih =>
    cases k with
    | zero => simp [flatI]
    | succ k =>
      rw [List.take_succ_cons]
      show ([Value.string x.key, .string x.val, .int .i64 x.kind] ++ flatI ks).take ((k + 1) * 3) = [Value.string x.key, .string x.val, .int .i64 x.kind] ++ flatI (ks.take k)
      rw [← ih k, show (k + 1) * 3 = k * 3 + 1 + 1 + 1 by omega]
      rfl
/-- A part of a slice of items. -/
theorem Rd.part {w : World} {b o : Nat} {ks : List Im} (h : Rd w (some ⟨b, o, none⟩) (flatI ks)) (f m : Nat) : Rd w (some ⟨b, o + f * 3, none⟩) (flatI ((ks.drop f).take m)) := by
  refine Rd.row fun j x hx => ?_
  rw [← flatI_take, ← flatI_drop] at hx
  rw [List.getElem?_take] at hx
  split at hx
  · rw [List.getElem?_drop] at hx
    obtain ⟨ad, e, hc⟩ := h _ _ hx
    injection e with e; subst e
    rw [add_flat] at hc
    rwa [Nat.add_assoc]
  · cases hx
theorem own_mt (w : World) (t : TypeId) (size : Nat) : (w.alloc (.cells #[] t)).ownsRow w.heap.size t size (.slice (some ⟨w.heap.size, 0, none⟩) 0 0) 0 [] :=
  ⟨by simp, .inr ⟨w.heap.size, 0, #[], rfl, Nat.le_refl _, heap_alloc_new w _, Nat.le_refl _, by unfold maxLen; omega, by simp, by simp⟩⟩
set_option maxRecDepth 100000 in
theorem clone_items (w : World) (A : Option Addr) (n c : Nat) (ks : List Im) (hr : Rd w A (flatI ks)) (hx : ks.length = n) (hn : n ≤ 1000000) :
    Calls Try.prog 127 #[.slice A n c] w fun e w' => ∃ B d, e = .returned (.slice B n d) ∧ w'.ownsRow w.heap.size 108 3 (.slice B n d) n (flatI ks) ∧ Below w.heap.size w w' := by
  cases A with
  | none =>
    have hx0 : flatI ks = [] := by
      cases h : flatI ks with
      | nil => rfl
      | cons b l => obtain ⟨ad, e, _⟩ := hr 0 b (by rw [h]; rfl); cases e
    have hn0 : n = 0 := by have := flatI_len ks; rw [hx0] at this; rw [List.length_nil] at this; omega
    rw [hx0]
    subst hn0
    have he := Lib.run_eql_slice_nil_nil (P := Try.prog) w 0 c Try.underlying96
    clear hr hx hx0
    go_enter Try.func127, Try.ntmps127
    go_wp2
    go_ret
    exact ⟨_, _, rfl, World.ownsRow_nil _ _ _ _, Below.refl _ _⟩
  | some ad =>
    have he := Lib.run_eql_slice_some_nil (P := Try.prog) w ad n c Try.underlying96
    obtain ⟨i0, hi0, hz0, hz1, hz2⟩ := info_parts iteminfo
    have hl := flatI_len ks
    rw [hx] at hl
    have HX := Lib.hid hl
    have H1 := Lib.hid (flatI_one ks)
    have HR := Lib.hid hr
    generalize flatI ks = xs at *
    clear hx hl hr
    go_enter Try.func127, Try.ntmps127
    go_wp2_with (at_builtin
                 refine wpList_app rfl (.tmp 5) (.tmp 6) 96 rfl w.heap.size 108 i0 _ 3 40 Try.underlying96 hi0 hz0 hz1 hz2 rfl (by omega) (.slice (some ⟨w.heap.size, 0, none⟩) 0 0) 0 [] rfl (own_mt _ _ _) (some ad) n c xs rfl (HR.out.alloc _) HX.out H1.out (by unfold maxLen; omega) (by omega) (by simp) ?_
                 intro v2 w2 hown2 hg2 hb2 hat2
                 rw [Nat.zero_add, List.nil_append] at hown2
                 obtain ⟨A2, c2, rfl, hc2⟩ := own_form hown2)
    go_ret
    exact ⟨_, _, rfl, hown2, ((Below.refl _ _).alloc (Nat.le_refl _) _).trans hb2⟩
theorem partrow : (Try.prog.info? 96).map (fun i => (i.zero, i.size, i.bytes)) = some (some (.slice none 0 0), 1, 24) := by kernel_rfl
/-- Parts, of the call's own, no two in one block. -/
structure PartsAt (base : Nat) (w : World) (v : Value) (N : Nat) (ps : List (List Im)) (V : List Value) : Prop where
  len : ps.length = N
  own : w.ownsRow base 96 1 v N V
  rows : RowsI w base V N (fun i => ps.getD i [])
  ap : ApartV V
theorem PartsAt.nil (base : Nat) (w : World) : PartsAt base w (.slice none 0 0) 0 [] [] := ⟨rfl, World.ownsRow_nil _ _ _ _, ⟨rfl, fun i h => by omega⟩, fun i j x y k _ h => by simp at h⟩
theorem PartsAt.below {base N : Nat} {w w' : World} {v : Value} {ps : List (List Im)} {V : List Value} (h : PartsAt base w v N ps V) (k : Below w.heap.size w w') : PartsAt base w' v N ps V :=
  ⟨h.len, own_frm h.own (S := no) (Frm.of_below k) (fun _ _ h => h), h.rows.below k, h.ap⟩
/-- One more part. -/
theorem PartsAt.more {base N : Nat} {w w' : World} {v v' : Value} {ps : List (List Im)} {V : List Value} (h : PartsAt base w v N ps V) {B : Option Addr} {n d : Nat} {xs : List Im} (hn : xs.length = n) (hlo : base ≤ w.heap.size)
    (ho : w.ownsRow base 108 3 (.slice B n d) n (flatI xs)) (hfr : ∀ (i : Nat) (x : Value) (b : Nat), V[i]? = some x → x.ownBlock = some b → (Value.slice B n d).ownBlock ≠ some b)
    (hg : w.grownBy w' v.ownBlock) (hv : w'.ownsRow base 96 1 v' (N + 1) (V ++ [.slice B n d])) : PartsAt base w' v' (N + 1) (ps ++ [xs]) (V ++ [.slice B n d]) := by
  have F : Frm (fun k => v.ownBlock = some k) w w' := (Frm.refl _ w).grown hg fun k hk _ => hk
  have R : RowsI w' base V N (fun i => ps.getD i []) := h.rows.frm F fun i x b hx hb hs => h.rows.ne h.own (by decide) i x b hx hb hs
  have O := own_frm ho F fun k hk hs => own_own h.own ho (by decide) hs hk
  refine ⟨by rw [List.length_append, h.len]; rfl, hv, (R.snoc hn O).congr fun i hi => ?_, h.ap.snoc hfr⟩
  by_cases hc : i = N
  · subst hc; rw [if_pos rfl, List.getD_eq_getElem?_getD, List.getElem?_append_right (by rw [h.len]; exact Nat.le_refl _), h.len, Nat.sub_self]; rfl
  · rw [if_neg hc, List.getD_eq_getElem?_getD, List.getD_eq_getElem?_getD, List.getElem?_append_left (by rw [h.len]; omega)]

set_option maxRecDepth 100000 in
set_option maxHeartbeats 2000000 in
theorem icut_any (A : Option Addr) (n c : Nat) (ks : List Im) (w : World) (hr : Rd w A (flatI ks)) (hn : ks.length = n) (hc : n ≤ c) (hm : n ≤ 1000000) (hs : sumI ks ≤ 1099511627776) (hR : RightI ks) :
    Calls Try.prog 57 #[.slice A n c] w fun e w' => (∃ B N d V, e = .returned (.tuple #[.slice B N d, .int .i64 0]) ∧ PartsAt w.heap.size w' (.slice B N d) N (cutS ks) V) ∧ Below w.heap.size w w' := by
  have hRt := fun w hr => iright_yes A n c ks w hr hn hm hR
  obtain ⟨i1, hi1, hz0, hz1, hz2⟩ := info_parts partrow
  have HR := Lib.hid hr
  have HN := Lib.hid hn
  have HRt := Lib.hid hRt
  have HSM := Lib.hid (Small.right hR)
  have hnn : (n : Int) ≤ 1000000 := by omega
  have hcc : (n : Int) ≤ (c : Int) := by omega
  have HS := Lib.hid hs
  clear hr hn hRt hs hR
  go_enter Try.func57, Try.ntmps57
  go_wp2_with (go_at_call 126; refine (HRt.out _ HR.out).mono ?_; rintro e w1 ⟨rfl, b1⟩)
  go_loopw [4, 5] (fun u4 u5 wr => ∃ (f N : Nat) (ps : List (List Im)) (V : List Value), f ≤ n ∧ N ≤ f ∧ u5 = .int .i64 f ∧ PartsAt w.heap.size wr u4 N ps V ∧ cutS ks = ps ++ cutS (ks.drop f) ∧ Below w.heap.size w wr) (fun _ u5 _ => n - (intOf u5).toNat)
  case atStart => exact ⟨0, 0, [], [], by omega, by omega, rfl, PartsAt.nil _ _, by simp, b1⟩
  case round =>
    obtain ⟨f, N, ps, V, hf, hNf, rfl, hP, hC, hB⟩ := hrel
    have HC := Lib.hid hC
    clear hC
    by_cases hlt : f < n
    · have hne : ks.drop f ≠ [] := fun e => by have := congrArg List.length e; rw [List.length_drop, HN.out, List.length_nil] at this; omega
      have hlen : (ks.drop f).length = n - f := by rw [List.length_drop, HN.out]
      have hCut := cutS_ne (HSM.out.drop f) hne
      have h1 : 1 + sumI ((ks.drop f).take 1) ≤ 232 := by
        have e : (ks.drop f)[0]? = some ((ks.drop f)[0]'(by omega)) := List.getElem?_eq_getElem _
        have := sumI_take _ 0 _ e
        have h2 := HSM.out.drop f 0 _ e
        rw [List.take_zero, sumI_nil, Nat.zero_add] at this
        omega
      have H1 := Lib.hid h1
      have HCut := Lib.hid hCut
      have HLen := Lib.hid hlen
      have hfi : (f : Int) < (n : Int) := by omega
      clear hne hlen hCut h1
      go_wp2
      go_loopw [6] (fun u6 wx => ∃ m : Nat, 1 ≤ m ∧ f + m ≤ n ∧ u6 = .int .i64 ((f : Int) + m) ∧ 1 + sumI ((ks.drop f).take m) ≤ 232 ∧ Below wr.heap.size wr wx) (fun u6 _ => n - (intOf u6).toNat)
      case atStart => exact ⟨1, by omega, by omega, by go_num, H1.out, Below.refl _ _⟩
      case round =>
        obtain ⟨m, hm1, hmn, rfl, hfit, hBx⟩ := hrel
        have HFit := Lib.hid hfit
        have hm46 : m ≤ 46 := by
          have h5 := sumI_len ((ks.drop f).take m)
          rw [List.length_take, HLen.out] at h5
          omega
        have hmi : (m : Int) < 255 := by omega
        have BX := below_of hBx hB hB.size
        have hRD := HR.out.below BX
        obtain ⟨b, o, rfl, hbb, _⟩ := HR.out.flat (by rw [flatI_len, HN.out]; omega)
        have HRD := Lib.hid (fun q => Rd.part hRD f q)
        have hsl : ∀ q, sumI ((ks.drop f).take q) ≤ 1099511627776 := fun q => by
          have h1 := sumI_le (ks.drop f) q
          have h2 := sumI_app (ks.take f) (ks.drop f)
          rw [List.take_append_drop] at h2
          have h3 := HS.out
          omega
        have HSL := Lib.hid hsl
        have hll : ∀ q, f + q ≤ n → ((ks.drop f).take q).length = q := fun q hq => by rw [List.length_take, HLen.out]; omega
        have HLL := Lib.hid hll
        clear hRD hsl hll hfit
        have hd0 : (f : Int) + (m : Int) - (f : Int) < 255 := by omega
        obtain ⟨z, hz⟩ : ∃ z, z = sumI ((ks.drop f).take (m + 1)) := ⟨_, rfl⟩
        have hSz : f + m < n → ∀ w, Rd w (some ⟨b, o + f * 3, none⟩) (flatI ((ks.drop f).take (m + 1))) → Calls Try.prog 64 #[.slice (some ⟨b, o + f * 3, none⟩) (f + m + 1 - f) (c - f)] w fun e w' => e = .returned (.int .i64 (1 + z)) ∧ Below w.heap.size w w' := fun h w hr => by
          rw [hz]
          exact isize_any _ _ _ _ w hr (by rw [HLL.out (m + 1) (by omega)]; omega) (HSL.out _)
        have HSz := Lib.hid hSz
        have HZ := Lib.hid hz
        clear hSz hz hmi
        by_cases hgo : f + m < n ∧ 1 + z ≤ 232
        · obtain ⟨hg1, hg2⟩ := hgo
          have hg1i : (f : Int) + (m : Int) < (n : Int) := by omega
          have hg2i : (1 : Int) + (z : Int) ≤ 232 := by omega
          go_wp2_with (go_at_call 64; refine (HSz.out hg1 _ (HRD.out _)).mono ?_; rintro e w4 ⟨rfl, b4⟩)
          go_roundw
          case rel => exact ⟨m + 1, by omega, by omega, by go_num, by rw [← HZ.out]; exact hg2, below_of b4 hBx hBx.size⟩
          case measure => simp [intOf]; omega
        · have hfn : fitN 1 (ks.drop f) = m := fitN_is _ _ (by rw [HLen.out]; omega) HFit.out (by rw [HLen.out, ← HZ.out]; omega)
          have hK : cutS ks = (ps ++ [(ks.drop f).take m]) ++ cutS (ks.drop (f + m)) := by
            rw [HC.out, HCut.out, hfn, List.drop_drop, List.append_assoc]; rfl
          have HK := Lib.hid hK
          have hCl : ∀ w nn, nn = m → Rd w (some ⟨b, o + f * 3, none⟩) (flatI ((ks.drop f).take m)) → Calls Try.prog 127 #[.slice (some ⟨b, o + f * 3, none⟩) nn (c - f)] w fun e w' => ∃ B d, e = .returned (.slice B m d) ∧ w'.ownsRow w.heap.size 108 3 (.slice B m d) m (flatI ((ks.drop f).take m)) ∧ Below w.heap.size w w' := fun w nn hnn hr => by
            subst hnn
            exact clone_items w _ nn (c - f) _ hr (HLL.out nn (by omega)) (by omega)
          have HCl := Lib.hid hCl
          have hex : (f + m = n) ∨ (f + m < n ∧ 232 < 1 + (z : Int)) := by omega
          have HM := Lib.hid (HLL.out m (by omega))
          clear hfn hK hCl hgo
          rcases hex with h | ⟨h, h'⟩
          · have hni : (n : Int) ≤ (f : Int) + (m : Int) := by omega
            have PC := hP.below hBx
            have RC := HRD.out m
            have BC := BX
            clear h
            go_wp2_with (first
              | (go_at_call 127; refine (HCl.out _ _ (by omega) RC).mono ?_; rintro e w5 ⟨B5, d5, rfl, ho5, b5⟩; have P5 := PC.below b5; have B5' := below_of b5 BC BC.size; have OO := P5.own.alloc (.cells #[.slice B5 m d5] 96))
              | (at_builtin
                 refine wpList_app rfl (.tmp 37) (.tmp 43) 35 rfl w.heap.size 96 i1 _ 1 24 Try.underlying35 hi1 hz0 hz1 hz2 rfl (by omega) u4 N V rfl OO _ 1 1 [.slice B5 m d5] rfl (Rd.one _ _ _) rfl (by simp [Value.oneCell']) (by unfold maxLen; omega) (by omega) (by have := B5'.size; simp; omega) ?_
                 intro v6 w6 ho6 hg6 hb6 hat6))
            go_roundw
            case rel =>
              refine ⟨f + m, N + 1, ps ++ [(ks.drop f).take m], V ++ [.slice B5 m d5], by omega, by omega, by go_num, ?_, HK.out, below_of hb6 (B5'.alloc B5'.size _) (Nat.le_refl _)⟩
              refine (P5.below ((Below.refl _ _).alloc (Nat.le_refl _) _)).more HM.out (by have := B5'.size; simp; omega) (own_base (ho5.alloc _) BC.size) (fun i x q hx hq hq2 => ?_) hg6 ho6
              have h1 := (PC.rows.lt i x q hx hq).2
              have h2 := (ho5.lt q hq2).1
              omega
            case measure => simp [intOf]; omega
          · have hni : (f : Int) + (m : Int) < (n : Int) := by omega
            go_wp2_with (first
              | (go_at_call 64; refine (HSz.out h _ (HRD.out _)).mono ?_; rintro e w4 ⟨rfl, b4⟩; have PC := (hP.below hBx).below b4; have RC := (HRD.out m).below b4; have BC := below_of b4 BX BX.size)
              | (go_at_call 127; refine (HCl.out _ _ (by omega) RC).mono ?_; rintro e w5 ⟨B5, d5, rfl, ho5, b5⟩; have P5 := PC.below b5; have B5' := below_of b5 BC BC.size; have OO := P5.own.alloc (.cells #[.slice B5 m d5] 96))
              | (at_builtin
                 refine wpList_app rfl (.tmp 37) (.tmp 43) 35 rfl w.heap.size 96 i1 _ 1 24 Try.underlying35 hi1 hz0 hz1 hz2 rfl (by omega) u4 N V rfl OO _ 1 1 [.slice B5 m d5] rfl (Rd.one _ _ _) rfl (by simp [Value.oneCell']) (by unfold maxLen; omega) (by omega) (by have := B5'.size; simp; omega) ?_
                 intro v6 w6 ho6 hg6 hb6 hat6))
            go_roundw
            case rel =>
              refine ⟨f + m, N + 1, ps ++ [(ks.drop f).take m], V ++ [.slice B5 m d5], by omega, by omega, by go_num, ?_, HK.out, below_of hb6 (B5'.alloc B5'.size _) (Nat.le_refl _)⟩
              refine (P5.below ((Below.refl _ _).alloc (Nat.le_refl _) _)).more HM.out (by have := B5'.size; simp; omega) (own_base (ho5.alloc _) BC.size) (fun i x q hx hq hq2 => ?_) hg6 ho6
              have h1 := (PC.rows.lt i x q hx hq).2
              have h2 := (ho5.lt q hq2).1
              omega
            case measure => simp [intOf]; omega
    · obtain rfl : f = n := by omega
      have hfin : cutS ks = ps := by rw [HC.out, List.drop_of_length_le (by rw [HN.out]; exact Nat.le_refl _), cutS_nil, List.append_nil]
      have hP2 : PartsAt w.heap.size wr u4 N (cutS ks) V := by rw [hfin]; exact hP
      clear hfin hP
      obtain ⟨A4, c4, rfl, _⟩ := own_form hP2.own
      go_wp2
      go_ret2
      exact ⟨⟨A4, N, c4, V, rfl, hP2⟩, hB⟩
end Go.Proofs.Ytldkhhipfoeckaa
