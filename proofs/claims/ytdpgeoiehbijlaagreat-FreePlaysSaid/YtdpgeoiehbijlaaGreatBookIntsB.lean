/-
  A book is given one more list of ints; and looks whether all are as they were. Conditions: fewer than 250 lists, each of the call's own.
-/
import Derived.Test.YtdpgeoiehbijlaaGreatBookIntsA
namespace Go.Proofs.YtdpgeoiehbijlaaGreat
open Go Go.RowKit
attribute [local go_sem] cell_set_if

theorem rowinfo : (Tryz.prog.info? 22).map (fun i => (i.zero, i.size, i.bytes)) = some (some (.slice none 0 0), 1, 24) := by kernel_rfl
/-- The book's own blocks. -/
def bookS (g : Nat) (v1 v2 : Value) : Nat → Prop := fun k => k = g ∨ v1.ownBlock = some k ∨ v2.ownBlock = some k
set_option maxRecDepth 100000 in
set_option maxHeartbeats 2000000 in
theorem addZ_more (base g N : Nat) (f : Nat → List Int) (v1 v2 : Value) (V W : List Value) (A : Option Addr) (n c : Nat) (xs : List Int) (w : World) (h : BookZ base w g N f v1 v2 V W) (hN : N < 250) (hb0 : base ≤ w.heap.size)
    (hn : xs.length = n) (hn1 : n ≤ 100000) (ho : w.ownsRow base 3 1 (.slice A n c) n (flatZ xs)) (hfr : ∀ (i : Nat) (x : Value) (b : Nat), V[i]? = some x → x.ownBlock = some b → (Value.slice A n c).ownBlock ≠ some b) :
    Calls Tryz.prog 21 #[.pointer (some ⟨g, 0, none⟩), .slice A n c] w fun e w' => e = .returned (.tuple #[]) ∧ (∃ v1' v2' y, BookZ base w' g (N + 1) (fun j => if j = N then xs else f j) v1' v2' (V ++ [.slice A n c]) (W ++ [y]) ∧ (∀ k, v1'.ownBlock = some k → v1.ownBlock = some k ∨ w.heap.size ≤ k) ∧ (∀ k, v2'.ownBlock = some k → v2.ownBlock = some k ∨ w.heap.size ≤ k) ∧ (∀ k, y.ownBlock = some k → w.heap.size ≤ k)) ∧ Frm (bookS g v1 v2) w w' := by
  obtain ⟨i1, hi1, hz0, hz1, hz2⟩ := info_parts rowinfo
  obtain ⟨A1, c1, hv1, hc1⟩ := own_form h.r1
  obtain ⟨A2, c2, hv2, hc2⟩ := own_form h.r2
  have H := Lib.hid h
  have HO := Lib.hid ho
  have HV1 := Lib.hid hv1
  have HV2 := Lib.hid hv2
  have HFR := Lib.hid hfr
  have c6 : w.cell? ⟨g, 2, none⟩ = some (.slice A1 N c1) := by rw [h.B.cell 2, hv1]; rfl
  have hNN : (N : Int) < 250 := by omega
  have R1 : w.ownsRow base 22 1 (.slice A1 N c1) N V := by have := h.r1; rwa [hv1] at this
  have hne1 : (Value.slice A1 N c1).ownBlock ≠ some g := Blk.own_ne h.B R1 (by decide)
  clear h ho hv1 hv2 hfr
  go_enter Tryz.func21, Tryz.ntmps21
  go_wp2_with (at_builtin
               refine wpList_app rfl (.tmp 14) (.tmp 16) 40 rfl base 22 i1 _ 1 24 Tryz.underlying40 hi1 hz0 hz1 hz2 rfl (by omega) (.slice A1 N c1) N V rfl (R1.alloc _) _ 1 1 [.slice A n c] rfl (Rd.one _ _ _) rfl (by simp [Value.oneCell']) (by unfold maxLen; omega) (by omega) (by simp; omega) ?_
               intro v3 w3 hown3 hg3 hb3 hat3
               have G3 := (H.out.B.alloc (.cells #[.slice A n c] 22)).grown hg3 hne1
               have f36 := G3.free 2
               have g36 := G3.cell 2
               obtain ⟨A3, c3, rfl, hc3⟩ := own_form hown3)
  go_upto_region 2 with fail
  -- the world behind the first half
  have B4 : Blk (w3.setCell ⟨g, 2, none⟩ (.slice A3 (N + 1) c3)) g 49 (bookZ (.slice A3 (N + 1) c3) v2) := G3.set_ 2 (.slice A3 (N + 1) c3)
  have O4 := own_set G3 hown3 (i := 2) (by decide) (.slice A3 (N + 1) c3)
  have F3 : Frm (fun k => k = g ∨ v1.ownBlock = some k) w w3 := ((Frm.refl _ w).alloc _).grown hg3 fun k hk _ => .inr (by rw [HV1.out]; exact hk)
  have F4 : Frm (fun k => k = g ∨ v1.ownBlock = some k) w (w3.setCell ⟨g, 2, none⟩ (.slice A3 (N + 1) c3)) := F3.setCell (p := ⟨g, 2, none⟩) (fun _ => .inl rfl) _
  have hsz4 : w.heap.size + 1 ≤ (w3.setCell ⟨g, 2, none⟩ (.slice A3 (N + 1) c3)).heap.size := by have := hg3.size; simp at this ⊢; omega
  have hat : ∀ k, (Value.slice A3 (N + 1) c3).ownBlock = some k → v1.ownBlock = some k ∨ k = w.heap.size + 1 := fun k hk => by
    rcases hat3 with h | h
    · exact .inl (by rw [HV1.out, ← h]; exact hk)
    · rw [hk] at h; injection h with h; exact .inr (by simpa using h)
  generalize w3.setCell ⟨g, 2, none⟩ (.slice A3 (N + 1) c3) = W4 at B4 O4 F4 hsz4 ⊢
  have hfar : ∀ (e : TypeId) (s : Nat) (v : Value) (n : Nat) (xs : List Value), w.ownsRow base e s v n xs → e ≠ 49 → e ≠ 22 → W4.ownsRow base e s v n xs := fun e s v n xs hv he1 he2 => own_frm hv F4 fun k hk hs => by
    rcases hs with rfl | hs
    · exact Blk.own_ne H.out.B hv he1 hk
    · exact own_own H.out.r1 hv (Ne.symm he2) hs hk
  have hO4 := hfar _ _ _ _ _ HO.out (by decide) (by decide)
  have hR4 : W4.ownsRow base 22 1 v2 N W := own_frm H.out.r2 F4 fun k hk hs => by
    rcases hs with rfl | hs
    · exact Blk.own_ne H.out.B H.out.r2 (by decide) hk
    · exact H.out.ne k hs hk
  have hV4 : RowsZ W4 base V N f := H.out.rV.frm F4 fun i x b hx hb hs => by
    rcases hs with rfl | hs
    · exact H.out.rV.neB H.out.B (by decide) i x _ hx hb rfl
    · exact H.out.rV.ne H.out.r1 (by decide) i x b hx hb hs
  have hW4 : RowsZ W4 base W N f := H.out.rW.frm F4 fun i x b hx hb hs => by
    rcases hs with rfl | hs
    · exact H.out.rW.neB H.out.B (by decide) i x _ hx hb rfl
    · exact H.out.rW.ne H.out.r1 (by decide) i x b hx hb hs
  rw [HV2.out] at hR4
  have c47 : W4.drew.cell? ⟨g, 3, none⟩ = some (.slice A2 N c2) := by have := B4.cell 3; rw [HV2.out] at this; exact this
  have hne2 : (Value.slice A2 N c2).ownBlock ≠ some g := Blk.own_ne B4 hR4 (by decide)
  have HC := Lib.hid (copyZ_any A n c xs W4.drew (Rd.of_own hO4).drew hn hn1)
  go_region_law (first
    | ((try go_simp); go_at_call 28; refine HC.out.mono ?_; rintro e w5 ⟨⟨A5, n5, c5, hn5, rfl, ho5⟩, b5⟩
       obtain rfl : n5 = n := by omega
       have l5 : w5.cell? ⟨g, 3, none⟩ = some (.slice A2 N c2) := cell_b b5 c47
       have l5a : (w5.alloc (.cells #[.slice A5 n5 c5] 22)).cell? ⟨g, 3, none⟩ = some (.slice A2 N c2) := cell_b ((Below.refl _ _).alloc (Nat.le_refl _) _) l5
       have R5 := own_frm (show W4.drew.ownsRow base 22 1 (.slice A2 N c2) N W from hR4) (S := no) (Frm.of_below b5) (fun _ _ h => h)
       have B5 := (show Blk W4.drew g 49 _ from B4).below b5
       have s5 : w.heap.size + 1 ≤ w5.heap.size := by have := b5.size; simp at this; omega)
    | (refine step_app rfl (.tmp 24) (.tmp 27) 40 rfl base 22 i1 _ 1 24 Tryz.underlying40 hi1 hz0 hz1 hz2 rfl (by omega) (.slice A2 N c2) N W rfl (R5.alloc _) _ 1 1 [.slice A5 n5 c5] rfl (Rd.one _ _ _) rfl (by simp [Value.oneCell']) (by unfold maxLen; omega) (by omega) (by simp; omega) ?_
       intro v6 w6 hown6 hg6 hb6 hat6
       obtain ⟨A6, c6', rfl, hc6⟩ := own_form hown6
       have G6 := (B5.alloc (.cells #[.slice A5 n5 c5] 22)).grown hg6 hne2
       have f67 := G6.free 3
       have g67 : w6.cell? ⟨g, 3, none⟩ = some (.slice A2 N c2) := by have := G6.cell 3; rw [HV2.out] at this; exact this))
  all_goals
    go_end0
    have hb4 : base ≤ W4.heap.size := by omega
    have l1 := fun k hk => (H.out.r1.lt k hk).2
    have l2 := fun k hk => (H.out.r2.lt k hk).2
    have s45 : W4.heap.size ≤ w5.heap.size := b5.size
    have hat' : ∀ k, (Value.slice A6 (N + 1) c6').ownBlock = some k → v2.ownBlock = some k ∨ k = w5.heap.size + 1 := fun k hk => by
      rcases hat6 with h | h
      · exact .inl (by rw [HV2.out, ← h]; exact hk)
      · rw [hk] at h; injection h with h; exact .inr (by simpa using h)
    have F5 : Frm (fun k => k = g ∨ v2.ownBlock = some k) w5 (w6.setCell ⟨g, 3, none⟩ (.slice A6 (N + 1) c6')) := ((((Frm.refl _ w5).alloc _).grown hg6 fun k hk _ => .inr (by rw [HV2.out]; exact hk))).setCell (p := ⟨g, 3, none⟩) (fun _ => .inl rfl) _
    have F7 : Frm (fun k => k = g ∨ v2.ownBlock = some k) W4 (w6.setCell ⟨g, 3, none⟩ (.slice A6 (N + 1) c6')) := (((Frm.refl _ W4).drew).step b5).then_ F5
    have hR4' : W4.ownsRow base 22 1 v2 N W := by rw [HV2.out]; exact hR4
    have O7 := own_frm O4 F7 fun k hk hs => by
      rcases hs with rfl | hs
      · exact Blk.own_ne B4 O4 (by decide) hk
      · rcases hat k hk with h | h
        · exact H.out.ne k h hs
        · have := l2 k hs; omega
    have V7 : RowsZ (w6.setCell ⟨g, 3, none⟩ (.slice A6 (N + 1) c6')) base V N f := hV4.frm F7 fun i x b hx hb hs => by
      rcases hs with rfl | hs
      · exact hV4.neB B4 (by decide) i x _ hx hb rfl
      · exact hV4.ne hR4' (by decide) i x b hx hb hs
    have W7 : RowsZ (w6.setCell ⟨g, 3, none⟩ (.slice A6 (N + 1) c6')) base W N f := hW4.frm F7 fun i x b hx hb hs => by
      rcases hs with rfl | hs
      · exact hW4.neB B4 (by decide) i x _ hx hb rfl
      · exact hW4.ne hR4' (by decide) i x b hx hb hs
    have X7 := own_frm hO4 F7 fun k hk hs => by
      rcases hs with rfl | hs
      · exact Blk.own_ne B4 hO4 (by decide) hk
      · exact own_own hR4' hO4 (by decide) hs hk
    have Y7 := own_frm ho5 F5 fun k hk hs => by
      have h5 := (ho5.lt k hk).1
      have h5' : W4.heap.size ≤ k := h5
      rcases hs with rfl | hs
      · have := B4.lt; omega
      · have := l2 k hs; omega
    refine ⟨rfl, ⟨_, _, .slice A5 n5 c5, ⟨H.out.lo, G6.set_ 3 _, O7, own_set G6 hown6 (i := 3) (by decide) _, V7.snoc hn X7, W7.snoc hn (own_base Y7 hb4), ApartV.snoc H.out.ap HFR.out, fun k hk hk2 => ?_⟩, fun k hk => ?_, fun k hk => ?_, fun k hk => by have h5 := (ho5.lt k hk).1; have h5' : W4.heap.size ≤ k := h5; omega⟩, (F4.mono fun i _ hs => ?_).then_ (F7.mono fun i _ hs => ?_)⟩
    · rcases hat k hk with h | h
      · rcases hat' k hk2 with h2 | h2
        · exact H.out.ne k h h2
        · have := l1 k h; omega
      · rcases hat' k hk2 with h2 | h2
        · have := l2 k h2; omega
        · omega
    · rcases hat k hk with h | h
      · exact .inl h
      · exact .inr (by omega)
    · rcases hat' k hk with h | h
      · exact .inl h
      · exact .inr (by omega)
    · rcases hs with hs | hs
      · exact .inl hs
      · exact .inr (.inl hs)
    · rcases hs with hs | hs
      · exact .inl hs
      · exact .inr (.inr hs)
theorem addZ_any (base g N : Nat) (f : Nat → List Int) (v1 v2 : Value) (V W : List Value) (A : Option Addr) (n c : Nat) (xs : List Int) (w : World) (h : BookZ base w g N f v1 v2 V W) (hN : N < 250) (hb0 : base ≤ w.heap.size)
    (hn : xs.length = n) (hn1 : n ≤ 100000) (ho : w.ownsRow base 3 1 (.slice A n c) n (flatZ xs)) (hfr : ∀ (i : Nat) (x : Value) (b : Nat), V[i]? = some x → x.ownBlock = some b → (Value.slice A n c).ownBlock ≠ some b) :
    Calls Tryz.prog 21 #[.pointer (some ⟨g, 0, none⟩), .slice A n c] w fun e w' => e = .returned (.tuple #[]) ∧ (∃ v1' v2' W', BookZ base w' g (N + 1) (fun j => if j = N then xs else f j) v1' v2' (V ++ [.slice A n c]) W' ∧ (∀ k, v1'.ownBlock = some k → v1.ownBlock = some k ∨ w.heap.size ≤ k) ∧ (∀ k, v2'.ownBlock = some k → v2.ownBlock = some k ∨ w.heap.size ≤ k)) ∧ Frm (bookS g v1 v2) w w' :=
  (addZ_more base g N f v1 v2 V W A n c xs w h hN hb0 hn hn1 ho hfr).mono fun _ _ ⟨h1, ⟨a, b, y, h2, h3, h4, _⟩, h5⟩ => ⟨h1, ⟨a, b, _, h2, h3, h4⟩, h5⟩
set_option maxRecDepth 100000 in
set_option maxHeartbeats 1000000 in
theorem stillZ_any (base g N : Nat) (f : Nat → List Int) (v1 v2 : Value) (V W : List Value) (w : World) (h : BookZ base w g N f v1 v2 V W) (hN : N < 1000) (hf : ∀ i, (f i).length ≤ 100000) :
    Calls Tryz.prog 41 #[.pointer (some ⟨g, 0, none⟩)] w fun e w' => e = .returned (.bool true) ∧ Qt w w' := by
  obtain ⟨A1, c1, hv1, hc1⟩ := own_form h.r1
  obtain ⟨A2, c2, hv2, hc2⟩ := own_form h.r2
  have H := Lib.hid h
  have c6 : w.cell? ⟨g, 2, none⟩ = some (.slice A1 N c1) := by rw [h.B.cell 2, hv1]; rfl
  have c7 : w.cell? ⟨g, 3, none⟩ = some (.slice A2 N c2) := by rw [h.B.cell 3, hv2]; rfl
  have R1 : Rd w A1 V := Rd.of_own (by have := h.r1; rwa [hv1] at this)
  have R2 : Rd w A2 W := Rd.of_own (by have := h.r2; rwa [hv2] at this)
  have HF := Lib.hid hf
  have hNN : (N : Int) < 1000 := by omega
  have HR1 := Lib.hid R1
  have HR2 := Lib.hid R2
  clear h hv1 hv2 hf R1 R2
  go_enter Tryz.func41, Tryz.ntmps41
  go_wp2
  go_loopw [2, 3] (fun u2 u3 wr => ∃ k : Nat, k ≤ N ∧ u3 = .int .i64 k ∧ Qt w wr) (fun _ u3 _ => N - (intOf u3).toNat)
  case atStart => exact ⟨0, by omega, rfl, Qt.refl _⟩
  case round =>
    obtain ⟨k, hk, rfl, hQ⟩ := hrel
    have hqc : ∀ p, wr.cell? p = w.cell? p := fun p => by obtain ⟨m, rfl⟩ := hQ; rfl
    have e6 : wr.cell? ⟨g, 2, none⟩ = some (.slice A1 N c1) := by rw [hqc]; exact c6
    have e7 : wr.cell? ⟨g, 3, none⟩ = some (.slice A2 N c2) := by rw [hqc]; exact c7
    by_cases hlt : k < N
    · obtain ⟨B1, d1, hV, hO⟩ := H.out.rV.at_ k hlt
      obtain ⟨B2, d2, hW, hP⟩ := H.out.rW.at_ k hlt
      obtain ⟨b1, o1, rfl, _, hcs1⟩ := HR1.out.flat (by rw [H.out.rV.len]; omega)
      obtain ⟨b2, o2, rfl, _, hcs2⟩ := HR2.out.flat (by rw [H.out.rW.len]; omega)
      have x1 : wr.cell? ⟨b1, o1 + k, none⟩ = some (.slice B1 (f k).length d1) := by rw [hqc]; exact hcs1 k _ hV
      have x2 : wr.cell? ⟨b2, o2 + k, none⟩ = some (.slice B2 (f k).length d2) := by rw [hqc]; exact hcs2 k _ hW
      have hki : (k : Int) < (N : Int) := by omega
      have hS : ∀ m, Calls Tryz.prog 22 #[.slice B1 (f k).length d1, .slice B2 (f k).length d2] (wr.drewN m) fun e w' => e = .returned (.bool true) ∧ ∃ q, w' = (wr.drewN m).drewN q := fun m =>
        sameZ_yes B1 B2 _ d1 d2 (f k) _ (((Rd.of_own hO).below (hQ.below _)).drewN m) (((Rd.of_own hP).below (hQ.below _)).drewN m) rfl (by have := HF.out k; omega)
      have HS := Lib.hid hS
      generalize (f k).length = L at *
      clear hqc hcs1 hcs2 hV hW hO hP hS
      go_wp2
      go_quiet ((go_at_call 22; exact Calls.quiet_of (HS.out _)))
      go_wp2
      go_roundw
      case rel => exact ⟨k + 1, by omega, by go_num, hQ.trans (Qt.drewN _ _)⟩
      case measure => simp [intOf]; omega
    · obtain rfl : k = N := by omega
      clear hqc
      go_wp2
      go_ret
      exact ⟨rfl, hQ⟩
end Go.Proofs.YtdpgeoiehbijlaaGreat
