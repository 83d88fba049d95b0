/-
  A book is given one more list of entries; and looks whether all are as they were. Conditions: fewer than 250 lists, each of the call's own.
-/
import Derived.Test.YtgigkekajdgngaaGreatBookEntriesA
namespace Go.Proofs.YtgigkekajdgngaaGreat
open Go Go.RowKit
attribute [local go_sem] cell_set_if

theorem rowinfo : (Tryz.prog.info? 22).map (fun i => (i.zero, i.size, i.bytes)) = some (some (.slice none 0 0), 1, 24) := by kernel_rfl
/-- The book's own blocks. -/
def bookS (g : Nat) (v1 v2 : Value) : Nat → Prop := fun k => k = g ∨ v1.ownBlock = some k ∨ v2.ownBlock = some k
set_option maxRecDepth 100000 in
set_option maxHeartbeats 2000000 in
theorem addEn_more (base g N : Nat) (f fw : Nat → List En) (v1 v2 : Value) (V W : List Value) (A : Option Addr) (n c : Nat) (xs : List En) (w : World) (h : BookEn base w g N f fw v1 v2 V W) (hN : N < 250) (hb0 : base ≤ w.heap.size) (hmi : ∀ x ∈ xs, x.mine w base)
    (hn : xs.length = n) (hn1 : n ≤ 100000) (ho : w.ownsRow base 61 5 (.slice A n c) n (flatEn xs)) (hfr : ∀ (i : Nat) (x : Value) (b : Nat), V[i]? = some x → x.ownBlock = some b → (Value.slice A n c).ownBlock ≠ some b) :
    Calls Tryz.prog 13 #[.pointer (some ⟨g, 0, none⟩), .slice A n c] w fun e w' => e = .returned (.tuple #[]) ∧ (∃ v1' v2' y ys, BookEn base w' g (N + 1) (fun j => if j = N then xs else f j) (fun j => if j = N then ys else fw j) v1' v2' (V ++ [.slice A n c]) (W ++ [y]) ∧ (∀ k, v1'.ownBlock = some k → v1.ownBlock = some k ∨ w.heap.size ≤ k) ∧ (∀ k, v2'.ownBlock = some k → v2.ownBlock = some k ∨ w.heap.size ≤ k) ∧ (∀ k, y.ownBlock = some k → w.heap.size ≤ k) ∧ ys.map plE = xs.map plE ∧ (∀ z ∈ ys, z.mine w' base) ∧ TyS w (bookS g v1 v2) [39, 22]) ∧ Frm (bookS g v1 v2) w w' := by
  obtain ⟨i1, hi1, hz0, hz1, hz2⟩ := info_parts rowinfo
  obtain ⟨A1, c1, hv1, hc1⟩ := own_form h.r1
  obtain ⟨A2, c2, hv2, hc2⟩ := own_form h.r2
  have HMI := Lib.hid hmi
  have H := Lib.hid h
  have HO := Lib.hid ho
  have HV1 := Lib.hid hv1
  have HV2 := Lib.hid hv2
  have HFR := Lib.hid hfr
  have c6 : w.cell? ⟨g, 16, none⟩ = some (.slice A1 N c1) := by rw [h.B.cell 16, hv1]; rfl
  have hNN : (N : Int) < 250 := by omega
  have R1 : w.ownsRow base 22 1 (.slice A1 N c1) N V := by have := h.r1; rwa [hv1] at this
  have hne1 : (Value.slice A1 N c1).ownBlock ≠ some g := Blk.own_ne h.B R1 (by decide)
  clear h ho hv1 hv2 hfr hmi
  go_enter Tryz.func13, Tryz.ntmps13
  go_wp2_with (at_builtin
               refine wpList_app rfl (.tmp 14) (.tmp 16) 37 rfl base 22 i1 _ 1 24 Tryz.underlying37 hi1 hz0 hz1 hz2 rfl (by omega) (.slice A1 N c1) N V rfl (R1.alloc _) _ 1 1 [.slice A n c] rfl (Rd.one _ _ _) rfl (by simp [Value.oneCell']) (by unfold maxLen; omega) (by omega) (by simp; omega) ?_
               intro v3 w3 hown3 hg3 hb3 hat3
               have G3 := (H.out.B.alloc (.cells #[.slice A n c] 22)).grown hg3 hne1
               have f36 := G3.free 16
               have g36 := G3.cell 16
               obtain ⟨A3, c3, rfl, hc3⟩ := own_form hown3)
  go_upto_region 2 with fail
  -- the world behind the first half
  have B4 : Blk (w3.setCell ⟨g, 16, none⟩ (.slice A3 (N + 1) c3)) g 39 (bookEn (.slice A3 (N + 1) c3) v2) := G3.set_ 16 (.slice A3 (N + 1) c3)
  have O4 := own_set G3 hown3 (i := 16) (by decide) (.slice A3 (N + 1) c3)
  have F3 : Frm (fun k => k = g ∨ v1.ownBlock = some k) w w3 := ((Frm.refl _ w).alloc _).grown hg3 fun k hk _ => .inr (by rw [HV1.out]; exact hk)
  have F4 : Frm (fun k => k = g ∨ v1.ownBlock = some k) w (w3.setCell ⟨g, 16, none⟩ (.slice A3 (N + 1) c3)) := F3.setCell (p := ⟨g, 16, none⟩) (fun _ => .inl rfl) _
  have hsz4 : w.heap.size + 1 ≤ (w3.setCell ⟨g, 16, none⟩ (.slice A3 (N + 1) c3)).heap.size := by have := hg3.size; simp at this ⊢; omega
  have hat : ∀ k, (Value.slice A3 (N + 1) c3).ownBlock = some k → v1.ownBlock = some k ∨ k = w.heap.size + 1 := fun k hk => by
    rcases hat3 with h | h
    · exact .inl (by rw [HV1.out, ← h]; exact hk)
    · rw [hk] at h; injection h with h; exact .inr (by simpa using h)
  generalize w3.setCell ⟨g, 16, none⟩ (.slice A3 (N + 1) c3) = W4 at B4 O4 F4 hsz4 ⊢
  have hfar : ∀ (e : TypeId) (s : Nat) (v : Value) (n : Nat) (xs : List Value), w.ownsRow base e s v n xs → e ≠ 39 → e ≠ 22 → W4.ownsRow base e s v n xs := fun e s v n xs hv he1 he2 => own_frm hv F4 fun k hk hs => by
    rcases hs with rfl | hs
    · exact Blk.own_ne H.out.B hv he1 hk
    · exact own_own H.out.r1 hv (Ne.symm he2) hs hk
  have hO4 := hfar _ _ _ _ _ HO.out (by decide) (by decide)
  have hR4 : W4.ownsRow base 22 1 v2 N W := own_frm H.out.r2 F4 fun k hk hs => by
    rcases hs with rfl | hs
    · exact Blk.own_ne H.out.B H.out.r2 (by decide) hk
    · exact H.out.ne k hs hk
  have hV4 : RowsEn W4 base V N f := H.out.rV.frm F4 fun i x b hx hb hs => by
    rcases hs with rfl | hs
    · exact H.out.rV.neB H.out.B (by decide) i x _ hx hb rfl
    · exact H.out.rV.ne H.out.r1 (by decide) i x b hx hb hs
  have hW4 : RowsEn W4 base W N fw := H.out.rW.frm F4 fun i x b hx hb hs => by
    rcases hs with rfl | hs
    · exact H.out.rW.neB H.out.B (by decide) i x _ hx hb rfl
    · exact H.out.rW.ne H.out.r1 (by decide) i x b hx hb hs
  rw [HV2.out] at hR4
  have c47 : W4.drew.cell? ⟨g, 17, none⟩ = some (.slice A2 N c2) := by have := B4.cell 17; rw [HV2.out] at this; exact this
  have hne2 : (Value.slice A2 N c2).ownBlock ≠ some g := Blk.own_ne B4 hR4 (by decide)
  have T4 : TyS w (fun k => k = g ∨ v1.ownBlock = some k) [39, 22] := TyS.two H.out.B H.out.r1
  have hM4 : ∀ x ∈ xs, x.has W4.drew := fun x hx => ((HMI.out x hx).frm F4 T4 (by decide)).has.below (Below.refl _ _).drew
  have HC := Lib.hid (copyEn_any A n c xs W4.drew (Rd.of_own hO4).drew hn hn1 hM4)
  go_region_law (first
    | (go_simp; go_at_call 25; refine HC.out.mono ?_; rintro e w5 ⟨⟨A5, n5, c5, ys, hn5, rfl, ho5, hp5, hm5⟩, b5⟩
       obtain rfl : n5 = n := by have := congrArg List.length hp5; simp only [List.length_map] at this; omega
       have l5 : w5.cell? ⟨g, 17, none⟩ = some (.slice A2 N c2) := cell_b b5 c47
       have l5a : (w5.alloc (.cells #[.slice A5 n5 c5] 22)).cell? ⟨g, 17, none⟩ = some (.slice A2 N c2) := cell_b ((Below.refl _ _).alloc (Nat.le_refl _) _) l5
       have R5 := own_frm (show W4.drew.ownsRow base 22 1 (.slice A2 N c2) N W from hR4) (S := no) (Frm.of_below b5) (fun _ _ h => h)
       have B5 := (show Blk W4.drew g 39 _ from B4).below b5
       have s5 : w.heap.size + 1 ≤ w5.heap.size := by have := b5.size; simp at this; omega)
    | (refine step_app rfl (.tmp 24) (.tmp 27) 37 rfl base 22 i1 _ 1 24 Tryz.underlying37 hi1 hz0 hz1 hz2 rfl (by omega) (.slice A2 N c2) N W rfl (R5.alloc _) _ 1 1 [.slice A5 n5 c5] rfl (Rd.one _ _ _) rfl (by simp [Value.oneCell']) (by unfold maxLen; omega) (by omega) (by simp; omega) ?_
       intro v6 w6 hown6 hg6 hb6 hat6
       obtain ⟨A6, c6', rfl, hc6⟩ := own_form hown6
       have G6 := (B5.alloc (.cells #[.slice A5 n5 c5] 22)).grown hg6 hne2
       have f67 := G6.free 17
       have g67 : w6.cell? ⟨g, 17, none⟩ = some (.slice A2 N c2) := by have := G6.cell 17; rw [HV2.out] at this; exact this))
  all_goals
    go_end0
    have hb4 : base ≤ W4.heap.size := by omega
    have l1 := fun k hk => (H.out.r1.lt k hk).2
    have l2 := fun k hk => (H.out.r2.lt k hk).2
    have s45 : W4.heap.size ≤ w5.heap.size := b5.size
    have hat' : ∀ k, (Value.slice A6 (N + 1) c6').ownBlock = some k → v2.ownBlock = some k ∨ k = w5.heap.size + 1 := fun k hk => by
      rcases hat6 with h | h
      · exact .inl (by rw [HV2.out, ← h]; exact hk)
      · rw [hk] at h; injection h with h; exact .inr (by simpa using h)
    have F5 : Frm (fun k => k = g ∨ v2.ownBlock = some k) w5 (w6.setCell ⟨g, 17, none⟩ (.slice A6 (N + 1) c6')) := ((((Frm.refl _ w5).alloc _).grown hg6 fun k hk _ => .inr (by rw [HV2.out]; exact hk))).setCell (p := ⟨g, 17, none⟩) (fun _ => .inl rfl) _
    have T5 : TyS w5 (fun k => k = g ∨ v2.ownBlock = some k) [39, 22] := by have := TyS.two B5 R5; rwa [← HV2.out] at this
    have TB : TyS w (bookS g v1 v2) [39, 22] := fun q _ hs => by
      rcases hs with rfl | hs | hs
      · exact ⟨_, by simp, H.out.B.ty⟩
      · exact ⟨_, by simp, own_ty H.out.r1 hs⟩
      · exact ⟨_, by simp, own_ty H.out.r2 hs⟩
    have F7 : Frm (fun k => k = g ∨ v2.ownBlock = some k) W4 (w6.setCell ⟨g, 17, none⟩ (.slice A6 (N + 1) c6')) := (((Frm.refl _ W4).drew).step b5).then_ F5
    have hR4' : W4.ownsRow base 22 1 v2 N W := by rw [HV2.out]; exact hR4
    have O7 := own_frm O4 F7 fun k hk hs => by
      rcases hs with rfl | hs
      · exact Blk.own_ne B4 O4 (by decide) hk
      · rcases hat k hk with h | h
        · exact H.out.ne k h hs
        · have := l2 k hs; omega
    have V7 : RowsEn (w6.setCell ⟨g, 17, none⟩ (.slice A6 (N + 1) c6')) base V N f := hV4.frm F7 fun i x b hx hb hs => by
      rcases hs with rfl | hs
      · exact hV4.neB B4 (by decide) i x _ hx hb rfl
      · exact hV4.ne hR4' (by decide) i x b hx hb hs
    have W7 : RowsEn (w6.setCell ⟨g, 17, none⟩ (.slice A6 (N + 1) c6')) base W N fw := hW4.frm F7 fun i x b hx hb hs => by
      rcases hs with rfl | hs
      · exact hW4.neB B4 (by decide) i x _ hx hb rfl
      · exact hW4.ne hR4' (by decide) i x b hx hb hs
    have X7 := own_frm hO4 F7 fun k hk hs => by
      rcases hs with rfl | hs
      · exact Blk.own_ne B4 hO4 (by decide) hk
      · exact own_own hR4' hO4 (by decide) hs hk
    have Y7 := own_frm ho5 F5 fun k hk hs => by
      have h5 := (ho5.lt k hk).1
      have h5' : W4.heap.size ≤ k := h5
      rcases hs with rfl | hs
      · have := B4.lt; omega
      · have := l2 k hs; omega
    refine ⟨rfl, ⟨_, _, .slice A5 n5 c5, ys, ⟨H.out.lo, G6.set_ 17 _, O7, own_set G6 hown6 (i := 17) (by decide) _, V7.snoc hn X7, W7.snoc hn5 (own_base Y7 hb4), ApartV.snoc H.out.ap HFR.out, fun k hk hk2 => ?_⟩, fun k hk => ?_, fun k hk => ?_, fun k hk => by have h5 := (ho5.lt k hk).1; have h5' : W4.heap.size ≤ k := h5; omega, hp5, fun z hz => ((hm5 z hz).low hb4).frm F5 T5 (by decide), TB⟩, (F4.mono fun i _ hs => ?_).then_ (F7.mono fun i _ hs => ?_)⟩
    · rcases hat k hk with h | h
      · rcases hat' k hk2 with h2 | h2
        · exact H.out.ne k h h2
        · have := l1 k h; omega
      · rcases hat' k hk2 with h2 | h2
        · have := l2 k h2; omega
        · omega
    · rcases hat k hk with h | h
      · exact .inl h
      · exact .inr (by omega)
    · rcases hat' k hk with h | h
      · exact .inl h
      · exact .inr (by omega)
    · rcases hs with hs | hs
      · exact .inl hs
      · exact .inr (.inl hs)
    · rcases hs with hs | hs
      · exact .inl hs
      · exact .inr (.inr hs)
set_option maxRecDepth 100000 in
set_option maxHeartbeats 1000000 in
theorem stillEn_any (base g N : Nat) (f fw : Nat → List En) (v1 v2 : Value) (V W : List Value) (w : World) (h : BookEn base w g N f fw v1 v2 V W) (hN : N < 1000) (hf : ∀ i, (f i).length ≤ 100000) (hal : ∀ i, i < N → (f i).map plE = (fw i).map plE ∧ (∀ x ∈ f i, x.has w) ∧ (∀ y ∈ fw i, y.has w)) :
    Calls Tryz.prog 57 #[.pointer (some ⟨g, 0, none⟩)] w fun e w' => e = .returned (.bool true) ∧ Qt w w' := by
  obtain ⟨A1, c1, hv1, hc1⟩ := own_form h.r1
  obtain ⟨A2, c2, hv2, hc2⟩ := own_form h.r2
  have H := Lib.hid h
  have c6 : w.cell? ⟨g, 16, none⟩ = some (.slice A1 N c1) := by rw [h.B.cell 16, hv1]; rfl
  have c7 : w.cell? ⟨g, 17, none⟩ = some (.slice A2 N c2) := by rw [h.B.cell 17, hv2]; rfl
  have R1 : Rd w A1 V := Rd.of_own (by have := h.r1; rwa [hv1] at this)
  have R2 : Rd w A2 W := Rd.of_own (by have := h.r2; rwa [hv2] at this)
  have HF := Lib.hid hf
  have HAL := Lib.hid hal
  have hNN : (N : Int) < 1000 := by omega
  have HR1 := Lib.hid R1
  have HR2 := Lib.hid R2
  clear h hv1 hv2 hf hal R1 R2
  go_enter Tryz.func57, Tryz.ntmps57
  go_wp2
  go_loopw [2, 3] (fun u2 u3 wr => ∃ k : Nat, k ≤ N ∧ u3 = .int .i64 k ∧ Qt w wr) (fun _ u3 _ => N - (intOf u3).toNat)
  case atStart => exact ⟨0, by omega, rfl, Qt.refl _⟩
  case round =>
    obtain ⟨k, hk, rfl, hQ⟩ := hrel
    have hqc : ∀ p, wr.cell? p = w.cell? p := fun p => by obtain ⟨m, rfl⟩ := hQ; rfl
    have e6 : wr.cell? ⟨g, 16, none⟩ = some (.slice A1 N c1) := by rw [hqc]; exact c6
    have e7 : wr.cell? ⟨g, 17, none⟩ = some (.slice A2 N c2) := by rw [hqc]; exact c7
    by_cases hlt : k < N
    · obtain ⟨B1, d1, hV, hO⟩ := H.out.rV.at_ k hlt
      obtain ⟨B2, d2, hW, hP⟩ := H.out.rW.at_ k hlt
      obtain ⟨b1, o1, rfl, _, hcs1⟩ := HR1.out.flat (by rw [H.out.rV.len]; omega)
      obtain ⟨b2, o2, rfl, _, hcs2⟩ := HR2.out.flat (by rw [H.out.rW.len]; omega)
      have x1 : wr.cell? ⟨b1, o1 + k, none⟩ = some (.slice B1 (f k).length d1) := by rw [hqc]; exact hcs1 k _ hV
      have hal := HAL.out k hlt
      have hll : (fw k).length = (f k).length := by have := congrArg List.length hal.1; simp only [List.length_map] at this; omega
      rw [hll] at hW hP
      have x2 : wr.cell? ⟨b2, o2 + k, none⟩ = some (.slice B2 (f k).length d2) := by rw [hqc]; exact hcs2 k _ hW
      have hki : (k : Int) < (N : Int) := by omega
      have hS : ∀ m, Calls Tryz.prog 48 #[.slice B1 (f k).length d1, .slice B2 (f k).length d2] (wr.drewN m) fun e w' => e = .returned (.bool true) ∧ ∃ q, w' = (wr.drewN m).drewN q := fun m =>
        sameens_yes B1 B2 _ d1 d2 (f k) (fw k) _ (((Rd.of_own hO).below (hQ.below _)).drewN m) (((Rd.of_own hP).below (hQ.below _)).drewN m) rfl (by have := HF.out k; omega) hal.1 (fun x hx => ((hal.2.1 x hx).below (hQ.below _)).below (Qt.drewN _ m |>.below _)) (fun x hx => ((hal.2.2 x hx).below (hQ.below _)).below (Qt.drewN _ m |>.below _))
      have HS := Lib.hid hS
      generalize (f k).length = L at *
      clear hqc hcs1 hcs2 hV hW hO hP hS hal hll
      go_wp2
      go_quiet ((go_at_call 48; exact Calls.quiet_of (HS.out _)))
      go_wp2
      go_roundw
      case rel => exact ⟨k + 1, by omega, by go_num, hQ.trans (Qt.drewN _ _)⟩
      case measure => simp [intOf]; omega
    · obtain rfl : k = N := by omega
      clear hqc
      go_wp2
      go_ret
      exact ⟨rfl, hQ⟩
end Go.Proofs.YtgigkekajdgngaaGreat
