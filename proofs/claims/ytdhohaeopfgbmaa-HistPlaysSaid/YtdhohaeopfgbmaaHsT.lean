/-
  The document's log of any entries: Trim. Conditions: no more than a million entries.
-/
import Derived.Test.YtdhohaeopfgbmaaHsS
namespace Go.Proofs.Ytdhohaeopfgbmaa
open Go Go.RowKit
attribute [local go_sem] cell_set_if

theorem rtrim_no (w : World) (base g : Nat) (idx trm : Int) (es : List En) (A : Option Addr) (c : Nat) (h : RefM w base g idx trm es A c) (i : Int) (hi : i ≤ idx ∨ idx + es.length < i) :
    Calls Try.prog 17 #[.pointer (some ⟨g, 0, none⟩), .int .i64 i] w fun e w' => e = .returned (.int .i64 0) ∧ Qt w w' := by
  have c0 := h.blk.cell 0
  simp at c0
  have HH := Lib.hid h
  clear h
  by_cases h1 : i ≤ idx
  · clear hi
    have t1 : decide (i ≤ idx) = true := decide_eq_true h1
    go_enter Try.func17, Try.ntmps17
    go_wp2
    go_ret
    exact ⟨rfl, Qt.refl _⟩
  · have h2 : idx + es.length < i := by omega
    have t1 : decide (i ≤ idx) = false := decide_eq_false h1
    have t2 : decide (idx + (es.length : Int) < i) = true := decide_eq_true h2
    clear hi
    go_enter Try.func17, Try.ntmps17
    go_wp2_with (go_at_call 8; refine (rlast_m _ _ _ _ _ _ _ _ HH.out).mono ?_; rintro e w1 ⟨rfl, q1⟩)
    go_ret
    exact ⟨rfl, q1⟩
set_option maxRecDepth 100000 in
set_option maxHeartbeats 4000000 in
theorem rtrim_at (w : World) (base g : Nat) (idx trm : Int) (es : List En) (A : Option Addr) (c : Nat) (h : RefM w base g idx trm es A c) (k : Nat) (hk0 : 0 < k) (hk : k ≤ es.length) (hmax : idx + es.length ≤ 1152921504606846976) (x : En) (hx : es[k - 1]? = some x) :
    Calls Try.prog 17 #[.pointer (some ⟨g, 0, none⟩), .int .i64 (idx + k)] w fun e w' => e = .returned (.int .i64 k) ∧ ∃ A2 c2, RefM w' base g (idx + k) x.term (es.drop k) A2 c2 ∧ Frm (at1 g) w w' ∧ (∀ a, A2 = some a → w.heap.size ≤ a.block ∧ TyAt w' a.block 53) := by
  have c0 := h.blk.cell 0
  have i0 := h.i0
  have i1 := h.i1
  have n1 := h.n1
  have nc := h.nc
  have cm := h.cm
  unfold maxLen at cm
  simp at c0
  have HH := Lib.hid h
  have hdl : (es.drop k).length = es.length - k := by simp
  have HDL := Lib.hid hdl
  obtain ⟨b, o, y, rfl, _, hy, d0, d1, d2, d3, d4⟩ := h.rd.en (k := k - 1) (by omega)
  obtain rfl : y = x := Option.some.inj (hy.symm.trans hx)
  have TD : ∀ n, (w.drewN n).cell? ⟨b, o + (k - 1) * 5 + 1, none⟩ = some (.int .i64 y.term) := fun n => by rw [World.cell?_drewN]; exact d1
  have TD := Lib.hid TD
  obtain ⟨i0', hi0, hz0, hz1, hz2⟩ := info_parts enInfo
  have e1 : IntKind.i64.wrap (idx + k - idx) = (k : Int) := by rw [show idx + (k : Int) - idx = k by omega]; exact IntWalk.i64_in _ (by omega)
  have e2 : IntKind.i64.wrap ((k : Int) - 1) = ((k - 1 : Nat) : Int) := by rw [show (k : Int) - 1 = ((k - 1 : Nat) : Int) by omega]; exact IntWalk.i64_in _ (by omega)
  have t1 : decide (idx + (k : Int) ≤ idx) = false := decide_eq_false (by omega)
  have t2 : decide (idx + (es.length : Int) < idx + k) = false := decide_eq_false (by omega)
  have hkm : (((k - 1 : Nat)) : Int) < (es.length : Int) := by omega
  have hkl : (k : Int) ≤ (es.length : Int) := by omega
  have hkc : (k : Int) ≤ (c : Int) := by omega
  clear h hdl hx hy d0 d1 d2 d3 d4
  obtain ⟨j, hj⟩ : ∃ j, j = k - 1 := ⟨_, rfl⟩
  rw [← hj] at e2 hkm TD
  have HJ := Lib.hid hj
  clear hj
  go_enter Try.func17, Try.ntmps17
  go_upto_region 4 with (go_at_call 8; refine (rlast_m _ _ _ _ _ _ _ _ HH.out).mono ?_; rintro e w1 ⟨rfl, nq, rfl⟩; have c0 : (w.drewN nq).cell? ⟨g, 0, none⟩ = some (.int .i64 idx) := (HH.out.drewN nq).blk.cell 0)
  have L1 := HH.out.drewN nq
  have c2 := L1.blk.cell 2
  have c1 := L1.blk.cell 1
  have f1 := L1.blk.free 1
  have t3 := TD.out nq
  simp at c1 c2
  rw [World.cell?_drewN] at t3
  go_upto_region 5 with fail
  have K1 : Blk ((w.drewN nq).setCell ⟨g, 1, none⟩ (.int .i64 y.term)) g 46 #[.int .i64 idx, .int .i64 y.term, .slice (some ⟨b, o, none⟩) es.length c] := L1.blk.set_ 1 _
  have F1 : Frm (at1 g) w ((w.drewN nq).setCell ⟨g, 1, none⟩ (.int .i64 y.term)) := (((Frm.refl (at1 g) w).drewN nq).setCell (p := ⟨g, 1, none⟩) (fun _ => rfl) _)
  have R1 : Rd ((w.drewN nq).setCell ⟨g, 1, none⟩ (.int .i64 y.term)) (some ⟨b, o, none⟩) (flatEn es) := HH.out.rd.frm F1 (fun a ha => (HH.out.hi a ha).2)
  generalize (w.drewN nq).setCell ⟨g, 1, none⟩ (.int .i64 y.term) = W1 at K1 F1 R1 ⊢
  clear c0 c1 c2 f1 t3 t1 t2 L1
  have c0 := K1.cell 0
  have c2 := K1.cell 2
  simp at c0 c2
  have HR1 := Lib.hid R1
  by_cases hck : c = k
  · have hek : es.length = k := by omega
    subst hck
    have HEK := Lib.hid hek
    have hemp : Hid (flatEn (es.drop c) = []) := by unfold Hid; rw [List.drop_of_length_le (by omega)]; rfl
    obtain ⟨n, hn⟩ : ∃ n, n = es.length := ⟨_, rfl⟩
    rw [← hn] at c2 hek hkl hkm
    clear hn
    subst hek
    have gf0 := K1.free 0
    have gf2 := K1.free 2
    go_wp2
    go_ret
    have F2 : Frm (at1 g) w ((W1.setCell ⟨g, 0, none⟩ (.int .i64 (idx + n))).setCell ⟨g, 2, none⟩ (.slice none 0 0)) := (F1.setCell (p := ⟨g, 0, none⟩) (fun _ => rfl) _).setCell (p := ⟨g, 2, none⟩) (fun _ => rfl) _
    have hd0 : es.drop n = [] := List.drop_of_length_le (by have := HEK.out; omega)
    exact ⟨rfl, none, 0, ⟨by rw [hd0]; exact (K1.set_ 0 (.int .i64 (idx + n))).set_ 2 _, HH.out.low, by rw [hd0]; exact Rd.nil _ _, by rw [hd0]; exact Nat.le_refl _, by unfold maxLen; omega, fun a ha => (by cases ha), by omega, by have := HEK.out; omega, by rw [hd0]; exact Nat.zero_le _, fun q y hy => by rw [hd0] at hy; simp at hy⟩, F2, fun a ha => (by cases ha)⟩
  · have hkc2 : ¬ c = k := hck
    have HR2 : Hid (Rd W1 (some ⟨b, o + k * 5, none⟩) ((flatEn es).drop (k * 5))) := by
      have h2 : Rd W1 (some ((⟨b, o, none⟩ : Addr).add (k * 5))) ((flatEn es).drop (k * 5)) := HR1.out.shift (k * 5)
      rw [add_flat] at h2
      exact h2
    go_wp2_with (at_builtin
                 refine wpList_app rfl (.const (.slice none 0 0)) (.tmp 44) 41 rfl W1.heap.size 53 i0' _ 5 56 Try.underlying41 hi0 hz0 hz1 hz2 rfl (by omega) (.slice none 0 0) 0 [] rfl (World.ownsRow_nil _ _ _ _) (some ⟨b, o + k * 5, none⟩) (es.length - k) (c - k) (flatEn (es.drop k)) rfl (by rw [flatEn_drop]; exact HR2.out) (by rw [flatEn_len, HDL.out]) (flatEn_one _) (by unfold maxLen; omega) (by omega) (Nat.le_refl _) ?_
                 intro v2 w2 hown2 hg2 hb2 hat2
                 rw [Nat.zero_add, List.nil_append] at hown2
                 obtain ⟨A2, c2', rfl, hc2⟩ := own_form hown2
                 have G2 := K1.below hb2
                 have g0 := G2.cell 0
                 have g2 := G2.cell 2
                 have gf0 := G2.free 0
                 have gf2 := G2.free 2
                 simp at g0 g2)
    go_ret
    have F2 : Frm (at1 g) w ((w2.setCell ⟨g, 0, none⟩ (.int .i64 (idx + k))).setCell ⟨g, 2, none⟩ (.slice A2 (es.length - k) c2')) := ((F1.step hb2).setCell (p := ⟨g, 0, none⟩) (fun _ => rfl) _).setCell (p := ⟨g, 2, none⟩) (fun _ => rfl) _
    have hA2 : ∀ a, A2 = some a → w.heap.size ≤ a.block := fun a ha => by
      subst ha
      have := (hown2.lt a.block rfl).1
      have := F1.size
      omega
    have hcm : c2' ≤ maxLen := by
      rcases hown2.2 with ⟨e1, _⟩ | ⟨_, cc, _, e1, _, _, _, hcc, _⟩
      · injection e1 with _ _ e3; unfold maxLen; omega
      · injection e1 with _ _ e3; omega
    have hglt := HH.out.blk.lt
    have hlow := HH.out.low
    have hdl : (es.drop k).length = (es.length - k) := by rw [HDL.out]
    refine ⟨rfl, A2, c2', ⟨by rw [hdl]; exact (G2.set_ 0 (.int .i64 (idx + k))).set_ 2 _, hlow, ?_, by rw [hdl]; exact hc2, hcm, fun a ha => ⟨by have := hA2 a ha; omega, by have := hA2 a ha; omega⟩, by omega, by omega, by rw [hdl]; omega, fun q y hy => ?_⟩, F2, fun a ha => ⟨hA2 a ha, own_ty (own_set (G2.set_ 0 (.int .i64 (idx + k))) (own_set G2 hown2 (i := 0) (by decide) (.int .i64 (idx + k))) (i := 2) (by decide) (.slice A2 (es.length - k) c2')) (by rw [ha]; rfl)⟩⟩
    · exact Rd.of_own (own_set (G2.set_ 0 (.int .i64 (idx + k))) (own_set G2 hown2 (i := 0) (by decide) (.int .i64 (idx + k))) (i := 2) (by decide) (.slice A2 (es.length - k) c2'))
    · rw [List.getElem?_drop] at hy
      have := HH.out.ix (k + q) y hy
      omega
theorem rtrim_m (w : World) (base g : Nat) (idx trm : Int) (es : List En) (A : Option Addr) (c : Nat) (h : RefM w base g idx trm es A c) (i : Int) (hmax : idx + es.length ≤ 1152921504606846976) :
    Calls Try.prog 17 #[.pointer (some ⟨g, 0, none⟩), .int .i64 i] w fun e w' => e = .returned (.int .i64 (trimK idx es.length i)) ∧ ∃ A2 c2, RefM w' base g (idx + trimK idx es.length i) (trimT idx trm (ents es) i) (es.drop (trimK idx es.length i)) A2 c2 ∧ Frm (at1 g) w w' ∧ (A2 = A ∧ es.drop (trimK idx es.length i) = es ∨ ∀ a, A2 = some a → w.heap.size ≤ a.block ∧ TyAt w' a.block 53) := by
  have hel := ents_len es
  unfold trimT
  rw [hel]
  by_cases h1 : i ≤ idx ∨ idx + es.length < i
  · have hk : trimK idx es.length i = 0 := by unfold trimK; split <;> omega
    rw [hk]
    refine (rtrim_no w base g idx trm es A c h i h1).mono fun e w' ⟨h2, q⟩ => ?_
    obtain ⟨nq, rfl⟩ := q
    refine ⟨h2, A, c, ?_, (Frm.refl _ _).drewN _, .inl ⟨rfl, List.drop_zero ..⟩⟩
    have e : (termE idx trm (ents es) (idx + (0 : Nat))).getD trm = trm := by rw [show idx + ((0 : Nat) : Int) = idx by omega, termE_base]; rfl
    rw [e, show idx + ((0 : Nat) : Int) = idx by omega, List.drop_zero]
    exact h.drewN _
  · obtain ⟨k, rfl⟩ : ∃ k : Nat, i = idx + k := ⟨(i - idx).toNat, by omega⟩
    have hk : trimK idx es.length (idx + k) = k := by unfold trimK; rw [if_neg (by omega)]; omega
    rw [hk]
    obtain ⟨x, hx⟩ : ∃ x, es[k - 1]? = some x := ⟨es[k - 1]'(by omega), List.getElem?_eq_getElem _⟩
    have ht : termE idx trm (ents es) (idx + k) = some x.term := by
      rw [termE_in _ _ _ _ (by omega) (by rw [hel]; omega), show (idx + (k : Int) - idx - 1).toNat = k - 1 by omega, ents_at hx]; rfl
    rw [ht]
    exact (rtrim_at w base g idx trm es A c h k (by omega) (by omega) hmax x hx).mono fun e w' ⟨h2, A2, c2, h3, h4, h5⟩ => ⟨h2, A2, c2, h3, h4, .inr h5⟩
end Go.Proofs.Ytdhohaeopfgbmaa
