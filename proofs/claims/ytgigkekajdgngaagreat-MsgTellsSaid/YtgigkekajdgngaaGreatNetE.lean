/-
  The net's Take, Double and Swap. Conditions: no more packets than a net has.
-/
import Derived.Test.YtgigkekajdgngaaGreatNetC
import Derived.Test.YtgigkekajdgngaaGreatNetD
namespace Go.Proofs.YtgigkekajdgngaaGreat
open Go Go.RowKit
attribute [local go_sem] cell_set_if

def takeK (l : List Pk) (k : Int) : List Pk := if isAt l k then l.take k.toNat ++ l.drop (k.toNat + 1) else l
theorem takeK_len (l : List Pk) (k : Int) : (takeK l k).length ≤ l.length := by
  unfold takeK; split
  · rw [List.length_append, List.length_take, List.length_drop]; omega
  · exact Nat.le_refl _
theorem TurnN.same {g : Nat} {v1 v2 v1' : Value} {w w' : World} (F : Frm (mineN g v1 v2) w w') (h : ∀ q, v1'.ownBlock = some q → v1.ownBlock = some q ∨ w.heap.size ≤ q) : TurnN g v1 v2 w v1' v2 w' :=
  ⟨F, fun k hk => by
    rcases hk with hk | hk | hk
    · exact .inl (.inl hk)
    · rcases h k hk with h1 | h1
      · exact .inl (.inr (.inl h1))
      · exact .inr h1
    · exact .inl (.inr (.inr hk))⟩
set_option maxRecDepth 100000 in
set_option maxHeartbeats 8000000 in
theorem ntake_any {w : World} {base g : Nat} {l : List Pk} {c : List Ct} {v1 v2 : Value} (k : Int) (h : NetAt w base g l c v1 v2) (hl : l.length ≤ 2000) :
    Calls Tryz.prog 21 #[.pointer (some ⟨g, 0, none⟩), .int .i64 k] w fun e w' => e = .returned (.tuple #[pkV (peekK l k), .bool (isAt l k)]) ∧ ∃ v1', NetAt w' base g (takeK l k) c v1' v2 ∧ TurnN g v1 v2 w v1' v2 w' := by
  obtain ⟨⟨x1, x2, x3⟩, hx⟩ : ∃ x, x = peekK l k := ⟨_, rfl⟩
  have ba : Below w.heap.size w (w.alloc (.cells #[.int .i64 0, .int .i64 0, .string ByteArray.empty] 65)) := (Below.refl _ _).alloc (Nat.le_refl _) _
  have H0 := h.below ba
  have K0 := Blk.new w 65 #[.int .i64 0, .int .i64 0, .string ByteArray.empty]
  have hpk := npeek_any k H0
  rw [← hx] at hpk ⊢
  unfold pkV at hpk ⊢
  simp only at hpk ⊢
  have HPK := Lib.hid hpk
  have hgl := h.blk.lt
  have HLO : Hid (∀ q, mineN g v1 v2 q → q < w.heap.size) := fun q hq => (h.mine_lt q hq).2
  clear hpk hx
  by_cases hk : isAt l k = true
  · obtain ⟨⟨A1, n1, hv1, hn1⟩, _⟩ := h.form
    have h2 := hk
    unfold isAt at h2
    simp only [Bool.and_eq_true, decide_eq_true_eq] at h2
    obtain ⟨i, rfl⟩ : ∃ i : Nat, k = (i : Int) := ⟨k.toNat, by omega⟩
    obtain ⟨n, hn⟩ : ∃ n, n = l.length := ⟨_, rfl⟩
    rw [← hn] at hv1 hn1 h2 hl
    have hin : i < n := by omega
    obtain ⟨g1, cc, e1, hbg, hlc⟩ := h.o1.form (by omega)
    have hA1 : A1 = some ⟨g1, 0, none⟩ := by rw [hv1] at e1; injection e1
    subst hA1
    have htk : Hid (takeK l (i : Int) = l.take i ++ l.drop (i + 1)) := by unfold Hid takeK; rw [if_pos hk, Int.toNat_natCast]
    obtain ⟨j, hj⟩ : ∃ j : Nat, j = i + 1 := ⟨_, rfl⟩
    have hji : (i : Int) + 1 = (j : Int) := by omega
    have HK := Lib.hid hk
    have HV1 := Lib.hid hv1
    have HN := Lib.hid hn
    have HJ := Lib.hid hj
    have HH := Lib.hid h
    have HDL : Hid (∀ W, NetAt W base g l c v1 v2 → Calls Tryz.prog 89 #[.slice (some ⟨g1, 0, none⟩) n n1, .int .i64 i, .int .i64 j] W fun e w' => e = .returned (.slice (some ⟨g1, 0, none⟩) (n - 1) n1) ∧ w'.ownsRow base 65 3 (.slice (some ⟨g1, 0, none⟩) (n - 1) n1) (n - 1) (flatK (l.take i ++ l.drop j)) ∧ Frm (at1 g1) W w') := fun W hW => by
      have ho := hW.o1
      rw [← HN.out, HV1.out] at ho
      have := kdelete_n base g1 n n1 i j l W ho HN.out.symm HJ.out (by have := HJ.out; omega) (by omega)
      rw [show i + (n - j) = n - 1 by have := HJ.out; omega] at this
      exact this
    rw [hk]
    rw [htk.out]
    have HTL : Hid ((l.take i ++ l.drop (i + 1)).length = n - 1) := by unfold Hid; rw [List.length_append, List.length_take, List.length_drop, ← HN.out]; omega
    obtain ⟨L, hL⟩ : ∃ L, L = l.take i ++ l.drop (i + 1) := ⟨_, rfl⟩
    rw [← hL] at HTL ⊢
    have HLL : Hid (l.take i ++ l.drop j = L) := by rw [HJ.out]; exact hL.symm
    clear h hk h2 hn hv1 hj hL e1 htk
    go_enter Tryz.func21, Tryz.ntmps21
    go_upto_region 3 with (go_at_call 88; go_loud (
                             have hp := HPK.out
                             rw [HK.out] at hp
                             refine hp.mono ?_
                             rintro e w2 ⟨rfl, b2⟩
                             have H2 := H0.below b2
                             have K2 := K0.below b2
                             have ba2 : Below w2.heap.size w2 (w2.alloc (.cells #[.int .i64 x1, .int .i64 x2, .string x3] 65)) := (Below.refl _ _).alloc (Nat.le_refl _) _
                             have X2 := Blk.new w2 65 #[.int .i64 x1, .int .i64 x2, .string x3]
                             have H3 := H2.below ba2
                             have K3 := K2.below ba2
                             have hs2 := b2.size
                             have BW := (ba.trans (b2.mono ba.size)).trans (ba2.mono (Nat.le_trans ba.size b2.size))))
    generalize w2.alloc (.cells #[.int .i64 x1, .int .i64 x2, .string x3] 65) = W at ba2 X2 H3 K3 BW ⊢
    obtain ⟨gx, hgx⟩ : ∃ gx, gx = w2.heap.size := ⟨_, rfl⟩
    obtain ⟨g0, hg0⟩ : ∃ g0, g0 = w.heap.size := ⟨_, rfl⟩
    rw [← hgx] at X2 ⊢
    rw [← hg0] at K3 ⊢
    have HD := Lib.hid (HDL.out W H3)
    have c0 : W.cell? ⟨g, 0, none⟩ = some (.slice (some ⟨g1, 0, none⟩) n n1) := by rw [← HV1.out]; exact H3.blk.cell 0
    have hm1 : mineN g v1 v2 g1 := .inr (.inl (by rw [HV1.out]; rfl))
    have hneg : g ≠ g1 := fun e => by
      have h1 := H3.blk.ty
      have h2 := own_ty H3.o1 (q := g1) (by rw [HV1.out]; rfl)
      rw [← e] at h2
      exact absurd (h1.eq h2) (by decide)
    have hx1 : gx ≠ g1 := fun e => by have := HLO.out g1 hm1; have := hs2; have := ba.size; omega
    have h01 : g0 ≠ g1 := fun e => by have := HLO.out g1 hm1; omega
    have hxg : gx ≠ g := fun e => by have := hs2; have := ba.size; omega
    have h0g : g0 ≠ g := fun e => by omega
    have h0x : g0 ≠ gx := fun e => by have := K2.lt; omega
    have HG0 : Hid (w.heap.size ≤ g0) := by unfold Hid; omega
    have HGX : Hid (w.heap.size ≤ gx) := by unfold Hid; have := ba.size; omega
    have HH3 := Lib.hid H3
    have HBW := Lib.hid BW
    have hlow := HH.out.low
    have H2o := Lib.hid (own_frm (S := no) H3.o2 (Frm.refl _ _) (fun _ _ h => h))
    clear H0 K0 H2 K2 ba ba2 hp b2 H3 BW hgx hg0 hm1 HPK HDL hs2
    have F2o : ∀ (W' : World), Frm (at1 g1) W W' → W'.ownsRow base 123 2 v2 c.length (flatT c) := fun W' F => own_frm HH3.out.o2 F fun q hq e => by
      have h1 := own_ty HH3.out.o2 hq
      have h2 := own_ty HH3.out.o1 (q := g1) (by rw [HV1.out]; rfl)
      rw [show q = g1 from e] at h1
      exact absurd (h1.eq h2) (by decide)
    have HF2 := Lib.hid F2o
    clear F2o H2o
    go_wp2_with (go_at_call 89; go_loud (
                   refine HD.out.mono ?_
                   rintro e w3 ⟨rfl, o3, F3⟩
                   have X3 := X2.frm F3 (fun e => hx1 e)
                   have K4 := K3.frm F3 (fun e => h01 e)
                   have B3 := HH3.out.blk.frm F3 (fun e => hneg e)
                   have O3 := HF2.out _ F3
                   have z0 := B3.free 0
                   have q0 : w3.cell? ⟨gx, 0, none⟩ = some (.int .i64 x1) := X3.cell 0
                   have q1 : w3.cell? ⟨gx, 1, none⟩ = some (.int .i64 x2) := X3.cell 1
                   have q2 : w3.cell? ⟨gx, 2, none⟩ = some (.string x3) := X3.cell 2
                   have p0 : w3.cell? ⟨g0, 0, none⟩ = some (.int .i64 0) := K4.cell 0
                   have p1 : w3.cell? ⟨g0, 1, none⟩ = some (.int .i64 0) := K4.cell 1
                   have p2 : w3.cell? ⟨g0, 2, none⟩ = some (.string ByteArray.empty) := K4.cell 2
                   have f0 := K4.free 0
                   have f1 := K4.free 1
                   have f2 := K4.free 2
                   have b0 : w3.cell? ⟨g, 0, none⟩ = some (.slice (some ⟨g1, 0, none⟩) n n1) := by rw [← HV1.out]; exact B3.cell 0))
    refine bodyPost_ret (v := .tuple #[.agg #[.int .i64 x1, .int .i64 x2, .string x3], .bool true]) (by rw [results_cell_tmp rfl]; go_simp) rfl ⟨rfl, ?_⟩
    have FS : Frm (at1 g) w3 (w3.setCell ⟨g, 0, none⟩ (.slice (some ⟨g1, 0, none⟩) (n - 1) n1)) := (Frm.refl (at1 g) w3).setCell (p := ⟨g, 0, none⟩) (fun _ => rfl) _
    have FX : Frm (at1 g0) (w3.setCell ⟨g, 0, none⟩ (.slice (some ⟨g1, 0, none⟩) (n - 1) n1)) ((((w3.setCell ⟨g, 0, none⟩ (.slice (some ⟨g1, 0, none⟩) (n - 1) n1)).setCell ⟨g0, 0, none⟩ (.int .i64 x1)).setCell ⟨g0, 1, none⟩ (.int .i64 x2)).setCell ⟨g0, 2, none⟩ (.string x3)) :=
      (((Frm.refl (at1 g0) _).setCell (p := ⟨g0, 0, none⟩) (fun _ => rfl) _).setCell (p := ⟨g0, 1, none⟩) (fun _ => rfl) _).setCell (p := ⟨g0, 2, none⟩) (fun _ => rfl) _
    rw [HLL.out] at o3
    refine ⟨.slice (some ⟨g1, 0, none⟩) (n - 1) n1, ⟨Blk.frm (by simpa using B3.set_ 0 (.slice (some ⟨g1, 0, none⟩) (n - 1) n1)) FX (fun e => h0g e.symm), hlow, ?_, ?_⟩, TurnN.same (((((((Frm.of_below HBW.out).then_ (F3.mono fun q _ e => .inr (.inl (by rw [HV1.out, show q = g1 from e]; rfl)))).setCell (p := ⟨g, 0, none⟩) (fun _ => .inl rfl) _)).setCell (p := ⟨g0, 0, none⟩) (fun h => absurd h (by have := HG0.out; show ¬ g0 < _; omega)) _).setCell (p := ⟨g0, 1, none⟩) (fun h => absurd h (by have := HG0.out; show ¬ g0 < _; omega)) _).setCell (p := ⟨g0, 2, none⟩) (fun h => absurd h (by have := HG0.out; show ¬ g0 < _; omega)) _) (fun q hq => .inl (by rw [HV1.out]; exact hq))⟩
    · rw [HTL.out]
      refine own_frm (own_frm o3 FS fun q hq e => ?_) FX fun q hq e => ?_
      · injection hq with hq; exact hneg (by rw [← show q = g from e]; exact hq.symm)
      · injection hq with hq; exact h01 (by rw [← show q = g0 from e]; exact hq.symm)
    · refine own_frm (own_frm O3 FS fun q hq e => ?_) FX fun q hq e => ?_
      · have h1 := own_ty O3 hq
        rw [show q = g from e] at h1
        exact absurd (h1.eq B3.ty) (by decide)
      · have := HLO.out q (.inr (.inr hq)); have := HG0.out; have h9 : q = g0 := e; omega
  · have hk' : isAt l k = false := by simpa using hk
    have htk : Hid (takeK l k = l) := by unfold Hid takeK; rw [if_neg hk]
    have HK := Lib.hid hk'
    have HH := Lib.hid h
    rw [hk', htk.out]
    clear h hk hk' htk
    go_enter Tryz.func21, Tryz.ntmps21
    go_upto_region 4 with (go_at_call 88; go_loud (
                             have hp := HPK.out
                             rw [HK.out] at hp
                             refine hp.mono ?_
                             rintro e w2 ⟨rfl, b2⟩
                             have K2 := K0.below b2
                             have ba2 : Below w2.heap.size w2 (w2.alloc (.cells #[.int .i64 x1, .int .i64 x2, .string x3] 65)) := (Below.refl _ _).alloc (Nat.le_refl _) _
                             have X2 := Blk.new w2 65 #[.int .i64 x1, .int .i64 x2, .string x3]
                             have K3 := K2.below ba2
                             have hs2 := b2.size
                             have BW := (ba.trans (b2.mono ba.size)).trans (ba2.mono (Nat.le_trans ba.size b2.size))))
    generalize w2.alloc (.cells #[.int .i64 x1, .int .i64 x2, .string x3] 65) = W at ba2 X2 K3 BW ⊢
    obtain ⟨gx, hgx⟩ : ∃ gx, gx = w2.heap.size := ⟨_, rfl⟩
    obtain ⟨g0, hg0⟩ : ∃ g0, g0 = w.heap.size := ⟨_, rfl⟩
    rw [← hgx] at X2 ⊢
    rw [← hg0] at K3 ⊢
    have h0x : g0 ≠ gx := fun e => by have := K2.lt; omega
    have HG0 : Hid (w.heap.size ≤ g0) := by unfold Hid; omega
    have HBW := Lib.hid BW
    have q0 : W.cell? ⟨gx, 0, none⟩ = some (.int .i64 x1) := X2.cell 0
    have q1 : W.cell? ⟨gx, 1, none⟩ = some (.int .i64 x2) := X2.cell 1
    have q2 : W.cell? ⟨gx, 2, none⟩ = some (.string x3) := X2.cell 2
    have p0 : W.cell? ⟨g0, 0, none⟩ = some (.int .i64 0) := K3.cell 0
    have p1 : W.cell? ⟨g0, 1, none⟩ = some (.int .i64 0) := K3.cell 1
    have p2 : W.cell? ⟨g0, 2, none⟩ = some (.string ByteArray.empty) := K3.cell 2
    have f0 := K3.free 0
    have f1 := K3.free 1
    have f2 := K3.free 2
    clear H0 K0 K2 ba ba2 hp b2 BW hgx hg0 HPK hs2 X2 K3
    go_wp2
    refine bodyPost_ret (v := .tuple #[.agg #[.int .i64 x1, .int .i64 x2, .string x3], .bool false]) (by rw [results_cell_tmp rfl]; go_simp) rfl ⟨rfl, ?_⟩
    have FX : Below w.heap.size w (((W.setCell ⟨g0, 0, none⟩ (.int .i64 x1)).setCell ⟨g0, 1, none⟩ (.int .i64 x2)).setCell ⟨g0, 2, none⟩ (.string x3)) := by
      have := HG0.out
      repeat (refine Below.setCell ?_ (by exact HG0.out) _)
      exact HBW.out
    exact ⟨v1, HH.out.below FX, TurnN.of FX⟩
end Go.Proofs.YtgigkekajdgngaaGreat
