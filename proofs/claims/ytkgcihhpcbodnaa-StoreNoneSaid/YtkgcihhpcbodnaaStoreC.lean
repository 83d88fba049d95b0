/-
  A file of pages in memory: Get. Conditions: as the disk's own calls have them.
-/
import Derived.Test.YtkgcihhpcbodnaaStoreB
namespace Go.Proofs.Ytkgcihhpcbodnaa
open Go Go.RowKit
attribute [local go_sem] cell_set_if

/-- A page as a value. -/
abbrev Pv.val (p : Pv) : Value := pageV p.k p.i p.t p.bd
section
variable {w w' : World} {base gs g n : Nat} {s : ByteArray} {d d' : Ds}
theorem LiveAt.frm_ty (L : LiveAt w base d g) (k : Frm (at1 gs) w w') {t : TypeId} (h : TyAt w gs t) (ht : t ∉ dTys) : LiveAt w' base d g := by
  obtain ⟨hb, m, hg, D⟩ := L
  exact ⟨Nat.le_trans hb k.size, m, hg, D.frm k fun q hq e => ht (D.mine_ty hq (by have e : q = gs := e; rw [e]; exact h))⟩
theorem readV_pv (b : List UInt8) : readV b = if errB b = 0 then (pvB b).val else noPv.val := by unfold readV; split <;> rfl
/-- What Get leaves. -/
def Got (w : World) (base gs g n : Nat) (s : ByteArray) (d : Ds) (id : Int) (e : Ending) (w' : World) : Prop := e = .returned (.tuple #[(getS d s id).1.val, .int .i64 (getS d s id).2]) ∧ SBlk w' gs g s (if (getS d s id).2 = 0 then n + 1 else n) ∧ LiveAt w' base d g ∧ Frm (at1 gs) w w'
theorem got_no {id q : Int} (h : SBlk w gs g s n) (L : LiveAt w base d g) (hR : getS d s id = (noPv, q)) (hq : q ≠ 0) (hB : Below w.heap.size w w') : Got w base gs g n s d id (.returned (.tuple #[pageV 0 0 0 ⟨#[]⟩, .int .i64 q])) w' := by
  unfold Got
  rw [hR]
  exact ⟨rfl, by rw [if_neg hq]; exact h.below hB, L.below hB, Frm.of_below hB⟩
theorem got_yes {id : Int} {p : Pv} (h : SBlk w gs g s n) (L : LiveAt w base d g) (hR : getS d s id = (p, 0)) (hF : Frm (at1 gs) w w') (h' : SBlk w' gs g s (n + 1)) : Got w base gs g n s d id (.returned (.tuple #[p.val, .int .i64 0])) w' := by
  unfold Got
  rw [hR]
  exact ⟨rfl, by rw [if_pos rfl]; exact h', L.frm_ty hF (Blk.ty h) (by decide), hF⟩
theorem Blk.four {t : TypeId} {a b c e : Value} (h : Blk w g t #[a, b, c, e]) : (w.cell? ⟨g, 0, none⟩ = some a ∧ w.cell? ⟨g, 1, none⟩ = some b ∧ w.cell? ⟨g, 2, none⟩ = some c ∧ w.cell? ⟨g, 3, none⟩ = some e) ∧ w.frozen? ⟨g, 0, none⟩ = false ∧ w.frozen? ⟨g, 1, none⟩ = false ∧ w.frozen? ⟨g, 2, none⟩ = false ∧ w.frozen? ⟨g, 3, none⟩ = false :=
  ⟨⟨h.cell 0, h.cell 1, h.cell 2, h.cell 3⟩, h.free 0, h.free 1, h.free 2, h.free 3⟩
set_option maxRecDepth 100000 in
set_option maxHeartbeats 2000000 in
theorem stget_any (id : Int) (w : World) (h : SBlk w gs g s n) (L : LiveAt w base d g) (hn : n ≤ 1000000) :
    Calls Try.prog 6 #[.pointer (some ⟨gs, 0, none⟩), .int .i64 id] w fun e w' => Got w base gs g n s d id e w' := by
  have HSB := Lib.hid h
  have HL := Lib.hid L
  obtain ⟨x, e0, hk⟩ : ∃ x e0, readD d s id = (x, e0) := ⟨_, _, rfl⟩
  have hx6 : e0 = 0 → x.size = 256 := fun h0 => by
    have := readD_size L.dok (s := s) (pos := id) (by rw [hk]; exact h0)
    rw [hk] at this; exact this
  have ba : Below w.heap.size w (w.alloc (.cells #[.int .i64 0, .int .i64 0, .int .i64 0, .string ⟨#[]⟩] 23)) := (Below.refl _ _).alloc (Nat.le_refl _) _
  have HRD : Hid (∀ r : NewM (w.alloc (.cells #[.int .i64 0, .int .i64 0, .int .i64 0, .string ⟨#[]⟩] 23)), Calls Try.prog 20 #[.pointer (some ⟨g, 0, none⟩), .string s, .int .i64 id] r.w' fun e w'' => e = .returned (.tuple #[.string x, .int .i64 e0]) ∧ Below r.w'.heap.size r.w' w'') :=
    fun r => lread ((L.below ba).below r.h) hk
  have HB0 := Lib.hid ba
  have n0 := NewM.cell (h.below ba).c0
  have n1 := NewM.cell (h.below ba).c1
  have P0 := Blk.new w 23 #[.int .i64 0, .int .i64 0, .int .i64 0, .string ⟨#[]⟩]
  have HP0 := Lib.hid P0
  have HX := Lib.hid hx6
  have hgs : getS d s id = if e0 ≠ 0 then (noPv, e0) else if errB (bts x) ≠ 0 then (noPv, errB (bts x)) else if (pvB (bts x)).i ≠ id ∨ (pvB (bts x)).k = 1 then (noPv, 25) else (pvB (bts x), 0) := by
    unfold getS; rw [hk]
  have HG := Lib.hid hgs
  have hni : (n : Int) ≤ 1000000 := by omega
  clear h L hk hx6 ba P0 hgs hn
  go_enter Try.func6, Try.ntmps6
  go_upto_region 3 with (fail)
  generalize hW : w.alloc (.cells #[.int .i64 0, .int .i64 0, .int .i64 0, .string ⟨#[]⟩] 23) = W at HRD HB0 n0 n1 HP0 ⊢
  clear hW
  refine wp_region_quiet_new (by kernel_rfl) (by kernel_rfl) ?_
  repeat (go_big_quiet_step (first
    | (go_at_call 20; with_reducible exact NewM.call (HRD.out _))))
  refine wpQuiet_nil ?_
  rintro _ ⟨rr, rfl⟩
  have HB1 := Lib.hid (below_of rr.h HB0.out HB0.out.size)
  have HP1 := Lib.hid (HP0.out.below rr.h)
  generalize rr.w' = W1 at HB1 HP1 ⊢
  clear n0 n1 HRD HB0 HP0 rr
  have HSB1 := Lib.hid (HSB.out.below HB1.out)
  have HL1 := Lib.hid (HL.out.below HB1.out)
  by_cases h0 : e0 = 0
  · subst h0
    have hx6 := HX.out rfl
    have hgs := HG.out
    rw [if_neg (by decide)] at hgs
    have hrd : ∀ w, Calls Try.prog 21 #[.string x] w fun e w' => e = .returned (.tuple #[readV (bts x), .int .i64 (errB (bts x))]) ∧ Below w.heap.size w w' := fun w => read_any x w hx6
    obtain ⟨e1, he1⟩ : ∃ e1 : Int, e1 = (errB (bts x) : Int) := ⟨_, rfl⟩
    by_cases h1 : errB (bts x) = 0
    · rw [if_neg (by rw [h1]; decide)] at hgs
      obtain ⟨⟨k, i, t, bd⟩, hp⟩ : ∃ p, p = pvB (bts x) := ⟨_, rfl⟩
      rw [← hp] at hgs
      have HRV : Hid (∀ w, Calls Try.prog 21 #[.string x] w fun e w' => e = .returned (.tuple #[pageV k i t bd, .int .i64 0]) ∧ Below w.heap.size w w') := fun w => by
        have := hrd w
        rw [readV_pv, if_pos h1, ← hp, h1] at this; exact this
      have HV := Lib.hid hgs
      clear hgs hrd he1 h1 hx6 HX HG hp
      by_cases h2 : i = id
      · have hb2 : (i != id) = false := by simp [h2]
        by_cases h3 : k = 1
        · have hb3 : (k == 1) = true := by simp [h3]
          have HR : Hid (getS d s id = (noPv, 25)) := by unfold Hid; rw [HV.out, if_pos (.inr h3)]
          clear HV h2 h3
          go_wp2_with (go_at_call 21; (refine (HRV.out _).mono ?_); rintro e w2 ⟨rfl, b2⟩; obtain ⟨⟨p0, p1, p2, p3⟩, z0, z1, z2, z3⟩ := (HP1.out.below b2).four; have hlt2 := (HP1.out.below b2).lt)
          refine bodyPost_ret (v := .tuple #[pageV 0 0 0 ⟨#[]⟩, .int .i64 25]) (by rw [results_cell_tmp rfl]; go_simp) rfl (got_no HSB.out HL.out HR.out (by decide) ?_)
          have B2 := below_of b2 HB1.out HB1.out.size
          first
          | exact ((((B2.setCell (Nat.le_refl _) _).setCell (Nat.le_refl _) _).setCell (Nat.le_refl _) _).setCell (Nat.le_refl _) _).alloc (by simpa using B2.size) _
          | exact ((((B2.alloc B2.size _).setCell (Nat.le_refl _) _).setCell (Nat.le_refl _) _).setCell (Nat.le_refl _) _).setCell (Nat.le_refl _) _
        · have hb3 : (k == 1) = false := by simp [h3]
          have HR : Hid (getS d s id = (⟨k, i, t, bd⟩, 0)) := by unfold Hid; rw [HV.out, if_neg (by intro h; rcases h with h | h; exact h h2; exact h3 h)]
          have hgw := HSB.out.lt
          have HGW := Lib.hid hgw
          have hgne : ¬ gs = w.heap.size := by omega
          clear HV h2 h3 hgw
          go_wp2_with (first
            | (go_at_call 21; (refine (HRV.out _).mono ?_); rintro e w2 ⟨rfl, b2⟩; obtain ⟨⟨p0, p1, p2, p3⟩, z0, z1, z2, z3⟩ := (HP1.out.below b2).four; have hlt2 := (HP1.out.below b2).lt; have G2 := (HSB1.out.below b2).alloc (.cells #[.int .i64 k, .int .i64 i, .int .i64 t, .string bd] 23); have hg2 : ¬ gs = w2.heap.size := Nat.ne_of_lt (Nat.lt_trans HGW.out hlt2); have hga := count_add gs 2 n _ (G2.cell 2) (G2.free 2) (by omega); have HGA := Lib.hid hga; clear hga)
            | (go_at_call 22; (with_reducible refine HGA.out.mono ?_); rintro e w3 ⟨rfl, hw3⟩; subst hw3))
          refine bodyPost_ret (v := .tuple #[pageV k i t bd, .int .i64 0]) (by rw [results_cell_tmp rfl]; go_simp) rfl (got_yes (p := ⟨k, i, t, bd⟩) HSB.out HL.out HR.out ?_ ?_)
          · have B2 := below_of b2 HB1.out HB1.out.size
            repeat (refine Frm.setCell ?_ (by intro hh; first | exact rfl | exact absurd hh (Nat.lt_irrefl _)) _)
            exact (Frm.of_below B2).alloc _
          · have G3 := G2.set_ 2 (.int .i64 ((n : Int) + 1))
            have e : (#[.pointer (some ⟨g, 0, none⟩), .string s, .int .i64 n] : Array Value).setIfInBounds 2 (.int .i64 ((n : Int) + 1)) = #[.pointer (some ⟨g, 0, none⟩), .string s, .int .i64 ((n + 1 : Nat) : Int)] := rfl
            rw [e] at G3
            exact (((G3.far (p := ⟨w.heap.size, 0, none⟩) hgne (.int .i64 k)).far (p := ⟨w.heap.size, 1, none⟩) hgne (.int .i64 i)).far (p := ⟨w.heap.size, 2, none⟩) hgne (.int .i64 t)).far (p := ⟨w.heap.size, 3, none⟩) hgne (.string bd)
      · have hb2 : (i != id) = true := by simp [h2]
        have HR : Hid (getS d s id = (noPv, 25)) := by unfold Hid; rw [HV.out, if_pos (.inl h2)]
        clear HV h2
        go_wp2_with (go_at_call 21; (refine (HRV.out _).mono ?_); rintro e w2 ⟨rfl, b2⟩; obtain ⟨⟨p0, p1, p2, p3⟩, z0, z1, z2, z3⟩ := (HP1.out.below b2).four; have hlt2 := (HP1.out.below b2).lt)
        refine bodyPost_ret (v := .tuple #[pageV 0 0 0 ⟨#[]⟩, .int .i64 25]) (by rw [results_cell_tmp rfl]; go_simp) rfl (got_no HSB.out HL.out HR.out (by decide) ?_)
        have B2 := below_of b2 HB1.out HB1.out.size
        exact ((((B2.setCell (Nat.le_refl _) _).setCell (Nat.le_refl _) _).setCell (Nat.le_refl _) _).setCell (Nat.le_refl _) _).alloc (by simpa using B2.size) _
    · rw [if_pos h1] at hgs
      have hne : ¬ e1 = 0 := by omega
      have HRV : Hid (∀ w, Calls Try.prog 21 #[.string x] w fun e w' => e = .returned (.tuple #[pageV 0 0 0 ⟨#[]⟩, .int .i64 e1]) ∧ Below w.heap.size w w') := fun w => by
        have := hrd w
        rw [readV_pv, if_neg h1, ← he1] at this; exact this
      rw [← he1] at hgs
      have HR := Lib.hid hgs
      have HNE := Lib.hid hne
      have hb : (e1 != 0) = true := by simp [hne]
      clear hgs hrd he1 h1 hx6 HX HG hne
      go_wp2_with (go_at_call 21; (refine (HRV.out _).mono ?_); rintro e w2 ⟨rfl, b2⟩; obtain ⟨⟨p0, p1, p2, p3⟩, z0, z1, z2, z3⟩ := (HP1.out.below b2).four; have hlt2 := (HP1.out.below b2).lt)
      refine bodyPost_ret (v := .tuple #[pageV 0 0 0 ⟨#[]⟩, .int .i64 e1]) (by rw [results_cell_tmp rfl]; go_simp) rfl (got_no HSB.out HL.out HR.out HNE.out ?_)
      have B2 := below_of b2 HB1.out HB1.out.size
      exact ((((B2.setCell (Nat.le_refl _) _).setCell (Nat.le_refl _) _).setCell (Nat.le_refl _) _).setCell (Nat.le_refl _) _).alloc (by simpa using B2.size) _
  · have hgs := HG.out
    rw [if_pos h0] at hgs
    have HR := Lib.hid hgs
    have HNE := Lib.hid h0
    have hb : (e0 != 0) = true := by simp [h0]
    obtain ⟨⟨p0, p1, p2, p3⟩, z0, z1, z2, z3⟩ := HP1.out.four
    clear hgs HG HX h0
    go_wp2
    refine bodyPost_ret (v := .tuple #[pageV 0 0 0 ⟨#[]⟩, .int .i64 e0]) (by rw [results_cell_tmp rfl]; go_simp) rfl (got_no HSB.out HL.out HR.out HNE.out ?_)
    exact (((HB1.out.setCell (Nat.le_refl _) _).setCell (Nat.le_refl _) _).setCell (Nat.le_refl _) _).setCell (Nat.le_refl _) _
end
end Go.Proofs.Ytkgcihhpcbodnaa
