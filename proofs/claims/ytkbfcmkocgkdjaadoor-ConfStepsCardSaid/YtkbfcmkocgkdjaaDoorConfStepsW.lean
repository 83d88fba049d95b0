/-
  The walk of the law ConfSteps: for every input it returns true and changes nothing that was there. Condition: the library's own variables are as told.
-/
import Derived.Test.YtkbfcmkocgkdjaaDoorConfAlive
namespace Go.Proofs.YtkbfcmkocgkdjaaDoor
open Go Go.RowKit
attribute [local go_sem] cell_set_if

theorem sameZ_same (A B : Option Addr) (n c d : Nat) (xs : List Int) (w : World) (ha : Rd w A (flatZ xs)) (hb : Rd w B (flatZ xs)) (hn : xs.length = n) (hl : n ≤ 1000000) :
    Calls Tryd.prog 12 #[.slice A n c, .slice B n d] w fun e w' => e = .returned (.bool true) ∧ Qt w w' := by
  have := sameints_any A B n n c d xs xs w ha hb hn hn hl
  refine this.mono ?_
  rintro e w' ⟨⟨b, h1, h3⟩, h2⟩
  exact ⟨by rw [h1, h3.2 rfl], h2⟩

set_option maxRecDepth 100000 in
set_option maxHeartbeats 4000000 in
theorem confsteps_walk (A0 : Option Addr) (n0 c0 : Nat) (l : List Int) (id : Int) (w : World) (hp : PowIs w) (hm : MaxIs w) (r0 : Rd w A0 (flatZ l)) (e0 : l.length = n0) :
    Calls Tryd.prog 4 #[.slice A0 n0 c0, .int .i64 id] w fun e w' => e = .returned (.bool true) ∧ Below w.heap.size w w' := by
  have HA := Lib.hid (alive22_any w hp hm)
  have R0 := Lib.hid r0
  have E0 := Lib.hid e0
  by_cases hbad : 20 < n0
  · have h1 : (20 : Int) < (n0 : Int) := by omega
    clear hp hm r0 e0 hbad
    go_enter Tryd.func4, Tryd.ntmps4
    go_wp2_with (go_at_call 5; refine HA.out.mono ?_; rintro e w1 ⟨rfl, b1⟩)
    go_ret
    exact ⟨rfl, b1⟩
  have hn0 : (n0 : Int) ≤ 20 := by omega
  have HT : Hid (∀ W, Below w.heap.size w W → Calls Tryd.prog 10 #[.slice A0 n0 c0] W fun e w' => e = .returned (.tuple #[.string (bs (textV l).1), .int .i64 (textV l).2]) ∧ Below W.heap.size W w') := fun W h =>
    ctext_any A0 n0 c0 l W (r0.below h) e0 (by omega) (powIs_below hp h)
  have HS0 : Hid (∀ W, Below w.heap.size w W → Calls Tryd.prog 6 #[.slice A0 n0 c0, .slice A0 n0 c0] W fun e w' => e = .returned (.bool (stepV l l)) ∧ Qt W w') := fun W h =>
    cstep_any A0 A0 n0 c0 n0 c0 l l W (r0.below h) e0 (r0.below h) e0 (by omega) (by omega)
  clear hbad
  cases hr : rightV l
  · have ht : textV l = ([], 1) := by unfold textV; rw [if_neg (by rw [hr]; simp)]
    have hs : stepV l l = false := by unfold stepV; rw [hr]; rfl
    rw [ht] at HT
    rw [hs] at HS0
    have hb0 : bs ([] : List UInt8) = ⟨#[]⟩ := rfl
    simp only [hb0] at HT
    clear hp hm r0 e0 hr ht hs hb0
    go_enter Tryd.func4, Tryd.ntmps4
    go_wp2_with (first
      | (go_at_call 5; refine HA.out.mono ?_; rintro e w1 ⟨rfl, b1⟩)
      | (go_at_call 10; refine (HT.out _ b1).mono ?_; rintro e w2 ⟨rfl, b2⟩; have B2 := below_of b2 b1 b1.size)
      | (go_at_call 6; refine (HS0.out _ B2).mono ?_; rintro e w3 ⟨rfl, q3⟩; have B3 := below_of (q3.below _) B2 B2.size))
    go_ret
    exact ⟨rfl, B3⟩
  have ht : textV l = (textL l, 0) := by unfold textV; rw [if_pos hr]
  have hs : stepV l l = true := step_self hr
  rw [ht] at HT
  rw [hs] at HS0
  have hin := right_in hr
  have htl : (textL l).length ≤ 1000 := by
    have : ∀ l : List Int, (textL l).length ≤ 2 * l.length := by
      intro l
      induction l with
      | nil => simp [textL]
      | cons x l ih =>
        cases l with
        | nil => simp [textL]
        | cons y l => simp only [textL, List.length_cons] at ih ⊢; omega
    have h := this l
    omega
  obtain ⟨T, hT⟩ : ∃ T, T = bs (textL l) := ⟨_, rfl⟩
  simp only [← hT] at HT
  have HRd : Hid (∀ W, Below w.heap.size w W → Calls Tryd.prog 11 #[.string T] W fun e w' => (∃ B d, e = .returned (.tuple #[.slice B n0 d, .int .i64 0]) ∧ Rd w' B (flatZ l)) ∧ Below W.heap.size W w') := fun W h => by
    refine (cread_any T W (by rw [hT, bs_size]; exact htl) (maxIs_below hm h)).mono ?_
    rintro e w' ⟨⟨B, m, d, h1, h2, h3⟩, h4⟩
    have he : readV (bts T) = (l, 0) := by rw [hT, bts_bs]; exact readV_text hr
    rw [he] at h1 h2 h3
    obtain rfl : n0 = m := e0.symm.trans h2
    exact ⟨⟨B, d, h1, Rd.of_own h3⟩, h4⟩
  have HSm : Hid (∀ W B d, Below w.heap.size w W → Rd W B (flatZ l) → Calls Tryd.prog 12 #[.slice B n0 d, .slice A0 n0 c0] W fun e w' => e = .returned (.bool true) ∧ Qt W w') := fun W B d h hb =>
    sameZ_same B A0 n0 d c0 l W hb (r0.below h) e0 (by omega)
  have HAd : Hid (∀ W, Below w.heap.size w W → Calls Tryd.prog 13 #[.slice A0 n0 c0, .int .i64 id] W fun e w' => OwnR W.heap.size (addV l id) e w' ∧ Below W.heap.size W w') := fun W h =>
    cadd_any A0 n0 c0 l id W (r0.below h) e0 (by omega)
  have HDr : Hid (∀ W, Below w.heap.size w W → Calls Tryd.prog 14 #[.slice A0 n0 c0, .int .i64 id] W fun e w' => OwnR W.heap.size (dropV l id) e w' ∧ Below W.heap.size W w') := fun W h =>
    cdrop_any A0 n0 c0 l id W (r0.below h) e0 (by omega)
  have HHs : Hid (∀ W, Below w.heap.size w W → Calls Tryd.prog 9 #[.slice A0 n0 c0, .int .i64 id] W fun e w' => e = .returned (.bool (decide (id ∈ l))) ∧ w' = W) := fun W h =>
    chas_any A0 n0 c0 l id W (r0.below h) e0 (by omega)
  have HR := Lib.hid hr
  have hT0 : Hid (bs (textL l) = T) := hT.symm
  clear hp hm r0 e0 hr ht hs hin htl hT
  by_cases hg : (addV l id).2 = 0
  · obtain ⟨ha, h0, h1, hn⟩ := add_ok HR.out hg
    have hd := drop_add HR.out h0 h1 hn
    obtain ⟨s1, s2⟩ := step_add HR.out h0 h1 hn
    have hmem : id ∈ sortZ (l ++ [id]) := sort_mem.2 (.inr rfl)
    have hlen : (sortZ (l ++ [id])).length = n0 + 1 := by rw [sortZ_len, List.length_append, E0.out]; rfl
    obtain ⟨S, hS⟩ : ∃ S, S = sortZ (l ++ [id]) := ⟨_, rfl⟩
    rw [← hS] at ha hd s1 s2 hmem hlen
    rw [ha] at HAd
    have HA2 : Hid (∀ W, Below w.heap.size w W → Calls Tryd.prog 13 #[.slice A0 n0 c0, .int .i64 id] W fun e w' => (∃ B d, e = .returned (.tuple #[.slice B (n0 + 1) d, .int .i64 0]) ∧ Rd w' B (flatZ S)) ∧ Below W.heap.size W w') := fun W h => by
      refine (HAd.out W h).mono ?_
      rintro e w' ⟨⟨B, m, d, x1, x2, x3⟩, x4⟩
      obtain rfl : n0 + 1 = m := hlen.symm.trans x2
      exact ⟨⟨B, d, x1, Rd.of_own x3⟩, x4⟩
    have HD2 : Hid (∀ W B d, Rd W B (flatZ S) → Calls Tryd.prog 14 #[.slice B (n0 + 1) d, .int .i64 id] W fun e w' => (∃ B d, e = .returned (.tuple #[.slice B n0 d, .int .i64 0]) ∧ Rd w' B (flatZ l)) ∧ Below W.heap.size W w') := fun W B d hb => by
      refine (cdrop_any B (n0 + 1) d S id W hb hlen (by omega)).mono ?_
      rw [hd]
      rintro e w' ⟨⟨B, m, d, x1, x2, x3⟩, x4⟩
      obtain rfl : n0 = m := E0.out.symm.trans x2
      exact ⟨⟨B, d, x1, Rd.of_own x3⟩, x4⟩
    have HS1 : Hid (∀ W B d, Below w.heap.size w W → Rd W B (flatZ S) → Calls Tryd.prog 6 #[.slice A0 n0 c0, .slice B (n0 + 1) d] W fun e w' => e = .returned (.bool true) ∧ Qt W w') := fun W B d h hb => by
      rw [← s1]; exact cstep_any A0 B n0 c0 (n0 + 1) d l S W (R0.out.below h) E0.out hb hlen (by omega) (by omega)
    have HS2 : Hid (∀ W B d, Below w.heap.size w W → Rd W B (flatZ S) → Calls Tryd.prog 6 #[.slice B (n0 + 1) d, .slice A0 n0 c0] W fun e w' => e = .returned (.bool true) ∧ Qt W w') := fun W B d h hb => by
      rw [← s2]; exact cstep_any B A0 (n0 + 1) d n0 c0 S l W hb hlen (R0.out.below h) E0.out (by omega) (by omega)
    have HH1 : Hid (∀ W B d, Rd W B (flatZ S) → Calls Tryd.prog 9 #[.slice B (n0 + 1) d, .int .i64 id] W fun e w' => e = .returned (.bool true) ∧ w' = W) := fun W B d hb => by
      rw [← decide_eq_true hmem]; exact chas_any B (n0 + 1) d S id W hb hlen (by omega)
    rw [decide_eq_false hn] at HHs
    clear hg ha hd s1 s2 hmem hlen hS HAd HDr hn h0 h1
    go_enter Tryd.func4, Tryd.ntmps4
    go_wp2_with (first
      | (go_at_call 5; refine HA.out.mono ?_; rintro e w1 ⟨rfl, b1⟩)
      | (go_at_call 10; refine (HT.out _ b1).mono ?_; rintro e w2 ⟨rfl, b2⟩; have B2 := below_of b2 b1 b1.size)
      | (go_at_call 11; refine (HRd.out _ B2).mono ?_; rintro e w3 ⟨⟨B3, d3, rfl, r3⟩, b3⟩; have B3' := below_of b3 B2 B2.size)
      | (go_at_call 12; ((with_reducible refine (HSm.out _ _ _ B3' r3).mono ?_); rintro e w4 ⟨rfl, q4⟩); have B4 := below_of (q4.below _) B3' B3'.size)
      | (go_at_call 6; ((with_reducible refine (HS0.out _ B4).mono ?_); rintro e w5 ⟨rfl, q5⟩); have B5 := below_of (q5.below _) B4 B4.size)
      | (go_at_call 13; refine (HA2.out _ B5).mono ?_; rintro e w6 ⟨⟨B6, d6, rfl, r6⟩, b6⟩; have B6' := below_of b6 B5 B5.size)
      | (go_at_call 14; refine (HD2.out _ _ _ r6).mono ?_; rintro e w7 ⟨⟨B7, d7, rfl, r7⟩, b7⟩; have B7' := below_of b7 B6' B6'.size; have r67 := r6.below b7)
      | (go_at_call 12; ((with_reducible refine (HSm.out _ _ _ B7' r7).mono ?_); rintro e w8 ⟨rfl, q8⟩); have B8 := below_of (q8.below _) B7' B7'.size; have r68 := r67.below (q8.below _))
      | (go_at_call 6; ((with_reducible refine (HS1.out _ _ _ B8 r68).mono ?_); rintro e w9 ⟨rfl, q9⟩); have B9 := below_of (q9.below _) B8 B8.size; have r69 := r68.below (q9.below _))
      | (go_at_call 6; ((with_reducible refine (HS2.out _ _ _ B9 r69).mono ?_); rintro e w10 ⟨rfl, q10⟩); have B10 := below_of (q10.below _) B9 B9.size; have r610 := r69.below (q10.below _))
      | (go_at_call 9; ((with_reducible refine (HH1.out _ _ _ r610).mono ?_); rintro e w11 ⟨rfl, hw11⟩); subst hw11)
      | (go_at_call 9; ((with_reducible refine (HHs.out _ B10).mono ?_); rintro e w12 ⟨rfl, hw12⟩); subst hw12))
    go_ret
    exact ⟨rfl, B10⟩
  · have hnil := add_err hg
    obtain ⟨y, hy⟩ : ∃ y, y = (addV l id).2 := ⟨_, rfl⟩
    have HA2 : Hid (∀ W, Below w.heap.size w W → Calls Tryd.prog 13 #[.slice A0 n0 c0, .int .i64 id] W fun e w' => (∃ B d, e = .returned (.tuple #[.slice B 0 d, .int .i64 y])) ∧ Below W.heap.size W w') := fun W h => by
      refine (HAd.out W h).mono ?_
      rintro e w' ⟨⟨B, m, d, x1, x2, x3⟩, x4⟩
      rw [hnil] at x2
      obtain rfl : 0 = m := x2
      exact ⟨⟨B, d, by rw [x1, hy]⟩, x4⟩
    have hy0 : (y == 0) = false := by rw [beq_eq_false_iff_ne, hy]; exact hg
    by_cases hd0 : (dropV l id).2 = 0
    · obtain ⟨hd, _, h0, h1, hmem, hl1⟩ := drop_ok hd0
      have had := add_drop HR.out h0 h1 hmem hl1
      have hst := step_drop (id := id) HR.out hmem hl1
      have h9 := add_dup HR.out h0 h1 hmem
      have hno : id ∉ (l.filter fun x => !(x == id)) := by rw [filter_mem]; exact fun h => h.2 rfl
      rw [← hy] at h9
      subst h9
      obtain ⟨S, hS⟩ : ∃ S, S = l.filter fun x => !(x == id) := ⟨_, rfl⟩
      obtain ⟨m, hml⟩ : ∃ m, S.length = m := ⟨_, rfl⟩
      have hm20 : m ≤ 20 := by rw [← hml, hS]; exact Nat.le_trans (List.length_filter_le _ _) (by have := E0.out; omega)
      rw [← hS] at hd had hst hno
      rw [hd] at HDr
      have HD2 : Hid (∀ W, Below w.heap.size w W → Calls Tryd.prog 14 #[.slice A0 n0 c0, .int .i64 id] W fun e w' => (∃ B d, e = .returned (.tuple #[.slice B m d, .int .i64 0]) ∧ Rd w' B (flatZ S)) ∧ Below W.heap.size W w') := fun W h => by
        refine (HDr.out W h).mono ?_
        rintro e w' ⟨⟨B, m', d, x1, x2, x3⟩, x4⟩
        obtain rfl : m = m' := hml.symm.trans x2
        exact ⟨⟨B, d, x1, Rd.of_own x3⟩, x4⟩
      have HA3 : Hid (∀ W B d, Rd W B (flatZ S) → Calls Tryd.prog 13 #[.slice B m d, .int .i64 id] W fun e w' => (∃ B d, e = .returned (.tuple #[.slice B n0 d, .int .i64 0]) ∧ Rd w' B (flatZ l)) ∧ Below W.heap.size W w') := fun W B d hb => by
        refine (cadd_any B m d S id W hb hml (by omega)).mono ?_
        rw [had]
        rintro e w' ⟨⟨B, m', d, x1, x2, x3⟩, x4⟩
        obtain rfl : n0 = m' := E0.out.symm.trans x2
        exact ⟨⟨B, d, x1, Rd.of_own x3⟩, x4⟩
      have HS1 : Hid (∀ W B d, Below w.heap.size w W → Rd W B (flatZ S) → Calls Tryd.prog 6 #[.slice A0 n0 c0, .slice B m d] W fun e w' => e = .returned (.bool true) ∧ Qt W w') := fun W B d h hb => by
        rw [← hst]; exact cstep_any A0 B n0 c0 m d l S W (R0.out.below h) E0.out hb hml (by omega) (by omega)
      have HH1 : Hid (∀ W B d, Rd W B (flatZ S) → Calls Tryd.prog 9 #[.slice B m d, .int .i64 id] W fun e w' => e = .returned (.bool false) ∧ w' = W) := fun W B d hb => by
        rw [← decide_eq_false hno]; exact chas_any B m d S id W hb hml (by omega)
      clear hg hnil hd0 hd h0 h1 hmem hl1 had hst hno hS hml HAd HDr HHs
      go_enter Tryd.func4, Tryd.ntmps4
      go_wp2_with (first
        | (go_at_call 5; refine HA.out.mono ?_; rintro e w1 ⟨rfl, b1⟩)
        | (go_at_call 10; refine (HT.out _ b1).mono ?_; rintro e w2 ⟨rfl, b2⟩; have B2 := below_of b2 b1 b1.size)
        | (go_at_call 11; refine (HRd.out _ B2).mono ?_; rintro e w3 ⟨⟨B3, d3, rfl, r3⟩, b3⟩; have B3' := below_of b3 B2 B2.size)
        | (go_at_call 12; ((with_reducible refine (HSm.out _ _ _ B3' r3).mono ?_); rintro e w4 ⟨rfl, q4⟩); have B4 := below_of (q4.below _) B3' B3'.size)
        | (go_at_call 6; ((with_reducible refine (HS0.out _ B4).mono ?_); rintro e w5 ⟨rfl, q5⟩); have B5 := below_of (q5.below _) B4 B4.size)
        | (go_at_call 13; ((with_reducible refine (HA2.out _ B5).mono ?_); rintro e w6 ⟨⟨B6, d6, rfl⟩, b6⟩); have B6' := below_of b6 B5 B5.size)
        | (go_at_call 14; refine (HD2.out _ B6').mono ?_; rintro e w7 ⟨⟨B7, d7, rfl, r7⟩, b7⟩; have B7' := below_of b7 B6' B6'.size)
        | (go_at_call 13; ((with_reducible refine (HA3.out _ _ _ r7).mono ?_); rintro e w8 ⟨⟨B8, d8, rfl, r8⟩, b8⟩); have B8' := below_of b8 B7' B7'.size; have r78 := r7.below b8)
        | (go_at_call 12; ((with_reducible refine (HSm.out _ _ _ B8' r8).mono ?_); rintro e w9 ⟨rfl, q9⟩); have B9 := below_of (q9.below _) B8' B8'.size; have r79 := r78.below (q9.below _))
        | (go_at_call 6; ((with_reducible refine (HS1.out _ _ _ B9 r79).mono ?_); rintro e w10 ⟨rfl, q10⟩); have B10 := below_of (q10.below _) B9 B9.size; have r710 := r79.below (q10.below _))
        | (go_at_call 9; ((with_reducible refine (HH1.out _ _ _ r710).mono ?_); rintro e w11 ⟨rfl, hw11⟩); subst hw11))
      go_ret
      exact ⟨rfl, B10⟩
    · have hdn := drop_err hd0
      obtain ⟨z, hz⟩ : ∃ z, z = (dropV l id).2 := ⟨_, rfl⟩
      have HD2 : Hid (∀ W, Below w.heap.size w W → Calls Tryd.prog 14 #[.slice A0 n0 c0, .int .i64 id] W fun e w' => (∃ B d, e = .returned (.tuple #[.slice B 0 d, .int .i64 z])) ∧ Below W.heap.size W w') := fun W h => by
        refine (HDr.out W h).mono ?_
        rintro e w' ⟨⟨B, m, d, x1, x2, x3⟩, x4⟩
        rw [hdn] at x2
        obtain rfl : 0 = m := x2
        exact ⟨⟨B, d, by rw [x1, hz]⟩, x4⟩
      have hz0 : (z == 0) = false := by rw [beq_eq_false_iff_ne, hz]; exact hd0
      clear hg hnil hd0 hdn hz hy HAd HDr HHs
      go_enter Tryd.func4, Tryd.ntmps4
      go_wp2_with (first
        | (go_at_call 5; refine HA.out.mono ?_; rintro e w1 ⟨rfl, b1⟩)
        | (go_at_call 10; refine (HT.out _ b1).mono ?_; rintro e w2 ⟨rfl, b2⟩; have B2 := below_of b2 b1 b1.size)
        | (go_at_call 11; refine (HRd.out _ B2).mono ?_; rintro e w3 ⟨⟨B3, d3, rfl, r3⟩, b3⟩; have B3' := below_of b3 B2 B2.size)
        | (go_at_call 12; ((with_reducible refine (HSm.out _ _ _ B3' r3).mono ?_); rintro e w4 ⟨rfl, q4⟩); have B4 := below_of (q4.below _) B3' B3'.size)
        | (go_at_call 6; ((with_reducible refine (HS0.out _ B4).mono ?_); rintro e w5 ⟨rfl, q5⟩); have B5 := below_of (q5.below _) B4 B4.size)
        | (go_at_call 13; ((with_reducible refine (HA2.out _ B5).mono ?_); rintro e w6 ⟨⟨B6, d6, rfl⟩, b6⟩); have B6' := below_of b6 B5 B5.size)
        | (go_at_call 14; refine (HD2.out _ B6').mono ?_; rintro e w7 ⟨⟨B7, d7, rfl⟩, b7⟩; have B7' := below_of b7 B6' B6'.size))
      go_ret
      exact ⟨rfl, B7'⟩
end Go.Proofs.YtkbfcmkocgkdjaaDoor
