/-
  What the document's Choose gives, from what ReadMeta gives of its two texts. No other condition.
-/
import Derived.Test.YtkenhcgdnbgnpaaMetaRefRead
namespace Go.Proofs.Ytkenhcgdnbgnpaa
open Go Go.RowKit
attribute [local go_sem] cell_set_if

theorem chM_one {ma mb : Mt} {ea eb : Nat} (h1 : ea = 0) (h2 : ma.tx % 2 = 0) (h3 : 0 < ma.tx) (h4 : ¬ (eb = 0 ∧ mb.tx % 2 = 1) ∨ mb.tx < ma.tx) : chM ma ea mb eb = ma := by
  have h : ch1 ma ea = ma := by unfold ch1; rw [if_pos ⟨h1, h2, h3⟩]
  unfold chM ch2
  rw [h, if_neg]
  rintro ⟨a, b, c⟩
  rcases h4 with h | h
  · exact h ⟨a, b⟩
  · omega
theorem chM_two {ma mb : Mt} {ea eb : Nat} (h1 : eb = 0) (h2 : mb.tx % 2 = 1) (h3 : 0 < mb.tx) (h4 : ¬ (ea = 0 ∧ ma.tx % 2 = 0) ∨ ma.tx ≤ mb.tx) : chM ma ea mb eb = mb := by
  by_cases h : ea = 0 ∧ ma.tx % 2 = 0 ∧ 0 < ma.tx
  · have hc : ch1 ma ea = ma := by unfold ch1; rw [if_pos h]
    unfold chM ch2
    rw [hc, if_pos]
    refine ⟨h1, h2, ?_⟩
    rcases h4 with h5 | h5
    · exact absurd ⟨h.1, h.2.1⟩ h5
    · omega
  · have hc : ch1 ma ea = noM := by unfold ch1; rw [if_neg h]
    unfold chM ch2
    rw [hc, if_pos]
    exact ⟨h1, h2, h3⟩
theorem chM_no {ma mb : Mt} {ea eb : Nat} (h1 : ¬ (ea = 0 ∧ ma.tx % 2 = 0)) (h2 : ¬ (eb = 0 ∧ mb.tx % 2 = 1)) : chM ma ea mb eb = noM := by
  have hc : ch1 ma ea = noM := by unfold ch1; rw [if_neg (fun h => h1 ⟨h.1, h.2.1⟩)]
  unfold chM ch2
  rw [hc, if_neg (fun h => h2 ⟨h.1, h.2.1⟩)]
set_option maxRecDepth 100000 in
set_option maxHeartbeats 4000000 in
theorem refchoose_any (a b : ByteArray) (ma mb : Mt) (ea eb : Nat) (ha : ∀ w, Calls Try.prog 12 #[.string a] w fun e w' => e = .returned (.tuple #[metaV ma, .int .i64 ea]) ∧ Below w.heap.size w w')
    (hb : ∀ w, Calls Try.prog 12 #[.string b] w fun e w' => e = .returned (.tuple #[metaV mb, .int .i64 eb]) ∧ Below w.heap.size w w') (pa : ea = 0 → 0 < ma.tx) (pb : eb = 0 → 0 < mb.tx) (w : World) :
    Calls Try.prog 14 #[.string a, .string b] w fun e w' => e = .returned (.tuple #[metaV (if (chM ma ea mb eb).tx = 0 then noM else chM ma ea mb eb), .int .i64 (if (chM ma ea mb eb).tx = 0 then 25 else 0)]) ∧ Below w.heap.size w w' := by
  have R0 : Blk (w.alloc (.cells #[.int .i64 0, .int .i64 0, .int .i64 0, .int .i64 0] 29)) w.heap.size 29 #[.int .i64 0, .int .i64 0, .int .i64 0, .int .i64 0] := Blk.new _ _ _
  obtain ⟨xa, ra, fa, ga⟩ := ma
  obtain ⟨xb, rb, fb, gb⟩ := mb
  simp only [] at pa pb
  by_cases ka : ea = 0
  · have pa := pa ka
    by_cases ka2 : xa % 2 = 0
    · skip
      by_cases kb : eb = 0
      · have pb := pb kb
        by_cases kb2 : xb % 2 = 0
        · skip
          have p0 : ((ea : Int) == 0) = true := by simp; omega
          obtain ⟨ta, hta⟩ : ∃ t : Nat, xa = (t : Int) := ⟨xa.toNat, by omega⟩
          subst hta
          have p1 : (ta : Int) % 2 = 0 := by omega
          have q0 : ((eb : Int) == 0) = true := by simp; omega
          obtain ⟨tb, htb⟩ : ∃ t : Nat, xb = (t : Int) := ⟨xb.toNat, by omega⟩
          subst htb
          have q1 : (tb : Int) % 2 = 0 := by omega
          have HC := Lib.hid (chM_one (ma := ⟨ta, ra, fa, ga⟩) (mb := ⟨tb, rb, fb, gb⟩) (ea := ea) (eb := eb) (by omega) (by simp only []; omega) (by simp only []; omega) (.inl (by simp only []; omega)))
          rw [HC.out, if_neg (show ¬ (_ : Int) = 0 by simp only []; omega), if_neg (show ¬ (_ : Int) = 0 by simp only []; omega)]
          clear HC pa pb
          go_enter Try.func14, Try.ntmps14
          go_wp2_with (first
            | (go_at_call 12; with_reducible refine (ha _).mono ?_; rintro e w1 ⟨rfl, b1⟩; have R1 := (R0.below b1).alloc (.cells #[.int .i64 ta, .int .i64 ra, .int .i64 fa, .int .i64 ga] 29); have X1 := Blk.new w1 29 #[.int .i64 ta, .int .i64 ra, .int .i64 fa, .int .i64 ga]; have B1 : Below w.heap.size w w1 := below_of b1 ((Below.refl _ _).alloc (Nat.le_refl _) _) (by simp); have B1a := B1.alloc B1.size (.cells #[.int .i64 ta, .int .i64 ra, .int .i64 fa, .int .i64 ga] 29))
            | (go_at_call 12; with_reducible refine (hb _).mono ?_; rintro e w2 ⟨rfl, b2⟩; have R2 := (R1.below b2).alloc (.cells #[.int .i64 tb, .int .i64 rb, .int .i64 fb, .int .i64 gb] 29); have X2 := (X1.below b2).alloc (.cells #[.int .i64 tb, .int .i64 rb, .int .i64 fb, .int .i64 gb] 29); have Y2 := Blk.new w2 29 #[.int .i64 tb, .int .i64 rb, .int .i64 fb, .int .i64 gb]; have B2 := below_of b2 B1a B1a.size; have B2a := B2.alloc B2.size (.cells #[.int .i64 tb, .int .i64 rb, .int .i64 fb, .int .i64 gb] 29); have rc2 := R2.cell; have rf2 := R2.free; have xc2 := X2.cell; have yc2 := Y2.cell))
          go_quiet (fail)
          go_wp2
          refine bodyPost_ret (v := .tuple #[m4 ta ra fa ga, .int .i64 0]) (by rw [results_cell_tmp rfl]; go_simp) rfl ⟨rfl, ?_⟩
          repeat (refine Below.setCell ?_ (by exact Nat.le_refl _) _)
          exact below_drewN B2a _
        · skip
          have p0 : ((ea : Int) == 0) = true := by simp; omega
          obtain ⟨ta, hta⟩ : ∃ t : Nat, xa = (t : Int) := ⟨xa.toNat, by omega⟩
          subst hta
          have p1 : (ta : Int) % 2 = 0 := by omega
          have q0 : ((eb : Int) == 0) = true := by simp; omega
          obtain ⟨tb, htb⟩ : ∃ t : Nat, xb = (t : Int) := ⟨xb.toNat, by omega⟩
          subst htb
          have q1 : (tb : Int) % 2 = 1 := by omega
          by_cases hlt : tb < ta
          · have hlti : (tb : Int) < (ta : Int) := by omega
            have HC := Lib.hid (chM_one (ma := ⟨ta, ra, fa, ga⟩) (mb := ⟨tb, rb, fb, gb⟩) (ea := ea) (eb := eb) (by omega) (by simp only []; omega) (by simp only []; omega) (.inr (by simp only []; omega)))
            rw [HC.out, if_neg (show ¬ (_ : Int) = 0 by simp only []; omega), if_neg (show ¬ (_ : Int) = 0 by simp only []; omega)]
            clear HC pa pb
            go_enter Try.func14, Try.ntmps14
            go_wp2_with (first
              | (go_at_call 12; with_reducible refine (ha _).mono ?_; rintro e w1 ⟨rfl, b1⟩; have R1 := (R0.below b1).alloc (.cells #[.int .i64 ta, .int .i64 ra, .int .i64 fa, .int .i64 ga] 29); have X1 := Blk.new w1 29 #[.int .i64 ta, .int .i64 ra, .int .i64 fa, .int .i64 ga]; have B1 : Below w.heap.size w w1 := below_of b1 ((Below.refl _ _).alloc (Nat.le_refl _) _) (by simp); have B1a := B1.alloc B1.size (.cells #[.int .i64 ta, .int .i64 ra, .int .i64 fa, .int .i64 ga] 29))
              | (go_at_call 12; with_reducible refine (hb _).mono ?_; rintro e w2 ⟨rfl, b2⟩; have R2 := (R1.below b2).alloc (.cells #[.int .i64 tb, .int .i64 rb, .int .i64 fb, .int .i64 gb] 29); have X2 := (X1.below b2).alloc (.cells #[.int .i64 tb, .int .i64 rb, .int .i64 fb, .int .i64 gb] 29); have Y2 := Blk.new w2 29 #[.int .i64 tb, .int .i64 rb, .int .i64 fb, .int .i64 gb]; have B2 := below_of b2 B1a B1a.size; have B2a := B2.alloc B2.size (.cells #[.int .i64 tb, .int .i64 rb, .int .i64 fb, .int .i64 gb] 29); have rc2 := R2.cell; have rf2 := R2.free; have xc2 := X2.cell; have yc2 := Y2.cell))
            go_quiet (fail)
            go_wp2
            refine bodyPost_ret (v := .tuple #[m4 ta ra fa ga, .int .i64 0]) (by rw [results_cell_tmp rfl]; go_simp) rfl ⟨rfl, ?_⟩
            repeat (refine Below.setCell ?_ (by exact Nat.le_refl _) _)
            exact below_drewN B2a _
          · have hlti : (ta : Int) ≤ (tb : Int) := by omega
            have HC := Lib.hid (chM_two (ma := ⟨ta, ra, fa, ga⟩) (mb := ⟨tb, rb, fb, gb⟩) (ea := ea) (eb := eb) (by omega) (by simp only []; omega) (by simp only []; omega) (.inr (by simp only []; omega)))
            rw [HC.out, if_neg (show ¬ (_ : Int) = 0 by simp only []; omega), if_neg (show ¬ (_ : Int) = 0 by simp only []; omega)]
            clear HC pa pb
            go_enter Try.func14, Try.ntmps14
            go_wp2_with (first
              | (go_at_call 12; with_reducible refine (ha _).mono ?_; rintro e w1 ⟨rfl, b1⟩; have R1 := (R0.below b1).alloc (.cells #[.int .i64 ta, .int .i64 ra, .int .i64 fa, .int .i64 ga] 29); have X1 := Blk.new w1 29 #[.int .i64 ta, .int .i64 ra, .int .i64 fa, .int .i64 ga]; have B1 : Below w.heap.size w w1 := below_of b1 ((Below.refl _ _).alloc (Nat.le_refl _) _) (by simp); have B1a := B1.alloc B1.size (.cells #[.int .i64 ta, .int .i64 ra, .int .i64 fa, .int .i64 ga] 29))
              | (go_at_call 12; with_reducible refine (hb _).mono ?_; rintro e w2 ⟨rfl, b2⟩; have R2 := (R1.below b2).alloc (.cells #[.int .i64 tb, .int .i64 rb, .int .i64 fb, .int .i64 gb] 29); have X2 := (X1.below b2).alloc (.cells #[.int .i64 tb, .int .i64 rb, .int .i64 fb, .int .i64 gb] 29); have Y2 := Blk.new w2 29 #[.int .i64 tb, .int .i64 rb, .int .i64 fb, .int .i64 gb]; have B2 := below_of b2 B1a B1a.size; have B2a := B2.alloc B2.size (.cells #[.int .i64 tb, .int .i64 rb, .int .i64 fb, .int .i64 gb] 29); have rc2 := R2.cell; have rf2 := R2.free; have xc2 := X2.cell; have yc2 := Y2.cell))
            go_quiet (fail)
            go_wp2
            refine bodyPost_ret (v := .tuple #[m4 tb rb fb gb, .int .i64 0]) (by rw [results_cell_tmp rfl]; go_simp) rfl ⟨rfl, ?_⟩
            repeat (refine Below.setCell ?_ (by exact Nat.le_refl _) _)
            exact below_drewN B2a _
      · skip
        have p0 : ((ea : Int) == 0) = true := by simp; omega
        obtain ⟨ta, hta⟩ : ∃ t : Nat, xa = (t : Int) := ⟨xa.toNat, by omega⟩
        subst hta
        have p1 : (ta : Int) % 2 = 0 := by omega
        have q0 : ((eb : Int) == 0) = false := by simp; omega
        have HC := Lib.hid (chM_one (ma := ⟨ta, ra, fa, ga⟩) (mb := ⟨xb, rb, fb, gb⟩) (ea := ea) (eb := eb) (by omega) (by simp only []; omega) (by simp only []; omega) (.inl (by simp only []; omega)))
        rw [HC.out, if_neg (show ¬ (_ : Int) = 0 by simp only []; omega), if_neg (show ¬ (_ : Int) = 0 by simp only []; omega)]
        clear HC pa pb
        go_enter Try.func14, Try.ntmps14
        go_wp2_with (first
          | (go_at_call 12; with_reducible refine (ha _).mono ?_; rintro e w1 ⟨rfl, b1⟩; have R1 := (R0.below b1).alloc (.cells #[.int .i64 ta, .int .i64 ra, .int .i64 fa, .int .i64 ga] 29); have X1 := Blk.new w1 29 #[.int .i64 ta, .int .i64 ra, .int .i64 fa, .int .i64 ga]; have B1 : Below w.heap.size w w1 := below_of b1 ((Below.refl _ _).alloc (Nat.le_refl _) _) (by simp); have B1a := B1.alloc B1.size (.cells #[.int .i64 ta, .int .i64 ra, .int .i64 fa, .int .i64 ga] 29))
          | (go_at_call 12; with_reducible refine (hb _).mono ?_; rintro e w2 ⟨rfl, b2⟩; have R2 := (R1.below b2).alloc (.cells #[.int .i64 xb, .int .i64 rb, .int .i64 fb, .int .i64 gb] 29); have X2 := (X1.below b2).alloc (.cells #[.int .i64 xb, .int .i64 rb, .int .i64 fb, .int .i64 gb] 29); have Y2 := Blk.new w2 29 #[.int .i64 xb, .int .i64 rb, .int .i64 fb, .int .i64 gb]; have B2 := below_of b2 B1a B1a.size; have B2a := B2.alloc B2.size (.cells #[.int .i64 xb, .int .i64 rb, .int .i64 fb, .int .i64 gb] 29); have rc2 := R2.cell; have rf2 := R2.free; have xc2 := X2.cell; have yc2 := Y2.cell))
        go_quiet (fail)
        go_wp2
        refine bodyPost_ret (v := .tuple #[m4 ta ra fa ga, .int .i64 0]) (by rw [results_cell_tmp rfl]; go_simp) rfl ⟨rfl, ?_⟩
        repeat (refine Below.setCell ?_ (by exact Nat.le_refl _) _)
        exact below_drewN B2a _
    · skip
      by_cases kb : eb = 0
      · have pb := pb kb
        by_cases kb2 : xb % 2 = 0
        · skip
          have p0 : ((ea : Int) == 0) = true := by simp; omega
          obtain ⟨ta, hta⟩ : ∃ t : Nat, xa = (t : Int) := ⟨xa.toNat, by omega⟩
          subst hta
          have p1 : (ta : Int) % 2 = 1 := by omega
          have q0 : ((eb : Int) == 0) = true := by simp; omega
          obtain ⟨tb, htb⟩ : ∃ t : Nat, xb = (t : Int) := ⟨xb.toNat, by omega⟩
          subst htb
          have q1 : (tb : Int) % 2 = 0 := by omega
          have HC := Lib.hid (chM_no (ma := ⟨ta, ra, fa, ga⟩) (mb := ⟨tb, rb, fb, gb⟩) (ea := ea) (eb := eb) (by simp only []; omega) (by simp only []; omega))
          rw [HC.out, if_pos (show noM.tx = 0 from rfl), if_pos (show noM.tx = 0 from rfl)]
          clear HC pa pb
          go_enter Try.func14, Try.ntmps14
          go_wp2_with (first
            | (go_at_call 12; with_reducible refine (ha _).mono ?_; rintro e w1 ⟨rfl, b1⟩; have R1 := (R0.below b1).alloc (.cells #[.int .i64 ta, .int .i64 ra, .int .i64 fa, .int .i64 ga] 29); have X1 := Blk.new w1 29 #[.int .i64 ta, .int .i64 ra, .int .i64 fa, .int .i64 ga]; have B1 : Below w.heap.size w w1 := below_of b1 ((Below.refl _ _).alloc (Nat.le_refl _) _) (by simp); have B1a := B1.alloc B1.size (.cells #[.int .i64 ta, .int .i64 ra, .int .i64 fa, .int .i64 ga] 29))
            | (go_at_call 12; with_reducible refine (hb _).mono ?_; rintro e w2 ⟨rfl, b2⟩; have R2 := (R1.below b2).alloc (.cells #[.int .i64 tb, .int .i64 rb, .int .i64 fb, .int .i64 gb] 29); have X2 := (X1.below b2).alloc (.cells #[.int .i64 tb, .int .i64 rb, .int .i64 fb, .int .i64 gb] 29); have Y2 := Blk.new w2 29 #[.int .i64 tb, .int .i64 rb, .int .i64 fb, .int .i64 gb]; have B2 := below_of b2 B1a B1a.size; have B2a := B2.alloc B2.size (.cells #[.int .i64 tb, .int .i64 rb, .int .i64 fb, .int .i64 gb] 29); have rc2 := R2.cell; have rf2 := R2.free; have xc2 := X2.cell; have yc2 := Y2.cell))
          go_quiet (fail)
          go_wp2
          refine bodyPost_ret (v := .tuple #[m4 0 0 0 0, .int .i64 25]) (by rw [results_cell_tmp rfl]; go_simp) rfl ⟨rfl, ?_⟩
          repeat (refine Below.setCell ?_ (by exact Nat.le_refl _) _)
          exact below_drewN B2a _
        · skip
          have p0 : ((ea : Int) == 0) = true := by simp; omega
          obtain ⟨ta, hta⟩ : ∃ t : Nat, xa = (t : Int) := ⟨xa.toNat, by omega⟩
          subst hta
          have p1 : (ta : Int) % 2 = 1 := by omega
          have q0 : ((eb : Int) == 0) = true := by simp; omega
          obtain ⟨tb, htb⟩ : ∃ t : Nat, xb = (t : Int) := ⟨xb.toNat, by omega⟩
          subst htb
          have q1 : (tb : Int) % 2 = 1 := by omega
          have HC := Lib.hid (chM_two (ma := ⟨ta, ra, fa, ga⟩) (mb := ⟨tb, rb, fb, gb⟩) (ea := ea) (eb := eb) (by omega) (by simp only []; omega) (by simp only []; omega) (.inl (by simp only []; omega)))
          rw [HC.out, if_neg (show ¬ (_ : Int) = 0 by simp only []; omega), if_neg (show ¬ (_ : Int) = 0 by simp only []; omega)]
          clear HC pa pb
          go_enter Try.func14, Try.ntmps14
          go_wp2_with (first
            | (go_at_call 12; with_reducible refine (ha _).mono ?_; rintro e w1 ⟨rfl, b1⟩; have R1 := (R0.below b1).alloc (.cells #[.int .i64 ta, .int .i64 ra, .int .i64 fa, .int .i64 ga] 29); have X1 := Blk.new w1 29 #[.int .i64 ta, .int .i64 ra, .int .i64 fa, .int .i64 ga]; have B1 : Below w.heap.size w w1 := below_of b1 ((Below.refl _ _).alloc (Nat.le_refl _) _) (by simp); have B1a := B1.alloc B1.size (.cells #[.int .i64 ta, .int .i64 ra, .int .i64 fa, .int .i64 ga] 29))
            | (go_at_call 12; with_reducible refine (hb _).mono ?_; rintro e w2 ⟨rfl, b2⟩; have R2 := (R1.below b2).alloc (.cells #[.int .i64 tb, .int .i64 rb, .int .i64 fb, .int .i64 gb] 29); have X2 := (X1.below b2).alloc (.cells #[.int .i64 tb, .int .i64 rb, .int .i64 fb, .int .i64 gb] 29); have Y2 := Blk.new w2 29 #[.int .i64 tb, .int .i64 rb, .int .i64 fb, .int .i64 gb]; have B2 := below_of b2 B1a B1a.size; have B2a := B2.alloc B2.size (.cells #[.int .i64 tb, .int .i64 rb, .int .i64 fb, .int .i64 gb] 29); have rc2 := R2.cell; have rf2 := R2.free; have xc2 := X2.cell; have yc2 := Y2.cell))
          go_quiet (fail)
          go_wp2
          refine bodyPost_ret (v := .tuple #[m4 tb rb fb gb, .int .i64 0]) (by rw [results_cell_tmp rfl]; go_simp) rfl ⟨rfl, ?_⟩
          repeat (refine Below.setCell ?_ (by exact Nat.le_refl _) _)
          exact below_drewN B2a _
      · skip
        have p0 : ((ea : Int) == 0) = true := by simp; omega
        obtain ⟨ta, hta⟩ : ∃ t : Nat, xa = (t : Int) := ⟨xa.toNat, by omega⟩
        subst hta
        have p1 : (ta : Int) % 2 = 1 := by omega
        have q0 : ((eb : Int) == 0) = false := by simp; omega
        have HC := Lib.hid (chM_no (ma := ⟨ta, ra, fa, ga⟩) (mb := ⟨xb, rb, fb, gb⟩) (ea := ea) (eb := eb) (by simp only []; omega) (by simp only []; omega))
        rw [HC.out, if_pos (show noM.tx = 0 from rfl), if_pos (show noM.tx = 0 from rfl)]
        clear HC pa pb
        go_enter Try.func14, Try.ntmps14
        go_wp2_with (first
          | (go_at_call 12; with_reducible refine (ha _).mono ?_; rintro e w1 ⟨rfl, b1⟩; have R1 := (R0.below b1).alloc (.cells #[.int .i64 ta, .int .i64 ra, .int .i64 fa, .int .i64 ga] 29); have X1 := Blk.new w1 29 #[.int .i64 ta, .int .i64 ra, .int .i64 fa, .int .i64 ga]; have B1 : Below w.heap.size w w1 := below_of b1 ((Below.refl _ _).alloc (Nat.le_refl _) _) (by simp); have B1a := B1.alloc B1.size (.cells #[.int .i64 ta, .int .i64 ra, .int .i64 fa, .int .i64 ga] 29))
          | (go_at_call 12; with_reducible refine (hb _).mono ?_; rintro e w2 ⟨rfl, b2⟩; have R2 := (R1.below b2).alloc (.cells #[.int .i64 xb, .int .i64 rb, .int .i64 fb, .int .i64 gb] 29); have X2 := (X1.below b2).alloc (.cells #[.int .i64 xb, .int .i64 rb, .int .i64 fb, .int .i64 gb] 29); have Y2 := Blk.new w2 29 #[.int .i64 xb, .int .i64 rb, .int .i64 fb, .int .i64 gb]; have B2 := below_of b2 B1a B1a.size; have B2a := B2.alloc B2.size (.cells #[.int .i64 xb, .int .i64 rb, .int .i64 fb, .int .i64 gb] 29); have rc2 := R2.cell; have rf2 := R2.free; have xc2 := X2.cell; have yc2 := Y2.cell))
        go_quiet (fail)
        go_wp2
        refine bodyPost_ret (v := .tuple #[m4 0 0 0 0, .int .i64 25]) (by rw [results_cell_tmp rfl]; go_simp) rfl ⟨rfl, ?_⟩
        repeat (refine Below.setCell ?_ (by exact Nat.le_refl _) _)
        exact below_drewN B2a _
  · skip
    by_cases kb : eb = 0
    · have pb := pb kb
      by_cases kb2 : xb % 2 = 0
      · skip
        have p0 : ((ea : Int) == 0) = false := by simp; omega
        have q0 : ((eb : Int) == 0) = true := by simp; omega
        obtain ⟨tb, htb⟩ : ∃ t : Nat, xb = (t : Int) := ⟨xb.toNat, by omega⟩
        subst htb
        have q1 : (tb : Int) % 2 = 0 := by omega
        have HC := Lib.hid (chM_no (ma := ⟨xa, ra, fa, ga⟩) (mb := ⟨tb, rb, fb, gb⟩) (ea := ea) (eb := eb) (by simp only []; omega) (by simp only []; omega))
        rw [HC.out, if_pos (show noM.tx = 0 from rfl), if_pos (show noM.tx = 0 from rfl)]
        clear HC pa pb
        go_enter Try.func14, Try.ntmps14
        go_wp2_with (first
          | (go_at_call 12; with_reducible refine (ha _).mono ?_; rintro e w1 ⟨rfl, b1⟩; have R1 := (R0.below b1).alloc (.cells #[.int .i64 xa, .int .i64 ra, .int .i64 fa, .int .i64 ga] 29); have X1 := Blk.new w1 29 #[.int .i64 xa, .int .i64 ra, .int .i64 fa, .int .i64 ga]; have B1 : Below w.heap.size w w1 := below_of b1 ((Below.refl _ _).alloc (Nat.le_refl _) _) (by simp); have B1a := B1.alloc B1.size (.cells #[.int .i64 xa, .int .i64 ra, .int .i64 fa, .int .i64 ga] 29))
          | (go_at_call 12; with_reducible refine (hb _).mono ?_; rintro e w2 ⟨rfl, b2⟩; have R2 := (R1.below b2).alloc (.cells #[.int .i64 tb, .int .i64 rb, .int .i64 fb, .int .i64 gb] 29); have X2 := (X1.below b2).alloc (.cells #[.int .i64 tb, .int .i64 rb, .int .i64 fb, .int .i64 gb] 29); have Y2 := Blk.new w2 29 #[.int .i64 tb, .int .i64 rb, .int .i64 fb, .int .i64 gb]; have B2 := below_of b2 B1a B1a.size; have B2a := B2.alloc B2.size (.cells #[.int .i64 tb, .int .i64 rb, .int .i64 fb, .int .i64 gb] 29); have rc2 := R2.cell; have rf2 := R2.free; have xc2 := X2.cell; have yc2 := Y2.cell))
        go_quiet (fail)
        go_wp2
        refine bodyPost_ret (v := .tuple #[m4 0 0 0 0, .int .i64 25]) (by rw [results_cell_tmp rfl]; go_simp) rfl ⟨rfl, ?_⟩
        repeat (refine Below.setCell ?_ (by exact Nat.le_refl _) _)
        exact below_drewN B2a _
      · skip
        have p0 : ((ea : Int) == 0) = false := by simp; omega
        have q0 : ((eb : Int) == 0) = true := by simp; omega
        obtain ⟨tb, htb⟩ : ∃ t : Nat, xb = (t : Int) := ⟨xb.toNat, by omega⟩
        subst htb
        have q1 : (tb : Int) % 2 = 1 := by omega
        have HC := Lib.hid (chM_two (ma := ⟨xa, ra, fa, ga⟩) (mb := ⟨tb, rb, fb, gb⟩) (ea := ea) (eb := eb) (by omega) (by simp only []; omega) (by simp only []; omega) (.inl (by simp only []; omega)))
        rw [HC.out, if_neg (show ¬ (_ : Int) = 0 by simp only []; omega), if_neg (show ¬ (_ : Int) = 0 by simp only []; omega)]
        clear HC pa pb
        go_enter Try.func14, Try.ntmps14
        go_wp2_with (first
          | (go_at_call 12; with_reducible refine (ha _).mono ?_; rintro e w1 ⟨rfl, b1⟩; have R1 := (R0.below b1).alloc (.cells #[.int .i64 xa, .int .i64 ra, .int .i64 fa, .int .i64 ga] 29); have X1 := Blk.new w1 29 #[.int .i64 xa, .int .i64 ra, .int .i64 fa, .int .i64 ga]; have B1 : Below w.heap.size w w1 := below_of b1 ((Below.refl _ _).alloc (Nat.le_refl _) _) (by simp); have B1a := B1.alloc B1.size (.cells #[.int .i64 xa, .int .i64 ra, .int .i64 fa, .int .i64 ga] 29))
          | (go_at_call 12; with_reducible refine (hb _).mono ?_; rintro e w2 ⟨rfl, b2⟩; have R2 := (R1.below b2).alloc (.cells #[.int .i64 tb, .int .i64 rb, .int .i64 fb, .int .i64 gb] 29); have X2 := (X1.below b2).alloc (.cells #[.int .i64 tb, .int .i64 rb, .int .i64 fb, .int .i64 gb] 29); have Y2 := Blk.new w2 29 #[.int .i64 tb, .int .i64 rb, .int .i64 fb, .int .i64 gb]; have B2 := below_of b2 B1a B1a.size; have B2a := B2.alloc B2.size (.cells #[.int .i64 tb, .int .i64 rb, .int .i64 fb, .int .i64 gb] 29); have rc2 := R2.cell; have rf2 := R2.free; have xc2 := X2.cell; have yc2 := Y2.cell))
        go_quiet (fail)
        go_wp2
        refine bodyPost_ret (v := .tuple #[m4 tb rb fb gb, .int .i64 0]) (by rw [results_cell_tmp rfl]; go_simp) rfl ⟨rfl, ?_⟩
        repeat (refine Below.setCell ?_ (by exact Nat.le_refl _) _)
        exact below_drewN B2a _
    · skip
      have p0 : ((ea : Int) == 0) = false := by simp; omega
      have q0 : ((eb : Int) == 0) = false := by simp; omega
      have HC := Lib.hid (chM_no (ma := ⟨xa, ra, fa, ga⟩) (mb := ⟨xb, rb, fb, gb⟩) (ea := ea) (eb := eb) (by simp only []; omega) (by simp only []; omega))
      rw [HC.out, if_pos (show noM.tx = 0 from rfl), if_pos (show noM.tx = 0 from rfl)]
      clear HC pa pb
      go_enter Try.func14, Try.ntmps14
      go_wp2_with (first
        | (go_at_call 12; with_reducible refine (ha _).mono ?_; rintro e w1 ⟨rfl, b1⟩; have R1 := (R0.below b1).alloc (.cells #[.int .i64 xa, .int .i64 ra, .int .i64 fa, .int .i64 ga] 29); have X1 := Blk.new w1 29 #[.int .i64 xa, .int .i64 ra, .int .i64 fa, .int .i64 ga]; have B1 : Below w.heap.size w w1 := below_of b1 ((Below.refl _ _).alloc (Nat.le_refl _) _) (by simp); have B1a := B1.alloc B1.size (.cells #[.int .i64 xa, .int .i64 ra, .int .i64 fa, .int .i64 ga] 29))
        | (go_at_call 12; with_reducible refine (hb _).mono ?_; rintro e w2 ⟨rfl, b2⟩; have R2 := (R1.below b2).alloc (.cells #[.int .i64 xb, .int .i64 rb, .int .i64 fb, .int .i64 gb] 29); have X2 := (X1.below b2).alloc (.cells #[.int .i64 xb, .int .i64 rb, .int .i64 fb, .int .i64 gb] 29); have Y2 := Blk.new w2 29 #[.int .i64 xb, .int .i64 rb, .int .i64 fb, .int .i64 gb]; have B2 := below_of b2 B1a B1a.size; have B2a := B2.alloc B2.size (.cells #[.int .i64 xb, .int .i64 rb, .int .i64 fb, .int .i64 gb] 29); have rc2 := R2.cell; have rf2 := R2.free; have xc2 := X2.cell; have yc2 := Y2.cell))
      go_quiet (fail)
      go_wp2
      refine bodyPost_ret (v := .tuple #[m4 0 0 0 0, .int .i64 25]) (by rw [results_cell_tmp rfl]; go_simp) rfl ⟨rfl, ?_⟩
      repeat (refine Below.setCell ?_ (by exact Nat.le_refl _) _)
      exact below_drewN B2a _
end Go.Proofs.Ytkenhcgdnbgnpaa
