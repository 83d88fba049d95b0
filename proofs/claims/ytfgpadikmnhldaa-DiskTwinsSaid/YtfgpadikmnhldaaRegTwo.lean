/-
  A region whose reads all come ahead of its stores: a read may be taken first where the condition on the world holds till all reads have come up. No condition of its own.
-/
import Derived.Deep.RegionHeld3
namespace Go.Proofs.Ytfgpadikmnhldaa
open Go
section
variable {P : Program} {ops : Array Oper} {Q : Exit → Act → World → Prop} {md : Region.Mode} {S1 S2 : World → Prop} {R : List Nat}

/-- Have all of R come up? -/
def allUp (R : List Nat) (listed : Array Bool) : Bool := R.all fun k => listed.getD k true
/-- Whatever order is picked; S1 holds behind each operation till all of R have come up, S2 ever after. -/
def wpAnyS (P : Program) (md : Region.Mode) (ops : Array Oper) (Q : Exit → Act → World → Prop) (S1 S2 : World → Prop) (R : List Nat) : Nat → Array Bool → Act → World → Prop
  | 0, listed, a, w => wpAnyH P md ops Q S2 0 listed a w
  | fuel + 1, listed, a, w =>
    if allUp R listed = true then wpAnyH P md ops Q S2 (fuel + 1) listed a w
    else (Region.ready md ops listed = [] → Q .normal a w) ∧
      ∀ i ∈ Region.ready md ops listed, wpOp P ops Q i (fun a' w' => S1 w' ∧ wpAnyS P md ops Q S1 S2 R fuel (listed.setIfInBounds i true) a' w') a w

theorem wpAny_of_two : ∀ (fuel : Nat) (listed : Array Bool) (a : Act) (w : World), wpAnyS P md ops Q S1 S2 R fuel listed a w → wpAny P md ops Q fuel listed a w
  | 0, _, _, _, h => wpAny_of_held _ _ _ _ h
  | fuel + 1, listed, a, w, h => by
    unfold wpAnyS at h
    split at h
    · exact wpAny_of_held _ _ _ _ h
    · exact ⟨h.1, fun i hi => wpOp_mono (fun a' w' h' => wpAny_of_two fuel _ a' w' h'.2) (h.2 i hi)⟩
theorem wpAnyS_of_all {fuel : Nat} {listed : Array Bool} {a : Act} {w : World} (hl : allUp R listed = true) (h : wpAnyS P md ops Q S1 S2 R fuel listed a w) : wpAnyH P md ops Q S2 fuel listed a w := by
  cases fuel with
  | zero => exact h
  | succ n => unfold wpAnyS at h; rw [if_pos hl] at h; exact h
theorem wpAnyS_rest {fuel : Nat} {listed : Array Bool} {a : Act} {w : World} (hl : allUp R listed = true) (h : wpAnyH P md ops Q S2 fuel listed a w) : wpAnyS P md ops Q S1 S2 R fuel listed a w := by
  cases fuel with
  | zero => exact h
  | succ n => unfold wpAnyS; rw [if_pos hl]; exact h
theorem allUp_not {i : Nat} (hiR : i ∈ R) {listed : Array Bool} (h0 : listed.getD i true = false) : ¬ allUp R listed = true := fun h => by
  have := List.all_eq_true.1 h i hiR
  rw [h0] at this; cases this
theorem allUp_set {i : Nat} (hiR : i ∉ R) (listed : Array Bool) : allUp R (listed.setIfInBounds i true) = allUp R listed := by
  unfold allUp
  rw [Bool.eq_iff_iff, List.all_eq_true, List.all_eq_true]
  constructor
  · intro h k hk
    rw [← getD_set_ne (i := i) true (fun e => hiR (e ▸ hk))]; exact h k hk
  · intro h k hk
    rw [getD_set_ne (i := i) true (fun e => hiR (e ▸ hk))]; exact h k hk
theorem not_yet {listed : Array Bool} {i j : Nat} (h0 : listed.getD i true = false) (hj : j ∈ Region.ready md ops listed) : ∀ oj, ops[j]? = some oj → ∀ e ∈ oj.after, Region.binds md e = true → e.on ≠ i := fun oj hoj e he hb heq => by
  obtain ⟨_, oj', hoj', hall⟩ := mem_ready.1 hj
  have hee : oj' = oj := Option.some.inj (hoj'.symm.trans hoj)
  subst hee
  have h1 := hall e he hb
  rw [heq] at h1
  rcases Nat.lt_or_ge i listed.size with h' | h'
  · simp [h'] at h0 h1; rw [h0] at h1; cases h1
  · simp [Array.getElem?_eq_none h'] at h1

/-- An operation outside R that yields under S2. -/
theorem wpAnyS_weak {i : Nat} {oi : Oper} {v : Value} (h12 : ∀ w, S1 w → S2 w) (hi : ops[i]? = some oi) (hsel : ∀ (j : Nat) (o : Oper) cs b, ops[j]? = some o → o.op ≠ .select cs b)
    (hQ : ∀ c a w, Q (.panic c) (a.put oi.dst v) w → Q (.panic c) a w) (hiR : i ∉ R) :
    ∀ (fuel : Nat) (listed : Array Bool) (a : Act) (w : World),
      (∀ j oj, ops[j]? = some oj → j ≠ i → listed.getD j true = false → (∀ e ∈ oj.after, Region.binds md e = true → e.on ≠ i) → oi.apart ops oj = true) →
      i ∈ Region.ready md ops listed → YieldsIf P ops S2 oi v a → S1 w →
      wpAnyS P md ops Q S1 S2 R fuel (listed.setIfInBounds i true) (a.put oi.dst v) w → wpAnyS P md ops Q S1 S2 R (fuel + 1) listed a w := by
  intro fuel
  induction fuel with
  | zero =>
    intro listed a w hfree hr hy hS H
    by_cases hl : allUp R listed = true
    · exact wpAnyS_rest hl (wpAnyH_first hi hsel hQ 0 listed a w hfree hr hy (h12 _ hS) H)
    · unfold wpAnyS
      rw [if_neg hl]
      refine ⟨fun h => (by rw [h] at hr; cases hr), fun j hj => ?_⟩
      by_cases hji : j = i
      · subst hji; exact hy.wpOp hi (h12 _ hS) ⟨hS, H⟩
      · have := ready_mono hj hji
        unfold wpAnyS wpAnyH at H
        rw [H.1] at this
        cases this
  | succ fuel ih =>
    intro listed a w hfree hr hy hS H
    by_cases hl : allUp R listed = true
    · exact wpAnyS_rest hl (wpAnyH_first hi hsel hQ _ listed a w hfree hr hy (h12 _ hS) (wpAnyS_of_all (by rw [allUp_set hiR]; exact hl) H))
    · unfold wpAnyS
      rw [if_neg hl]
      refine ⟨fun h => (by rw [h] at hr; cases hr), fun j hj => ?_⟩
      by_cases hji : j = i
      · subst hji; exact hy.wpOp hi (h12 _ hS) ⟨hS, H⟩
      · obtain ⟨hjun, oj, hoj, hall⟩ := mem_ready.1 hj
        have hnot := not_yet (mem_ready.1 hr).1 hj oj hoj
        unfold wpAnyS at H
        rw [if_neg (by rw [allUp_set hiR]; exact hl)] at H
        have h1 := H.2 j (ready_mono hj hji)
        have h2 := wpOp_putIf hoj (hfree j oj hoj hji hjun hnot) (fun cs b => hsel i oi cs b hi) (fun cs b => hsel j oj cs b hoj) hQ hy h1
        have hfree' : ∀ k ok, ops[k]? = some ok → k ≠ i → (listed.setIfInBounds j true).getD k true = false →
            (∀ e ∈ ok.after, Region.binds md e = true → e.on ≠ i) → oi.apart ops ok = true := fun k ok hk hki hun hno => by
          refine hfree k ok hk hki ?_ hno
          by_cases hjk : j = k
          · subst hjk; exact hjun
          · rw [getD_set_ne true hjk] at hun; exact hun
        refine wpOp_mono (fun a' w' h3 => ⟨h3.2.1, ih (listed.setIfInBounds j true) a' w' hfree' (ready_mono hr (Ne.symm hji)) h3.1 h3.2.1 ?_⟩) h2
        rw [Array.setIfInBounds_comm _ _ hji]
        exact h3.2.2

/-- An operation of R, that yields under S1: each operation that has not come up and is not of R waits for all of R. -/
theorem wpAnyS_first {i : Nat} {oi : Oper} {v : Value} (hi : ops[i]? = some oi) (hsel : ∀ (j : Nat) (o : Oper) cs b, ops[j]? = some o → o.op ≠ .select cs b)
    (hQ : ∀ c a w, Q (.panic c) (a.put oi.dst v) w → Q (.panic c) a w) (hiR : i ∈ R) :
    ∀ (fuel : Nat) (listed : Array Bool) (a : Act) (w : World),
      (∀ j oj, ops[j]? = some oj → listed.getD j true = false → j ∉ R → ∀ k ∈ R, ∃ e ∈ oj.after, Region.binds md e = true ∧ e.on = k) →
      (∀ j oj, ops[j]? = some oj → j ≠ i → listed.getD j true = false → (∀ e ∈ oj.after, Region.binds md e = true → e.on ≠ i) → oi.apart ops oj = true) →
      i ∈ Region.ready md ops listed → YieldsIf P ops S1 oi v a → S1 w →
      wpAnyS P md ops Q S1 S2 R fuel (listed.setIfInBounds i true) (a.put oi.dst v) w → wpAnyS P md ops Q S1 S2 R (fuel + 1) listed a w := by
  intro fuel
  induction fuel with
  | zero =>
    intro listed a w _ _ hr hy hS H
    have h0 := (mem_ready.1 hr).1
    unfold wpAnyS
    rw [if_neg (allUp_not hiR h0)]
    refine ⟨fun h => (by rw [h] at hr; cases hr), fun j hj => ?_⟩
    by_cases hji : j = i
    · subst hji; exact hy.wpOp hi hS ⟨hS, H⟩
    · have := ready_mono hj hji
      unfold wpAnyS wpAnyH at H
      rw [H.1] at this
      cases this
  | succ fuel ih =>
    intro listed a w hwait hfree hr hy hS H
    have h0 := (mem_ready.1 hr).1
    unfold wpAnyS
    rw [if_neg (allUp_not hiR h0)]
    refine ⟨fun h => (by rw [h] at hr; cases hr), fun j hj => ?_⟩
    by_cases hji : j = i
    · subst hji; exact hy.wpOp hi hS ⟨hS, H⟩
    · obtain ⟨hjun, oj, hoj, hall⟩ := mem_ready.1 hj
      have hnot := not_yet h0 hj oj hoj
      have hjR : j ∈ R := Classical.byContradiction fun hn => by
        obtain ⟨e, he, hb, heq⟩ := hwait j oj hoj hjun hn i hiR
        exact hnot e he hb heq
      unfold wpAnyS at H
      rw [if_neg (allUp_not hjR (by rw [getD_set_ne true (Ne.symm hji)]; exact hjun))] at H
      have h1 := H.2 j (ready_mono hj hji)
      have h2 := wpOp_putIf hoj (hfree j oj hoj hji hjun hnot) (fun cs b => hsel i oi cs b hi) (fun cs b => hsel j oj cs b hoj) hQ hy h1
      have more : ∀ k, (listed.setIfInBounds j true).getD k true = false → listed.getD k true = false := fun k hun => by
        by_cases hjk : j = k
        · subst hjk; exact hjun
        · rw [getD_set_ne true hjk] at hun; exact hun
      refine wpOp_mono (fun a' w' h3 => ⟨h3.2.1, ih (listed.setIfInBounds j true) a' w' (fun k ok hk hun => hwait k ok hk (more k hun)) (fun k ok hk hki hun hno => hfree k ok hk hki (more k hun) hno) (ready_mono hr (Ne.symm hji)) h3.1 h3.2.1 ?_⟩) h2
      rw [Array.setIfInBounds_comm _ _ hji]
      exact h3.2.2

/-- Each operation outside R that has not come up waits for all of R. -/
def waitsAll (md : Region.Mode) (ops : Array Oper) (R : List Nat) (listed : Array Bool) : Bool :=
  (List.range ops.size).all fun j => R.contains j || listed.getD j true || (match ops[j]? with | some o => R.all fun k => o.after.any fun e => Region.binds md e && e.on == k | none => true)
theorem waitsAll_spec {listed : Array Bool} (h : waitsAll md ops R listed = true) : ∀ j oj, ops[j]? = some oj → listed.getD j true = false → j ∉ R → ∀ k ∈ R, ∃ e ∈ oj.after, Region.binds md e = true ∧ e.on = k := fun j oj hj hl hn k hk => by
  have h1 := List.all_eq_true.1 h j (List.mem_range.2 (Array.getElem?_eq_some_iff.1 hj).1)
  rw [hj, hl] at h1
  simp only [Bool.or_eq_true, List.contains_iff_mem, List.all_eq_true, Bool.false_eq_true, or_false] at h1
  have h2 := (h1.resolve_left hn) k hk
  obtain ⟨t, ht, h3⟩ := Array.any_eq_true.1 h2
  simp only [Bool.and_eq_true, beq_iff_eq] at h3
  exact ⟨oj.after[t], Array.getElem_mem ht, h3.1, h3.2⟩
theorem wpAnyS_take {i : Nat} {oi : Oper} {v : Value} {fuel : Nat} {listed : Array Bool} {a : Act} {w : World} (hi : ops[i]? = some oi)
    (hs : Region.noSelect ops = true) (hf : Region.free md ops listed i = true) (hr : (Region.ready md ops listed).contains i = true) (hiR : R.contains i = true) (hwait : waitsAll md ops R listed = true)
    (hQ : ∀ c a w, Q (.panic c) (a.put oi.dst v) w → Q (.panic c) a w) (hy : YieldsIf P ops S1 oi v a) (hS : S1 w)
    (h : wpAnyS P md ops Q S1 S2 R fuel (listed.setIfInBounds i true) (a.put oi.dst v) w) : wpAnyS P md ops Q S1 S2 R (fuel + 1) listed a w :=
  wpAnyS_first hi (Region.noSelect_spec hs) hQ (by simpa using hiR) fuel listed a w (waitsAll_spec hwait) (Region.free_spec hi hf) (by simpa using hr) hy hS h
theorem wpAnyS_takew {i : Nat} {oi : Oper} {v : Value} {fuel : Nat} {listed : Array Bool} {a : Act} {w : World} (h12 : ∀ w, S1 w → S2 w) (hi : ops[i]? = some oi)
    (hs : Region.noSelect ops = true) (hf : Region.free md ops listed i = true) (hr : (Region.ready md ops listed).contains i = true) (hiR : R.contains i = false)
    (hQ : ∀ c a w, Q (.panic c) (a.put oi.dst v) w → Q (.panic c) a w) (hy : YieldsIf P ops S2 oi v a) (hS : S1 w)
    (h : wpAnyS P md ops Q S1 S2 R fuel (listed.setIfInBounds i true) (a.put oi.dst v) w) : wpAnyS P md ops Q S1 S2 R (fuel + 1) listed a w :=
  wpAnyS_weak h12 hi (Region.noSelect_spec hs) hQ (fun hh => by have := List.contains_iff_mem.2 hh; rw [hiR] at this; cases this) fuel listed a w (Region.free_spec hi hf) (by simpa using hr) hy hS h
theorem wp_region_two (S1 S2 : World → Prop) (R : List Nat) {id : Nat} {a : Act} {w : World} (hm : P.follows .mixedOrders = true)
    (h : wpAnyS P .any ops Q S1 S2 R ops.size (Array.replicate ops.size false) a w.drew) : (Code.region id ops true).wp P Q a w :=
  wp_region_any hm (wpAny_of_two _ _ _ _ h)
end
end Go.Proofs.Ytfgpadikmnhldaa
