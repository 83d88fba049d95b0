/-
  The laws on members in plain words: right members are those that rise; quorums of members that are one step apart meet; one more and one less is nothing. No program in them.
-/
import Derived.Test.YtkbfcmkocgkdjaaGreatDoorConfAdd
namespace Go.Proofs.YtkbfcmkocgkdjaaGreatDoor
open Go Go.RowKit

/-- Two tests, each of which more than half pass: one passes both. -/
theorem both_half {α : Type} (l : List α) (p q : α → Bool) (h : l.length < l.countP p + l.countP q) : ∃ x ∈ l, p x = true ∧ q x = true := by
  induction l with
  | nil => simp at h
  | cons x l ih =>
    by_cases hp : p x = true
    · by_cases hq : q x = true
      · exact ⟨x, by simp, hp, hq⟩
      · rw [List.countP_cons_of_pos hp, List.countP_cons_of_neg hq, List.length_cons] at h
        obtain ⟨y, hy, h1, h2⟩ := ih (by omega)
        exact ⟨y, List.mem_cons_of_mem _ hy, h1, h2⟩
    · rw [List.countP_cons_of_neg hp, List.length_cons] at h
      have h' : l.length < l.countP p + l.countP q := by
        by_cases hq : q x = true
        · rw [List.countP_cons_of_pos hq] at h; omega
        · rw [List.countP_cons_of_neg hq] at h; omega
      obtain ⟨y, hy, h1, h2⟩ := ih h'
      exact ⟨y, List.mem_cons_of_mem _ hy, h1, h2⟩

/-- Right members rise. -/
theorem right_up {l : List Int} (h : rightV l = true) : l.Pairwise (· < ·) := by
  rw [List.pairwise_iff_getElem]
  have step : ∀ i (hi : i + 1 < l.length), l[i] < l[i + 1] := by
    intro i hi
    unfold rightV at h
    simp only [Bool.and_eq_true, decide_eq_true_eq, List.all_eq_true, List.mem_range] at h
    have := h.2 (i + 1) hi
    unfold okAt at this
    simp only [Bool.and_eq_true, Bool.or_eq_true, decide_eq_true_eq] at this
    have h3 := this.2
    rw [List.getD_eq_getElem?_getD, List.getD_eq_getElem?_getD, Nat.add_sub_cancel, List.getElem?_eq_getElem hi, List.getElem?_eq_getElem (by omega)] at h3
    simp only [Option.getD_some] at h3
    omega
  intro i j hi hj hij
  induction j with
  | zero => omega
  | succ j ih =>
    by_cases e : i = j
    · subst e; exact step i hj
    · exact Int.lt_trans (ih (by omega) (by omega)) (step j hj)
theorem right_of {l : List Int} (h0 : l ≠ []) (h1 : l.Pairwise (· < ·)) (h2 : ∀ x ∈ l, 0 ≤ x ∧ x < 7) : rightV l = true := by
  rw [rightV_all]
  · simp; exact List.length_pos_iff.2 h0
  · intro i hi
    unfold okAt
    have hx := h2 l[i] (List.getElem_mem _)
    rw [List.getD_eq_getElem?_getD, List.getElem?_eq_getElem hi]
    simp only [Option.getD_some, Bool.and_eq_true, Bool.or_eq_true, decide_eq_true_eq]
    refine ⟨⟨hx.1, hx.2⟩, ?_⟩
    by_cases e : i = 0
    · exact .inl e
    · right
      rw [List.getD_eq_getElem?_getD, List.getElem?_eq_getElem (by omega)]
      exact List.pairwise_iff_getElem.1 h1 (i - 1) i (by omega) hi (by omega)
/-- Lists that rise and have the same members are the same. -/
theorem up_eq : ∀ {a b : List Int}, a.Pairwise (· < ·) → b.Pairwise (· < ·) → (∀ x, x ∈ a ↔ x ∈ b) → a = b
  | [], [], _, _, _ => rfl
  | [], y :: b, _, _, h => absurd ((h y).2 (by simp)) (by simp)
  | x :: a, [], _, _, h => absurd ((h x).1 (by simp)) (by simp)
  | x :: a, y :: b, ha, hb, h => by
    rw [List.pairwise_cons] at ha hb
    have hxy : x = y := by
      rcases List.mem_cons.1 ((h x).1 (by simp)) with e | e
      · exact e
      · rcases List.mem_cons.1 ((h y).2 (by simp)) with e' | e'
        · exact e'.symm
        · have := hb.1 x e; have := ha.1 y e'; omega
    subst hxy
    congr 1
    refine up_eq ha.2 hb.2 fun z => ⟨fun hz => ?_, fun hz => ?_⟩
    · rcases List.mem_cons.1 ((h z).1 (List.mem_cons_of_mem _ hz)) with e | e
      · subst e; have := ha.1 z hz; omega
      · exact e
    · rcases List.mem_cons.1 ((h z).2 (List.mem_cons_of_mem _ hz)) with e | e
      · subst e; have := hb.1 z hz; omega
      · exact e
theorem up_nodup {l : List Int} (h : l.Pairwise (· < ·)) : l.Nodup := List.Pairwise.imp (fun {a b} (h : a < b) => by omega) h
theorem sort_mem {l : List Int} {id x : Int} : x ∈ sortZ (l ++ [id]) ↔ x ∈ l ∨ x = id := by
  rw [(sortZ_perm _).mem_iff]; simp
theorem sort_up {l : List Int} {id : Int} (h : l.Pairwise (· < ·)) (hid : id ∉ l) : (sortZ (l ++ [id])).Pairwise (· < ·) := by
  have hn : (sortZ (l ++ [id])).Nodup := by
    rw [(sortZ_perm _).nodup_iff, List.nodup_append]
    exact ⟨up_nodup h, by simp, fun a ha b hb e => by simp at hb; subst hb; subst e; exact hid ha⟩
  have hu := sortZ_up (l ++ [id])
  refine List.Pairwise.imp ?_ (hu.and hn)
  intro a b h
  have := h.1
  have := h.2
  omega
theorem filter_up {l : List Int} {id : Int} (h : l.Pairwise (· < ·)) : (l.filter fun x => !(x == id)).Pairwise (· < ·) := h.sublist List.filter_sublist
theorem filter_mem {l : List Int} {id x : Int} : x ∈ (l.filter fun x => !(x == id)) ↔ x ∈ l ∧ x ≠ id := by simp
theorem lack_zero {a b : List Int} (h : ∀ x ∈ b, x ∈ a) : lackV a b = 0 := by
  unfold lackV; rw [List.countP_eq_zero]; intro x hx; simp [h x hx]
theorem step_self {l : List Int} (h : rightV l = true) : stepV l l = true := by
  unfold stepV; rw [h, lack_zero fun x hx => hx]; rfl

/-- With one more. -/
theorem add_ok {l : List Int} {id : Int} (hr : rightV l = true) (h : (addV l id).2 = 0) : addV l id = (sortZ (l ++ [id]), 0) ∧ 0 ≤ id ∧ id < 7 ∧ id ∉ l := by
  unfold addV at h ⊢
  split at h
  · rename_i hc
    split at h
    · simp at h
    · rename_i hn
      rw [if_pos hc, if_neg hn]
      exact ⟨rfl, hc.2.1, hc.2.2, hn⟩
  · simp at h
theorem add_right {l : List Int} {id : Int} (hr : rightV l = true) (h0 : 0 ≤ id) (h1 : id < 7) (hn : id ∉ l) : rightV (sortZ (l ++ [id])) = true := by
  refine right_of ?_ (sort_up (right_up hr) hn) fun x hx => ?_
  · intro e
    have := sortZ_len (l ++ [id])
    rw [e] at this
    simp at this
  · rcases sort_mem.1 hx with h | h
    · exact right_in hr x h
    · omega
theorem drop_add {l : List Int} {id : Int} (hr : rightV l = true) (h0 : 0 ≤ id) (h1 : id < 7) (hn : id ∉ l) : dropV (sortZ (l ++ [id])) id = (l, 0) := by
  unfold dropV
  rw [if_pos ⟨add_right hr h0 h1 hn, h0, h1⟩, if_pos (sort_mem.2 (.inr rfl)), if_neg]
  · congr 1
    refine up_eq (filter_up (sort_up (right_up hr) hn)) (right_up hr) fun x => ?_
    rw [filter_mem, sort_mem]
    constructor
    · rintro ⟨h | h, h2⟩
      · exact h
      · exact absurd h h2
    · intro h
      exact ⟨.inl h, fun e => by subst e; exact hn h⟩
  · intro e
    rw [sortZ_len, List.length_append, List.length_singleton] at e
    have := rightV_pos hr
    omega
theorem lack_add {l : List Int} {id : Int} (hn : id ∉ l) : lackV l (sortZ (l ++ [id])) = 1 := by
  unfold lackV
  rw [(sortZ_perm _).countP_eq, List.countP_append]
  have : l.countP (fun x => !decide (x ∈ l)) = 0 := by rw [List.countP_eq_zero]; intro x hx; simp [hx]
  rw [this]
  simp [hn]
theorem step_add {l : List Int} {id : Int} (hr : rightV l = true) (h0 : 0 ≤ id) (h1 : id < 7) (hn : id ∉ l) : stepV l (sortZ (l ++ [id])) = true ∧ stepV (sortZ (l ++ [id])) l = true := by
  have hz : lackV (sortZ (l ++ [id])) l = 0 := lack_zero fun x hx => sort_mem.2 (.inl hx)
  unfold stepV
  rw [hr, add_right hr h0 h1 hn, lack_add hn, hz]
  exact ⟨rfl, rfl⟩
/-- With one less. -/
theorem drop_ok {l : List Int} {id : Int} (h : (dropV l id).2 = 0) : dropV l id = (l.filter fun x => !(x == id), 0) ∧ rightV l = true ∧ 0 ≤ id ∧ id < 7 ∧ id ∈ l ∧ l.length ≠ 1 := by
  unfold dropV at h ⊢
  split at h
  · rename_i hc
    split at h
    · rename_i hm
      split at h
      · simp at h
      · rename_i hl
        rw [if_pos hc, if_pos hm, if_neg hl]
        exact ⟨rfl, hc.1, hc.2.1, hc.2.2, hm, hl⟩
    · simp at h
  · simp at h
theorem less_right {l : List Int} {id : Int} (hr : rightV l = true) (hm : id ∈ l) (hl : l.length ≠ 1) : rightV (l.filter fun x => !(x == id)) = true := by
  refine right_of ?_ (filter_up (right_up hr)) fun x hx => right_in hr x (filter_mem.1 hx).1
  intro e
  have hu := right_up hr
  match l, hm, hl, e, hu with
  | [], hm, _, _, _ => simp at hm
  | [x], _, hl, _, _ => exact hl rfl
  | x :: y :: l, _, _, e, hu =>
    rw [List.filter_eq_nil_iff] at e
    have ex := e x (by simp)
    have ey := e y (by simp)
    simp at ex ey
    rw [List.pairwise_cons] at hu
    have := hu.1 y (by simp)
    omega
theorem add_drop {l : List Int} {id : Int} (hr : rightV l = true) (h0 : 0 ≤ id) (h1 : id < 7) (hm : id ∈ l) (hl : l.length ≠ 1) : addV (l.filter fun x => !(x == id)) id = (l, 0) := by
  have hno : id ∉ (l.filter fun x => !(x == id)) := by rw [filter_mem]; exact fun h => h.2 rfl
  unfold addV
  rw [if_pos ⟨less_right hr hm hl, h0, h1⟩, if_neg hno]
  congr 1
  refine up_eq (sort_up (filter_up (right_up hr)) hno) (right_up hr) fun x => ?_
  rw [sort_mem, filter_mem]
  constructor
  · rintro (h | h)
    · exact h.1
    · subst h; exact hm
  · intro h
    by_cases e : x = id
    · exact .inr e
    · exact .inl ⟨h, e⟩
theorem count_le_one {l : List Int} (h : l.Nodup) (id : Int) : l.countP (fun x => x == id) ≤ 1 := by
  induction l with
  | nil => simp
  | cons x l ih =>
    rw [List.nodup_cons] at h
    by_cases e : x = id
    · subst e
      rw [List.countP_cons_of_pos (by simp)]
      have : l.countP (fun y => y == x) = 0 := by
        rw [List.countP_eq_zero]
        intro y hy
        simp
        intro e
        subst e
        exact h.1 hy
      omega
    · rw [List.countP_cons_of_neg (by simp [e])]
      exact ih h.2
theorem step_drop {l : List Int} {id : Int} (hr : rightV l = true) (hm : id ∈ l) (hl : l.length ≠ 1) : stepV l (l.filter fun x => !(x == id)) = true := by
  unfold stepV
  rw [hr, less_right hr hm hl, lack_zero fun x hx => (filter_mem.1 hx).1]
  have h1 : lackV (l.filter fun x => !(x == id)) l ≤ 1 := by
    refine Nat.le_trans ?_ (count_le_one (up_nodup (right_up hr)) id)
    unfold lackV
    refine List.countP_mono_left fun x hx h => ?_
    simp only [Bool.not_eq_true', decide_eq_false_iff_not, filter_mem] at h
    simp
    apply Classical.byContradiction
    intro hne
    exact h ⟨hx, hne⟩
  simp
  omega
theorem add_err {l : List Int} {id : Int} (h : (addV l id).2 ≠ 0) : (addV l id).1 = [] := by
  unfold addV at h ⊢
  split at h
  · rename_i hc
    split at h
    · rename_i hm
      rw [if_pos hc, if_pos hm]
    · exact absurd rfl h
  · rename_i hc
    rw [if_neg hc]
theorem drop_err {l : List Int} {id : Int} (h : (dropV l id).2 ≠ 0) : (dropV l id).1 = [] := by
  unfold dropV at h ⊢
  split at h
  · rename_i hc
    split at h
    · rename_i hm
      split at h
      · rename_i hl; rw [if_pos hc, if_pos hm, if_pos hl]
      · exact absurd rfl h
    · rename_i hm; rw [if_pos hc, if_neg hm]
  · rename_i hc
    rw [if_neg hc]
theorem add_dup {l : List Int} {id : Int} (hr : rightV l = true) (h0 : 0 ≤ id) (h1 : id < 7) (hm : id ∈ l) : (addV l id).2 = 9 := by
  unfold addV; rw [if_pos ⟨hr, h0, h1⟩, if_pos hm]

/-- Members that are one step apart: how many both have. -/
theorem both_len {a b : List Int} (ha : a.Nodup) (hb : b.Nodup) : (a.filter fun x => decide (x ∈ b)).length = (b.filter fun x => decide (x ∈ a)).length := by
  have hp : (a.filter fun x => decide (x ∈ b)).Perm (b.filter fun x => decide (x ∈ a)) := by
    rw [List.perm_ext_iff_of_nodup (ha.filter _) (hb.filter _)]
    intro x
    simp [And.comm]
  exact hp.length_eq
theorem both_cnt {a b : List Int} (ha : a.Nodup) (hb : b.Nodup) (p : Int → Bool) : b.countP p ≤ a.countP p + lackV a b := by
  have h1 : b.countP p = (b.filter fun x => decide (x ∈ a)).countP p + (b.filter fun x => !decide (x ∈ a)).countP p := by
    rw [List.countP_filter, List.countP_filter]
    induction b with
    | nil => rfl
    | cons x b ih =>
      rw [List.nodup_cons] at hb
      simp only [List.countP_cons, ih hb.2]
      by_cases hx : x ∈ a <;> cases hp : p x <;> simp [hx, hp] <;> omega
  have h2 : (b.filter fun x => decide (x ∈ a)).countP p ≤ a.countP p := by
    have hp : (b.filter fun x => decide (x ∈ a)).Perm (a.filter fun x => decide (x ∈ b)) := by
      rw [List.perm_ext_iff_of_nodup (hb.filter _) (ha.filter _)]
      intro x
      simp [And.comm]
    rw [hp.countP_eq]
    exact (List.filter_sublist (p := fun x => decide (x ∈ b))).countP_le
  have h3 : (b.filter fun x => !decide (x ∈ a)).countP p ≤ lackV a b := by
    unfold lackV
    rw [List.countP_eq_length_filter (p := fun x => !decide (x ∈ a))]
    exact List.countP_le_length
  omega
theorem len_step {a b : List Int} (ha : a.Nodup) (hb : b.Nodup) : a.length + lackV a b = b.length + lackV b a := by
  have h := both_len ha hb
  have key : ∀ (l m : List Int), l.length = (l.filter fun x => decide (x ∈ m)).length + lackV m l := by
    intro l m
    unfold lackV
    rw [← List.countP_eq_length_filter]
    refine (List.length_eq_countP_add_countP (fun x => decide (x ∈ m)) (l := l)).trans ?_
    congr 1
    refine List.countP_congr fun x _ => ?_
    simp
  have h1 := key a b
  have h2 := key b a
  omega
theorem meets_law {a b x y : List Int} (hs : stepV a b = true) (h1 : quorV a x = true) (h2 : quorV b y = true) : ∃ z, z ∈ x ∧ z ∈ y := by
  unfold stepV at hs
  simp only [Bool.and_eq_true, decide_eq_true_eq] at hs
  obtain ⟨⟨ra, rb⟩, hs⟩ := hs
  unfold quorV at h1 h2
  simp only [ra, rb, Bool.true_and, decide_eq_true_eq] at h1 h2
  have na := up_nodup (right_up ra)
  have nb := up_nodup (right_up rb)
  have hl := len_step na nb
  have hc := both_cnt na nb (fun z => decide (z ∈ y))
  obtain ⟨z, _, hx, hy⟩ := both_half a (fun z => decide (z ∈ x)) (fun z => decide (z ∈ y)) (by omega)
  exact ⟨z, by simpa using hx, by simpa using hy⟩
theorem has_law {a x at_ : List Int} (h1 : quorV a x = true) : ∃ z, z ∈ x ∧ z ∈ a ∧ idxV a at_ ≤ numAt at_ z := by
  unfold quorV at h1
  simp only [Bool.and_eq_true, decide_eq_true_eq] at h1
  obtain ⟨ra, h1⟩ := h1
  have hm := mid_most (H := a.map (numAt at_)) (by simpa using rightV_pos ra)
  unfold most cntGe at hm
  rw [List.length_map, List.countP_map] at hm
  obtain ⟨z, hz, hx, hy⟩ := both_half a (fun z => decide (z ∈ x)) ((fun v => decide (midZ (a.map (numAt at_)) ≤ v)) ∘ numAt at_) (by omega)
  refine ⟨z, by simpa using hx, hz, ?_⟩
  unfold idxV
  rw [if_pos ra]
  simpa using hy
end Go.Proofs.YtkbfcmkocgkdjaaGreatDoor
