/-
  Plain facts on lists of ints in order. No program in them.
-/
import Derived.Test.YtfgihfhpnhedkaaQuorP
namespace Go.Proofs.Ytfgihfhpnhedkaa
open Go Go.RowKit

/-- Lists that rise and have the same members are the same. -/
theorem rise_eq : ∀ {a b : List Int}, a.Pairwise (· < ·) → b.Pairwise (· < ·) → (∀ x, x ∈ a ↔ x ∈ b) → a = b
  | [], [], _, _, _ => rfl
  | [], y :: b, _, _, h => absurd ((h y).2 (by simp)) (by simp)
  | x :: a, [], _, _, h => absurd ((h x).1 (by simp)) (by simp)
  | x :: a, y :: b, ha, hb, h => by
    rw [List.pairwise_cons] at ha hb
    have hxy : x = y := by
      rcases List.mem_cons.1 ((h x).1 (by simp)) with e | e
      · exact e
      · rcases List.mem_cons.1 ((h y).2 (by simp)) with e' | e'
        · exact e'.symm
        · have := hb.1 x e; have := ha.1 y e'; omega
    subst hxy
    congr 1
    refine rise_eq ha.2 hb.2 fun z => ⟨fun hz => ?_, fun hz => ?_⟩
    · rcases List.mem_cons.1 ((h z).1 (List.mem_cons_of_mem _ hz)) with e | e
      · subst e; have := ha.1 z hz; omega
      · exact e
    · rcases List.mem_cons.1 ((h z).2 (List.mem_cons_of_mem _ hz)) with e | e
      · subst e; have := hb.1 z hz; omega
      · exact e
theorem rise_nodup {l : List Int} (h : l.Pairwise (· < ·)) : l.Nodup := List.Pairwise.imp (fun {a b} (h : a < b) => by omega) h
theorem sortZ_mem {l : List Int} {x : Int} : x ∈ sortZ l ↔ x ∈ l := (sortZ_perm l).mem_iff
theorem sortZ_rise {l : List Int} (h : l.Nodup) : (sortZ l).Pairwise (· < ·) := by
  have hn : (sortZ l).Nodup := (sortZ_perm l).nodup_iff.2 h
  refine List.Pairwise.imp ?_ ((sortZ_up l).and hn)
  intro a b h
  have := h.1
  have := h.2
  omega
theorem sortZ_same {a b : List Int} (ha : a.Nodup) (hb : b.Nodup) (h : ∀ x, x ∈ a ↔ x ∈ b) : sortZ a = sortZ b :=
  rise_eq (sortZ_rise ha) (sortZ_rise hb) fun x => by rw [sortZ_mem, sortZ_mem, h x]
theorem sortZ_id {l : List Int} (h : l.Pairwise (· < ·)) : sortZ l = l := rise_eq (sortZ_rise (rise_nodup h)) h fun _ => sortZ_mem
/-- One more put into what is in order. -/
theorem sortZ_snoc {a : List Int} {x : Int} (h : (a ++ [x]).Nodup) : sortZ (sortZ a ++ [x]) = sortZ (a ++ [x]) := by
  rw [List.nodup_append] at h
  refine sortZ_same ?_ ?_ fun z => ?_
  · rw [List.nodup_append]
    exact ⟨(sortZ_perm a).nodup_iff.2 h.1, h.2.1, fun y hy => h.2.2 y (sortZ_mem.1 hy)⟩
  · rw [List.nodup_append]; exact h
  · simp [sortZ_mem]
/-- Where a member is put. -/
theorem put_rise {l : List Int} {id : Int} {k : Nat} (h : l.Pairwise (· < ·)) (hn : id ∉ l) (h1 : ∀ (j : Nat) x, j < k → l[j]? = some x → x < id) (h2 : ∀ (j : Nat) x, k ≤ j → l[j]? = some x → id < x) : l.take k ++ [id] ++ l.drop k = sortZ (l ++ [id]) := by
  refine rise_eq ?_ (sortZ_rise ?_) fun x => ?_
  · rw [List.append_assoc, List.pairwise_append]
    refine ⟨h.sublist (List.take_sublist _ _), ?_, fun a ha b hb => ?_⟩
    · rw [List.singleton_append, List.pairwise_cons]
      refine ⟨fun b hb => ?_, h.sublist (List.drop_sublist _ _)⟩
      obtain ⟨j, hj⟩ := List.mem_iff_getElem?.1 hb
      rw [List.getElem?_drop] at hj
      exact h2 _ b (by omega) hj
    · obtain ⟨i, hi⟩ := List.mem_iff_getElem?.1 ha
      have hil := (List.getElem?_eq_some_iff.1 hi).1
      rw [List.length_take] at hil
      rw [List.getElem?_take, if_pos (by omega)] at hi
      have ha2 := h1 i a (by omega) hi
      rw [List.singleton_append, List.mem_cons] at hb
      rcases hb with rfl | hb
      · exact ha2
      · obtain ⟨j, hj⟩ := List.mem_iff_getElem?.1 hb
        rw [List.getElem?_drop] at hj
        have := h2 _ b (by omega) hj
        omega
  · rw [List.nodup_append]
    exact ⟨rise_nodup h, by simp, fun y hy b hb e => by simp at hb; subst hb; subst e; exact hn hy⟩
  · rw [sortZ_mem, List.mem_append, List.mem_append, List.mem_append, List.mem_singleton]
    conv => rhs; rw [← List.take_append_drop k l, List.mem_append]
    constructor
    · rintro ((h | h) | h)
      · exact .inl (.inl h)
      · exact .inr h
      · exact .inl (.inr h)
    · rintro ((h | h) | h)
      · exact .inl (.inl h)
      · exact .inr h
      · exact .inl (.inr h)
theorem rise_lt {l : List Int} (h : l.Pairwise (· < ·)) {i j : Nat} {x y : Int} (hx : l[i]? = some x) (hy : l[j]? = some y) (hij : i < j) : x < y := by
  obtain ⟨hi, rfl⟩ := List.getElem?_eq_some_iff.1 hx
  obtain ⟨hj, rfl⟩ := List.getElem?_eq_some_iff.1 hy
  exact List.pairwise_iff_getElem.1 h i j hi hj hij
theorem rise_gap {l : List Int} (h : l.Pairwise (· < ·)) {i j : Nat} {x y : Int} (hx : l[i]? = some x) (hy : l[j]? = some y) (hij : i ≤ j) : x + ((j - i : Nat) : Int) ≤ y := by
  induction j generalizing y with
  | zero =>
    obtain rfl : i = 0 := by omega
    rw [hx] at hy; have := Option.some.inj hy; simp; omega
  | succ j ih =>
    by_cases e : i = j + 1
    · subst e; rw [hx] at hy; have := Option.some.inj hy; simp; omega
    · have hjl : j < l.length := by have := (List.getElem?_eq_some_iff.1 hy).1; omega
      have h1 := ih (List.getElem?_eq_getElem hjl) (by omega)
      have h2 := rise_lt h (List.getElem?_eq_getElem hjl) hy (by omega)
      omega
end Go.Proofs.Ytfgihfhpnhedkaa
