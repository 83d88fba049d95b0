/-
  A region that draws its order, by an invariant over what is done: each operation that may come next keeps it. No condition of its own.
-/
import Derived.Orders
import Derived.Test.YtmnndekpedacmaaQt
namespace Go.Proofs.Ytmnndekpedacmaa
open Go Go.RowKit

theorem ready_lt {md : Region.Mode} {ops : Array Oper} {listed : Array Bool} {i : Nat} (h : i ∈ Region.ready md ops listed) : i < ops.size ∧ listed.getD i true = false := by
  unfold Region.ready at h
  rw [List.mem_filter] at h
  refine ⟨List.mem_range.1 h.1, ?_⟩
  have := h.2
  cases hl : listed.getD i true
  · rfl
  · rw [hl] at this; simp at this
/-- How many are not done. -/
def left_ (listed : Array Bool) (n : Nat) : Nat := (List.range n).countP fun i => !listed.getD i true
theorem left_set {listed : Array Bool} {n i : Nat} (hs : listed.size = n) (hi : i < n) (hl : listed.getD i true = false) : left_ (listed.setIfInBounds i true) n < left_ listed n := by
  unfold left_
  have hin : i ∈ List.range n := List.mem_range.2 hi
  obtain ⟨l1, l2, e⟩ := List.append_of_mem hin
  have hnd : (List.range n).Nodup := List.nodup_range
  rw [e] at hnd ⊢
  have h1 : ∀ j ∈ l1, j ≠ i := fun j hj hji => by
    subst hji
    rw [List.nodup_append] at hnd
    exact hnd.2.2 j hj j (by simp) rfl
  have h2 : ∀ j ∈ l2, j ≠ i := fun j hj hji => by
    subst hji
    rw [List.nodup_append] at hnd
    have := hnd.2.1
    rw [List.nodup_cons] at this
    exact this.1 hj
  have g : ∀ j, j ≠ i → (listed.setIfInBounds i true).getD j true = listed.getD j true := fun j hj => by
    simp only [Array.getD_eq_getD_getElem?]
    rw [Array.getElem?_setIfInBounds_ne (Ne.symm hj)]
  have gi : (listed.setIfInBounds i true).getD i true = true := by
    simp only [Array.getD_eq_getD_getElem?]
    rw [Array.getElem?_setIfInBounds_self_of_lt (by omega)]
    rfl
  have c1 : (l1.countP fun j => !(listed.setIfInBounds i true).getD j true) = l1.countP fun j => !listed.getD j true := List.countP_congr fun j hj => by rw [g j (h1 j hj)]
  have c2 : (l2.countP fun j => !(listed.setIfInBounds i true).getD j true) = l2.countP fun j => !listed.getD j true := List.countP_congr fun j hj => by rw [g j (h2 j hj)]
  rw [List.countP_append, List.countP_append, List.countP_cons, List.countP_cons, c1, c2, gi, hl]
  simp
theorem wpAny_inv {P : Program} {md : Region.Mode} {ops : Array Oper} {Q : Exit → Act → World → Prop} (I : Array Bool → Act → World → Prop)
    (hstep : ∀ listed a w i, listed.size = ops.size → I listed a w → i ∈ Region.ready md ops listed → wpOp P ops Q i (fun a' w' => I (listed.setIfInBounds i true) a' w') a w)
    (hend : ∀ listed a w, listed.size = ops.size → I listed a w → Region.ready md ops listed = [] → Q .normal a w) :
    ∀ (fuel : Nat) (listed : Array Bool) (a : Act) (w : World), listed.size = ops.size → left_ listed ops.size ≤ fuel → I listed a w → wpAny P md ops Q fuel listed a w := by
  intro fuel
  induction fuel with
  | zero =>
    intro listed a w hs hl hI
    have hr : Region.ready md ops listed = [] := by
      rw [List.eq_nil_iff_forall_not_mem]
      intro i hi
      have h := ready_lt hi
      have := left_set hs h.1 h.2
      omega
    exact ⟨hr, hend listed a w hs hI hr⟩
  | succ fuel ih =>
    intro listed a w hs hl hI
    refine ⟨hend listed a w hs hI, fun i hi => ?_⟩
    have h := ready_lt hi
    have hlt := left_set hs h.1 h.2
    exact wpOp_mono (fun a' w' hI' => ih _ a' w' (by simpa using hs) (by omega) hI') (hstep listed a w i hs hI hi)
/-- The region's law. -/
theorem wp_region_inv {P : Program} {id : Nat} {Q : Exit → Act → World → Prop} {a : Act} {w : World} {l : List Oper} (hm : P.follows .mixedOrders = true) (I : Array Bool → Act → World → Prop)
    (h0 : I (Array.replicate l.length false) a w.drew)
    (hstep : ∀ listed a w i, listed.size = l.length → I listed a w → i ∈ Region.ready .any l.toArray listed → wpOp P l.toArray Q i (fun a' w' => I (listed.setIfInBounds i true) a' w') a w)
    (hend : ∀ listed a w, listed.size = l.length → I listed a w → Region.ready .any l.toArray listed = [] → Q .normal a w) : (Code.region id l.toArray true).wp P Q a w := by
  refine wp_region_any hm ?_
  have hz : l.toArray.size = l.length := by simp
  refine wpAny_inv I (fun listed a w i hs => hstep listed a w i (by rw [hs, hz])) (fun listed a w hs => hend listed a w (by rw [hs, hz])) _ _ _ _ (by simp) ?_ (by rw [hz]; exact h0)
  unfold left_
  exact Nat.le_trans List.countP_le_length (by simp)
end Go.Proofs.Ytmnndekpedacmaa
