/-
  Plain facts on what is agreed: up to which index, by whom. No program in them.
-/
import Derived.Test.YtfgihfhpnhedkaaQuorP
import Derived.Test.YtfgihfhpnhedkaaHist
namespace Go.Proofs.Ytfgihfhpnhedkaa
open Go Go.RowKit

/-- The greatest number that more than half have at least. -/
def idxV (mem at_ : List Int) : Int := if rightV mem = true then midZ (mem.map (numAt at_)) else 0
/-- Are more than half of the members among some? -/
def quorV (mem ids : List Int) : Bool := rightV mem && decide (mem.length < 2 * mem.countP fun x => decide (x ∈ ids))
/-- Who has at least as much. -/
def haveV (mem at_ : List Int) (r : Int) : List Int := mem.filter fun x => decide (r ≤ numAt at_ x)
def safeV (mem at_ : List Int) (r : Int) : Bool := rightV mem && decide (mem.length < 2 * mem.countP fun x => decide (r ≤ numAt at_ x))
theorem quor_have (mem at_ : List Int) (r : Int) : quorV mem (haveV mem at_ r) = safeV mem at_ r := by
  unfold quorV safeV haveV
  have : (mem.countP fun x => decide (x ∈ mem.filter fun x => decide (r ≤ numAt at_ x))) = mem.countP fun x => decide (r ≤ numAt at_ x) := by
    apply List.countP_congr
    intro x hx
    simp [hx]
  rw [this]
/-- Up to where all is agreed. -/
def commV (mem at_ : List Int) (ii tt : Int) (E : List Ent) (term com : Int) : Int := if com < idxV mem at_ ∧ termE ii tt E (idxV mem at_) = some term then idxV mem at_ else com
theorem termE_in {ii tt : Int} {E : List Ent} {i t : Int} (h : termE ii tt E i = some t) : ii ≤ i ∧ i ≤ ii + E.length := by
  unfold termE at h
  split at h
  · cases h
  · omega
theorem commV_prog {mem at_ : List Int} {ii tt : Int} {E : List Ent} {term com : Int} {m : Int} (hm : m = max com (idxV mem at_)) :
    commV mem at_ ii tt E term com = if (termE ii tt E m).isSome = false ∨ (termE ii tt E m).getD 0 ≠ term ∨ ii + E.length < m then com else m := by
  unfold commV
  by_cases hc : com < idxV mem at_
  · have hm' : m = idxV mem at_ := by omega
    rw [hm']
    by_cases ht : termE ii tt E (idxV mem at_) = some term
    · have := termE_in ht
      rw [if_pos ⟨hc, ht⟩, ht, if_neg]
      simp; omega
    · rw [if_neg (fun h => ht h.2), if_pos]
      cases h : termE ii tt E (idxV mem at_) with
      | none => exact .inl rfl
      | some t => exact .inr (.inl fun e => ht (by rw [h]; exact congrArg some e))
  · have hm' : m = com := by omega
    rw [if_neg (fun h => hc h.1), hm']
    split <;> rfl
theorem numAt_in {at_ : List Int} {id : Int} {k : Nat} (hk : id = (k : Int)) (hl : k < at_.length) {x : Int} (hx : at_[k]? = some x) : numAt at_ id = x := by
  unfold numAt
  rw [if_pos (by omega), List.getD_eq_getElem?_getD, show id.toNat = k by omega, hx]; rfl
theorem numAt_out {at_ : List Int} {id : Int} (h : id < 0 ∨ (at_.length : Int) ≤ id) : numAt at_ id = 0 := by
  unfold numAt
  rw [if_neg (by omega)]
end Go.Proofs.Ytfgihfhpnhedkaa
