/-
  Plain facts about where a key stands among children. No program in them.
-/
import Derived.Test.YtldkhhipfoeckaaGreatKidP
namespace Go.Proofs.YtldkhhipfoeckaaGreat
open Go Go.RowKit

/-- r children's keys are not above the key, the others are. -/
structure FindK (ks : List Kd) (key : ByteArray) (r : Nat) : Prop where
  le : r ≤ ks.length
  lo : ∀ (t : Nat) y, t < r → ks[t]? = some y → ltB key y.key = false
  hi : ∀ (t : Nat) y, r ≤ t → ks[t]? = some y → ltB key y.key = true
theorem FindK.at_ {ks : List Kd} {key : ByteArray} {r : Nat} (h : FindK ks key r) {i : Nat} {x : Kd} (hx : ks[i]? = some x) (hb : ltB key x.key = false) (hn : ∀ y, ks[i + 1]? = some y → ltB key y.key = true) : r = i + 1 := by
  have h1 : i < r := by
    by_cases hc : i < r
    · exact hc
    · have := h.hi i x (by omega) hx; rw [hb] at this; cases this
  by_cases hc : r ≤ i + 1
  · omega
  · have hl := h.le
    obtain ⟨y, hy⟩ : ∃ y, ks[i + 1]? = some y := ⟨ks[i + 1]'(by omega), List.getElem?_eq_getElem _⟩
    have := h.lo (i + 1) y (by omega) hy
    rw [hn y hy] at this; cases this
/-- The place that is told. -/
def findV (n r : Nat) : Int := if r = 0 ∧ 0 < n then 0 else (r : Int) - 1
theorem ltB_asymm {a b : ByteArray} (h : ltB a b = true) : ltB b a = false := by
  cases k : ltB b a
  · rfl
  · have := ltB_trans h k; rw [ltB_irrefl] at this; cases this
end Go.Proofs.YtldkhhipfoeckaaGreat
