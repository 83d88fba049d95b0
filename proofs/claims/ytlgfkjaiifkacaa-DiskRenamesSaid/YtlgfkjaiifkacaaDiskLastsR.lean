/-
  DiskLasts in plain words: the disk of fills; what Size and Read tell behind the crash. No condition of its own.
-/
import Derived.Test.YtlgfkjaiifkacaaDiskLastsQ
namespace Go.Proofs.Ytlgfkjaiifkacaa
open Go Go.RowKit

/-- The disk behind the crash and Restore. -/
def aftD (nm : ByteArray) (X : List ByteArray) (sa i : Nat) (keep : List Int) : Ds :=
  if i = 0 then ⟨[], [], false, 0, false, 0, [], 0⟩ else ⟨if anyN sa keep (i - sa) then [(nm, ⟨0, safeN X sa keep (i - sa), safeN X sa keep (i - sa), true⟩)] else [], [], false, 0, false, 0, [], 1⟩
theorem oneD_zero_crash (nm : ByteArray) (X : List ByteArray) (keep : List Int) : crashD (oneD nm X 0 0) keep = (0, ⟨[], [], true, 0, false, 0, [], 0⟩) := rfl
theorem oneD_restore {nm : ByteArray} {X : List ByteArray} {sa i : Nat} (hs : sa ≤ i) (keep : List Int) : ∃ d, crashD (oneD nm X sa i) keep = (lostN keep (i - sa), d) ∧ restoreD d = aftD nm X sa i keep := by
  by_cases h : i = 0
  · subst h
    obtain rfl : sa = 0 := by omega
    exact ⟨_, rfl, rfl⟩
  · refine ⟨_, oneD_crash (by omega) keep, ?_⟩
    unfold aftD
    rw [if_neg h]; rfl
theorem aftD_off (nm : ByteArray) (X : List ByteArray) (sa i : Nat) (keep : List Int) : (aftD nm X sa i keep).off = false := by unfold aftD; split <;> rfl
theorem aftD_find {nm : ByteArray} {X : List ByteArray} {sa i : Nat} {keep : List Int} (h0 : i ≠ 0) (ha : anyN sa keep (i - sa) = true) : (aftD nm X sa i keep).find nm = some ⟨0, safeN X sa keep (i - sa), safeN X sa keep (i - sa), true⟩ := by
  unfold aftD Ds.find
  rw [if_neg h0, ha]; simp
theorem aftD_none {nm : ByteArray} {X : List ByteArray} {sa i : Nat} {keep : List Int} (h : i = 0 ∨ anyN sa keep (i - sa) = false) : (aftD nm X sa i keep).find nm = none := by
  unfold aftD Ds.find
  by_cases h0 : i = 0
  · rw [if_pos h0]; rfl
  · rw [if_neg h0, h.resolve_left h0]; rfl
theorem aftD_size {nm : ByteArray} (hn : nameOk nm = true) {X : List ByteArray} {sa i : Nat} {keep : List Int} (h0 : i ≠ 0) (ha : anyN sa keep (i - sa) = true) : sizeD (aftD nm X sa i keep) nm = ((((safeN X sa keep (i - sa)).length : Nat) : Int), 0) := by
  have hm : mayD (aftD nm X sa i keep) nm = 0 := by unfold mayD; rw [aftD_off, hn]; rfl
  unfold sizeD fileD
  rw [if_neg (by rw [hm]; decide), aftD_find h0 ha]
theorem aftD_nosize {nm : ByteArray} (hn : nameOk nm = true) {X : List ByteArray} {sa i : Nat} {keep : List Int} (h : i = 0 ∨ anyN sa keep (i - sa) = false) : sizeD (aftD nm X sa i keep) nm = (0, 8) := by
  have hm : mayD (aftD nm X sa i keep) nm = 0 := by unfold mayD; rw [aftD_off, hn]; rfl
  unfold sizeD fileD
  rw [if_neg (by rw [hm]; decide), aftD_none h]
theorem aftD_read {nm : ByteArray} (hn : nameOk nm = true) {X : List ByteArray} {sa i j : Nat} {keep : List Int} {x : ByteArray} (h0 : i ≠ 0) (ha : anyN sa keep (i - sa) = true) (hx : (safeN X sa keep (i - sa))[j]? = some x) : readD (aftD nm X sa i keep) nm (j : Int) = (x, 0) := by
  have hm : mayD (aftD nm X sa i keep) nm = 0 := by unfold mayD; rw [aftD_off, hn]; rfl
  have hl := (List.getElem?_eq_some_iff.1 hx).1
  unfold readD fileD
  rw [if_neg (by rw [hm]; decide), aftD_find h0 ha]
  simp only
  rw [if_neg (by omega), Int.toNat_natCast, List.getD_eq_getElem?_getD, hx]; rfl
end Go.Proofs.Ytlgfkjaiifkacaa
