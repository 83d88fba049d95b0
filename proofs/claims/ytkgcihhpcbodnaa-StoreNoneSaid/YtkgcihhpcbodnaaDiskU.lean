/-
  The law's Fill: a sector of some bytes. No condition.
-/
import Derived.Test.YtkgcihhpcbodnaaDiskO
import Derived.Laws.MakeOwn
import Derived.Laws.OwnMore
namespace Go.Proofs.Ytkgcihhpcbodnaa
open Go Go.RowKit
attribute [local go_sem] cell_set_if

def fillB (s : ByteArray) (i : Nat) : UInt8 := (bts s).getD (i % s.size) 0
def fillG (N : Nat) (s : ByteArray) (k : Nat) : List UInt8 := (List.range N).map fun i => if i < k then fillB s i else 0
theorem fillG_len (N : Nat) (s : ByteArray) (k : Nat) : (fillG N s k).length = N := by simp [fillG]
theorem fillG_zero (N : Nat) (s : ByteArray) : fillG N s 0 = List.replicate N 0 := by
  refine List.ext_getElem? fun i => ?_
  simp only [fillG, List.getElem?_map, List.getElem?_replicate]
  by_cases h : i < N
  · rw [List.getElem?_range h, if_pos h]; rfl
  · rw [List.getElem?_eq_none (by rw [List.length_range]; omega), if_neg h]; rfl
theorem fillG_set (N : Nat) (s : ByteArray) {k : Nat} (hk : k < N) : (fillG N s k).set k (fillB s k) = fillG N s (k + 1) := by
  refine List.ext_getElem? fun i => ?_
  rw [List.getElem?_set]
  by_cases e : k = i
  · subst e
    rw [if_pos rfl, if_pos (by rw [fillG_len]; exact hk)]
    simp only [fillG, List.getElem?_map]
    rw [List.getElem?_range hk]
    simp
  · rw [if_neg e]
    simp only [fillG, List.getElem?_map]
    by_cases h : i < N
    · rw [List.getElem?_range h]
      simp only [Option.map_some]
      by_cases h2 : i < k
      · rw [if_pos h2, if_pos (by omega)]
      · rw [if_neg h2, if_neg (by omega)]
    · rw [List.getElem?_eq_none (by rw [List.length_range]; omega)]; rfl
def fillN (s : ByteArray) (k : Nat) : List UInt8 := fillG 256 s k
/-- A sector of the bytes of s, again and again. -/
def fillS (s : ByteArray) : ByteArray := bs (fillN s 256)
theorem fillN_len (s : ByteArray) (k : Nat) : (fillN s k).length = 256 := fillG_len _ _ _
theorem fillS_size (s : ByteArray) : (fillS s).size = 256 := by unfold fillS; rw [bs_size, fillN_len]
theorem fillN_zero (s : ByteArray) : fillN s 0 = List.replicate 256 0 := fillG_zero _ _
theorem fillN_set (s : ByteArray) {k : Nat} (hk : k < 256) : (fillN s k).set k (fillB s k) = fillN s (k + 1) := fillG_set _ _ hk
theorem fillN_none (s : ByteArray) (h : s.size = 0) (k k' : Nat) : fillN s k = fillN s k' := by
  have hb : ∀ i, fillB s i = 0 := fun i => by
    have : bts s = [] := by have := bts_len s; rw [h] at this; exact List.eq_nil_of_length_eq_zero this
    unfold fillB; rw [this]; rfl
  unfold fillN fillG
  refine List.map_congr_left fun i _ => ?_
  rw [hb, ite_self, ite_self]
theorem fillB_at (s : ByteArray) (k : Nat) (h : k % s.size < s.size) : s[k % s.size] = fillB s k := by
  unfold fillB
  rw [List.getD_eq_getElem?_getD]
  have h2 : (bts s)[k % s.size]? = some s[k % s.size] := by
    unfold bts
    rw [Array.getElem?_toList]
    exact Array.getElem?_eq_getElem h
  rw [h2]; rfl
end Go.Proofs.Ytkgcihhpcbodnaa
