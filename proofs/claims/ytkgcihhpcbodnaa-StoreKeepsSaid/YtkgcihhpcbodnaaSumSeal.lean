/-
  What sum.Seal, sum.Open, their document's twins and the first call alive give, for texts of any length below 2^47. No other condition.
-/
import Derived.Test.YtkgcihhpcbodnaaOne
namespace Go.Proofs.Ytkgcihhpcbodnaa
open Go Go.RowKit

/-- A text with its sum behind it. -/
def sealB (s : ByteArray) : ByteArray := bs (bts s ++ lowB (crc (bts s)) 4)

theorem sealB_size (s : ByteArray) : (sealB s).size = s.size + 4 := by unfold sealB; rw [bs_size, List.length_append, bts_len, lowB_len]
theorem sealB_eq (s : ByteArray) : s ++ bs (lowB (crc (bts s)) 4) = sealB s := bs_append _ _

theorem maxs1 {s : ByteArray} (hs : s.size ≤ 140737488351232) : ∀ t ∈ [s], t.size ≤ maxLen := by
  intro t ht; simp at ht; subst ht; unfold maxLen; omega

/-- The sum of one text. -/
theorem of_one (s : ByteArray) (w : World) (hs : s.size ≤ 140737488351232) :
    Calls Try.prog 63 #[.slice (some ⟨w.heap.size, 0, none⟩) 1 1] (w.alloc (.cells #[.string s] 9)) fun e w' => e = .returned (.int .u32 (crc (bts s))) ∧ Below w.heap.size w w' :=
  (of_any _ 1 1 [s] _ (Rd.one _ _ _) rfl (by unfold maxLen; omega) (maxs1 hs)).mono fun e w' ⟨he, hb⟩ => ⟨by simpa using he, below_new _ (by simpa using hb)⟩
theorem of_at (s : ByteArray) (A : Option Addr) (c : Nat) (w : World) (hs : s.size ≤ 140737488351232) (hr : Rd w A [.string s]) :
    Calls Try.prog 63 #[.slice A 1 c] w fun e w' => e = .returned (.int .u32 (crc (bts s))) ∧ Below w.heap.size w w' :=
  (of_any _ 1 c [s] _ hr rfl (by unfold maxLen; omega) (maxs1 hs)).mono fun e w' ⟨he, hb⟩ => ⟨by simpa using he, hb⟩


/-- What a sealed text opens to. -/
def openL (b : List UInt8) : List UInt8 × Nat :=
  if b.length < 4 then ([], 5) else if b.drop (b.length - 4) = lowB (crc (b.take (b.length - 4))) 4 then (b.take (b.length - 4), 0) else ([], 7)

theorem openL_short {b : ByteArray} (h : b.size < 4) : openL (bts b) = ([], 5) := by
  unfold openL; rw [bts_len, if_pos h]



/-- The first call answers as the document fixes it. -/
theorem crc_fix : crc [49, 50, 51, 52, 53, 54, 55, 56, 57] = 3808858755 := by decide +kernel


end Go.Proofs.Ytkgcihhpcbodnaa
