/-
  What sum.Seal, sum.Open, their document's twins and the first call alive give, for texts of any length below 2^47. No other condition.
-/
import Derived.Test.YtgigkekajdgngaaSumRef
namespace Go.Proofs.Ytgigkekajdgngaa
open Go Go.RowKit

/-- A text with its sum behind it. -/
def sealB (s : ByteArray) : ByteArray := bs (bts s ++ lowB (crc (bts s)) 4)

theorem sealB_size (s : ByteArray) : (sealB s).size = s.size + 4 := by unfold sealB; rw [bs_size, List.length_append, bts_len, lowB_len]
theorem sealB_eq (s : ByteArray) : s ++ bs (lowB (crc (bts s)) 4) = sealB s := bs_append _ _

theorem maxs1 {s : ByteArray} (hs : s.size ≤ 140737488351232) : ∀ t ∈ [s], t.size ≤ maxLen := by
  intro t ht; simp at ht; subst ht; unfold maxLen; omega

/-- The sum of one text. -/
theorem of_one (s : ByteArray) (w : World) (hs : s.size ≤ 140737488351232) :
    Calls Try.prog 39 #[.slice (some ⟨w.heap.size, 0, none⟩) 1 1] (w.alloc (.cells #[.string s] 9)) fun e w' => e = .returned (.int .u32 (crc (bts s))) ∧ Below w.heap.size w w' :=
  (of_any _ 1 1 [s] _ (Rd.one _ _ _) rfl (by unfold maxLen; omega) (maxs1 hs)).mono fun e w' ⟨he, hb⟩ => ⟨by simpa using he, below_new _ (by simpa using hb)⟩
theorem of_at (s : ByteArray) (A : Option Addr) (c : Nat) (w : World) (hs : s.size ≤ 140737488351232) (hr : Rd w A [.string s]) :
    Calls Try.prog 39 #[.slice A 1 c] w fun e w' => e = .returned (.int .u32 (crc (bts s))) ∧ Below w.heap.size w w' :=
  (of_any _ 1 c [s] _ hr rfl (by unfold maxLen; omega) (maxs1 hs)).mono fun e w' ⟨he, hb⟩ => ⟨by simpa using he, hb⟩
theorem seal_any (s : ByteArray) (w : World) (hs : s.size ≤ 140737488351232) :
    Calls Try.prog 21 #[.string s] w fun e w' => e = .returned (.string (sealB s)) ∧ Below w.heap.size w w' := by
  have hz : s.size + (bs (lowB (crc (bts s)) 4)).size ≤ 9223372036854775807 := by rw [bs_size, lowB_len]; omega
  have E := Lib.hid (sealB_eq s)
  go_enter Try.func21, Try.ntmps21
  go_wp2_with (first
    | (go_at_call 39; refine (of_one _ _ hs).mono ?_; rintro e w1 ⟨rfl, hb1⟩)
    | (go_at_call 38; refine (lay_any _ _ (crc_lt _)).mono ?_; rintro e w2 ⟨rfl, hb2⟩))
  go_ret
  exact ⟨by rw [← E.out]; rfl, hb1.trans (hb2.mono hb1.size)⟩


/-- What a sealed text opens to. -/
def openL (b : List UInt8) : List UInt8 × Nat :=
  if b.length < 4 then ([], 5) else if b.drop (b.length - 4) = lowB (crc (b.take (b.length - 4))) 4 then (b.take (b.length - 4), 0) else ([], 7)

theorem openL_short {b : ByteArray} (h : b.size < 4) : openL (bts b) = ([], 5) := by
  unfold openL; rw [bts_len, if_pos h]

set_option maxHeartbeats 1000000 in
theorem open_any (b : ByteArray) (w : World) (hs : b.size ≤ 140737488351232) :
    Calls Try.prog 22 #[.string b] w fun e w' => e = .returned (.tuple #[str (openL (bts b)).1, .int .i64 (openL (bts b)).2]) ∧ Below w.heap.size w w' := by
  by_cases h4 : b.size < 4
  · have h4' : (b.size : Int) - 4 < 0 := by omega
    rw [openL_short h4]
    go_enter Try.func22, Try.ntmps22
    go_wp2
    go_ret2
    exact ⟨rfl, Below.refl _ _⟩
  · have h4' : (4 : Int) ≤ (b.size : Int) := by omega
    obtain ⟨m, hm⟩ : ∃ m : Nat, m = b.size - 4 := ⟨_, rfl⟩
    have he1 : (b.extract 0 m).size ≤ 140737488351232 := by rw [ByteArray.size_extract]; omega
    have e : ((b.size : Int) - 4) = (m : Int) := by omega
    have hm1 : (m : Int) ≤ (b.size : Int) := by omega
    have hm0 : (0 : Int) ≤ (m : Int) := by omega
    have T1 : bts (b.extract 0 m) = (bts b).take m := by rw [bts_extract]; rfl
    have T2 : bts (b.extract m b.size) = (bts b).drop m := by rw [bts_extract, List.take_of_length_le (by rw [bts_len]; omega)]
    by_cases hq : (bts b).drop m = lowB (crc ((bts b).take m)) 4
    · have hB : ((b.extract m b.size).toList == (bs (lowB (crc (bts (b.extract 0 m))) 4)).toList) = true := by
        rw [str_beq, T1, T2, bts_bs, hq]; simp
      have HO : Hid (openL (bts b) = ((bts b).take m, 0)) := by
        unfold Hid openL; rw [bts_len, if_neg h4, ← hm, if_pos hq]
      have HT : Hid (b.extract 0 m = bs ((bts b).take m)) := by unfold Hid; rw [← T1, bs_bts]
      clear hq T1 T2 hm
      go_enter Try.func22, Try.ntmps22
      go_wp2
      go_region_held3 (fun _ => True) (exact trivial) (first
        | (go_at_call 39; refine (of_at _ _ _ _ he1 (by exact Rd.one _ _ _)).mono ?_; rintro e w1 ⟨rfl, hb1⟩)
        | (go_at_call 38; refine (lay_any _ _ (crc_lt _)).mono ?_; rintro e w2 ⟨rfl, hb2⟩))
      go_wp2
      go_ret2
      exact ⟨by rw [HO.out]; show Ending.returned (.tuple #[.string (b.extract 0 m), _]) = _; rw [HT.out]; rfl, below_of hb2 (below_of hb1 (((Below.refl _ _).alloc (Nat.le_refl _) _).drew) (by simp)) (by have := hb1.size; simp at this; omega)⟩
    · have hB : ((b.extract m b.size).toList == (bs (lowB (crc (bts (b.extract 0 m))) 4)).toList) = false := by
        rw [str_beq, T1, T2, bts_bs]; simpa using hq
      have HO : Hid (openL (bts b) = ([], 7)) := by
        unfold Hid openL; rw [bts_len, if_neg h4, ← hm, if_neg hq]
      clear hq T1 T2 hm
      go_enter Try.func22, Try.ntmps22
      go_wp2
      go_region_held3 (fun _ => True) (exact trivial) (first
        | (go_at_call 39; refine (of_at _ _ _ _ he1 (by exact Rd.one _ _ _)).mono ?_; rintro e w1 ⟨rfl, hb1⟩)
        | (go_at_call 38; refine (lay_any _ _ (crc_lt _)).mono ?_; rintro e w2 ⟨rfl, hb2⟩))
      go_wp2
      go_ret2
      exact ⟨by rw [HO.out]; rfl, below_of hb2 (below_of hb1 (((Below.refl _ _).alloc (Nat.le_refl _) _).drew) (by simp)) (by have := hb1.size; simp at this; omega)⟩


/-- The first call answers as the document fixes it. -/
theorem crc_fix : crc [49, 50, 51, 52, 53, 54, 55, 56, 57] = 3808858755 := by decide +kernel


end Go.Proofs.Ytgigkekajdgngaa
