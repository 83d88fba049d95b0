/-
  The plain law behind BigParts: a value's parts, one behind the other; a place's text, read. No program in sight but its numbers.
-/
import Derived.Test.YtejmpfmkaiaklaaBigLay
namespace Go.Proofs.Ytejmpfmkaiaklaa
open Go Go.RowKit

/-- What stands in the pages ahead of the k-th. -/
def upB (v : ByteArray) (k : Nat) : ByteArray := v.extract 0 (min (k * 232) v.size)
theorem upB_zero (v : ByteArray) : upB v 0 = ⟨#[]⟩ := bts_inj (by unfold upB; rw [bts_extract]; simp [bts])
theorem needN_ge (n : Nat) : n ≤ needN n * 232 := by unfold needN; split <;> omega
theorem needN_lt (n k : Nat) (h : k < needN n) : k * 232 ≤ n := by unfold needN at h; split at h <;> omega
theorem needN_full (n k : Nat) (h : k + 1 < needN n) : k * 232 + 232 ≤ n := by unfold needN at h; split at h <;> omega
theorem upB_end (v : ByteArray) : upB v (needN v.size) = v := bts_inj (by
  have := needN_ge v.size
  unfold upB; rw [bts_extract, Nat.min_eq_right this, List.drop_zero, List.take_of_length_le (by rw [bts_len]; omega)])
theorem upB_succ (v : ByteArray) (k : Nat) (h : k * 232 ≤ v.size) : upB v (k + 1) = upB v k ++ partB v k := bts_inj (by
  unfold upB partB
  rw [bts_append, bts_extract, bts_extract, bts_extract, List.drop_zero, List.drop_zero, Nat.min_eq_left h, show (k + 1) * 232 = k * 232 + 232 by omega]
  have e : (bts v).take (k * 232) = ((bts v).take (min (k * 232 + 232) v.size)).take (k * 232) := by rw [List.take_take, Nat.min_eq_left (by omega)]
  rw [e, List.take_append_drop])
theorem upB_size (v : ByteArray) (k : Nat) : (upB v k).size ≤ v.size := by unfold upB; rw [ByteArray.size_extract]; omega
theorem partB_full (v : ByteArray) (k : Nat) (h : k + 1 < needN v.size) : (partB v k).size = 232 := by
  have := needN_full v.size k h
  unfold partB; rw [ByteArray.size_extract]; omega
theorem getNumL (n v : Nat) (r : List UInt8) (hv : v < 256 ^ n) (hv2 : v < 9223372036854775808) : getNum n (lowB v n ++ r, 0) = ((v : Int), (r, 0)) := by
  have hl := lowB_len v n
  unfold getNum getRaw
  simp only [if_true]
  rw [if_neg (by omega), if_neg (by simp [hl]; omega)]
  simp only [Int.toNat_natCast]
  rw [List.take_left' hl, List.drop_left' hl, num_lowB_lt hv]
  unfold sgn64; rw [if_pos hv2]
theorem unref_ref (first : Int) (n : Nat) (h0 : 2 ≤ first) (h1 : first < 4000) (hn : n ≤ 2000) : unrefE (refE first n).1 = (first, (n : Int), 0) := by
  have hr : refE first n = (lowB first.toNat 2 ++ lowB (n : Int).toNat 2, 0) := refE_ok (by omega)
  have g1 := getNumL 2 first.toNat (lowB (n : Int).toNat 2) (by omega) (by omega)
  have g2 := getNumL 2 (n : Int).toNat [] (by omega) (by omega)
  rw [List.append_nil] at g2
  rw [hr]
  unfold unrefE
  simp only [g1, g2]
  rw [show ((first.toNat : Nat) : Int) = first by omega, show (((n : Int).toNat : Nat) : Int) = n by omega, hr]
  simp
end Go.Proofs.Ytejmpfmkaiaklaa
