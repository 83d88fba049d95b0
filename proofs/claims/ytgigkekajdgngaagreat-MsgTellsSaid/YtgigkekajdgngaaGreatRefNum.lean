/-
  What the document's Num gives: the number of bytes, the lowest first. Condition: at most eight bytes.
-/
import Derived.Test.YtgigkekajdgngaaGreatMtOne
namespace Go.Proofs.YtgigkekajdgngaaGreat
open Go Go.RowKit

set_option maxHeartbeats 1000000 in
theorem refnum_any (s : ByteArray) (w : World) (hs : s.size ≤ 8) :
    Calls Tryz.prog 105 #[.string s] w fun e w' => e = .returned (.int .u64 (numL (bts s))) ∧ w' = w := by
  go_enter Tryz.func105, Tryz.ntmps105
  go_wp2
  go_loop [3, 4] (fun u3 u4 => ∃ k : Nat, k ≤ s.size ∧ u4 = .int .i64 ((s.size : Int) - 1 - k) ∧ u3 = .int .u64 (numL ((bts s).drop (s.size - k)))) (fun _ u4 => (intOf u4 + 1).toNat)
  case atStart => exact ⟨0, by omega, by go_num, by rw [Nat.sub_zero, List.drop_of_length_le (by rw [bts_len]; omega)]; rfl⟩
  case round =>
    obtain ⟨k, hk, rfl, rfl⟩ := hrel
    by_cases hlt : k < s.size
    · obtain ⟨j, hj⟩ : ∃ j, s.size = k + (j + 1) := ⟨s.size - k - 1, by omega⟩
      have e1 : (s.size : Int) - 1 - (k : Int) = (j : Int) := by omega
      have e2 : s.size - k = j + 1 := by omega
      have e3 : s.size - (k + 1) = j := by omega
      have hjl : j < s.size := by omega
      have hd : (bts s).drop j = s[j] :: (bts s).drop (j + 1) := by
        rw [List.drop_eq_getElem_cons (by rw [bts_len]; exact hjl)]; rfl
      have hv : numL ((bts s).drop (j + 1)) < 72057594037927936 := by
        have h1 := numL_lt ((bts s).drop (j + 1))
        have h2 : (256 : Nat) ^ ((bts s).drop (j + 1)).length ≤ 256 ^ 7 := Nat.pow_le_pow_right (by omega) (by rw [List.length_drop, bts_len]; omega)
        omega
      rw [e1, e2]
      have HE3 := Lib.hid e3
      have HD := Lib.hid hd
      have HE1 := Lib.hid e1
      have hjl' : (j : Int) < (s.size : Int) := by omega
      have hby : (s[j].toNat : Int) < 256 := by have := s[j].toNat_lt; omega
      clear e1 e2 e3 hd hj
      generalize hV : numL ((bts s).drop (j + 1)) = V at hv ⊢
      have HV := Lib.hid hV
      clear hV
      go_wp2
      go_round
      case rel =>
        refine ⟨k + 1, by omega, ?_, ?_⟩
        · have := HE1.out; exact int_eq (by omega)
        · rw [HE3.out, HD.out]
          apply int_eq
          show (V : Int) * 256 + (s[j].toNat : Int) = ((s[j].toNat + 256 * numL ((bts s).drop (j + 1)) : Nat) : Int)
          rw [HV.out]; omega
      case measure => simp [intOf]
    · obtain rfl : k = s.size := by omega
      go_wp2
      go_ret
      exact ⟨rfl, rfl⟩
end Go.Proofs.YtgigkekajdgngaaGreat
