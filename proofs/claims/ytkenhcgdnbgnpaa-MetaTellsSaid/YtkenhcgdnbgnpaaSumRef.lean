/-
  What the document's Sum and Low and the program's lay give, for texts of any length below 2^63. No other condition.
-/
import Derived.Test.YtkenhcgdnbgnpaaSumWalks
namespace Go.Proofs.Ytkenhcgdnbgnpaa
open Go Go.RowKit

set_option maxRecDepth 100000 in
set_option maxHeartbeats 1000000 in
theorem refsum_any (s : ByteArray) (w : World) (hs : s.size ≤ maxLen) :
    Calls Try.prog 46 #[.string s] w fun e w' => e = .returned (.int .u32 (crc (bts s))) ∧ w' = w := by
  unfold maxLen at hs
  go_enter Try.func46, Try.ntmps46
  go_wp2
  go_loop [3, 4] (fun u3 u4 => ∃ k : Nat, k ≤ s.size ∧ u4 = .int .i64 k ∧ u3 = .int .u32 (crcL 4294967295 (s.data.toList.take k))) (fun _ u4 => s.size - (intOf u4).toNat)
  case atStart => exact ⟨0, by omega, rfl, rfl⟩
  case round =>
    obtain ⟨k, hk, rfl, rfl⟩ := hrel
    have hx := crcL_lt (x := 4294967295) (by omega) (s.data.toList.take k)
    by_cases hlt : k < s.size
    · have HTS := Lib.hid (take_snoc s k hlt)
      have HSN := Lib.hid (crcL_snoc 4294967295 (s.data.toList.take k) s[k])
      have hby : (s[k].toNat : Int) < 256 := by have := s[k].toNat_lt; omega
      generalize crcL 4294967295 (s.data.toList.take k) = X at hx HSN ⊢
      have e1 := bitsxor X s[k].toNat hx (by omega)
      have hx1 := xor_byte_lt hx s[k]
      generalize X ^^^ s[k].toNat = Y at hx1 e1 HSN
      go_wp2
      go_loop [3, 5] (fun u3 u5 => ∃ j : Nat, j ≤ 8 ∧ u5 = .int .i64 j ∧ u3 = .int .u32 (shN j Y)) (fun _ u5 => 8 - (intOf u5).toNat)
      case atStart => exact ⟨0, by omega, rfl, rfl⟩
      case round =>
        obtain ⟨j, hj, rfl, rfl⟩ := hrel
        have hn := shN_lt j hx1
        clear e1
        by_cases hj8 : j < 8
        · by_cases ho : shN j Y % 2 = 1
          · have e3 : ((shN j Y : Int) % 2 == 1) = true := by simp; omega
            have e2 := Lib.hid (bitsxor (shN j Y / 2) 2197175160 (by omega) (by omega))
            go_wp2
            go_round
            case rel => exact ⟨j + 1, by omega, by go_num, by show _ = Value.int _ ((sh1 (shN j Y) : Nat) : Int); unfold sh1; rw [if_pos ho, ← e2.out]; rfl⟩
            case measure => simp [intOf]; omega
          · have e3 : ((shN j Y : Int) % 2 == 1) = false := by simp; omega
            go_wp2
            go_round
            case rel => exact ⟨j + 1, by omega, by go_num, by show _ = Value.int _ ((sh1 (shN j Y) : Nat) : Int); unfold sh1; rw [if_neg ho]; rfl⟩
            case measure => simp [intOf]; omega
        · obtain rfl : j = 8 := by omega
          go_wp2
          go_round
          case rel => exact ⟨k + 1, by omega, by go_num, by rw [HTS.out, HSN.out]⟩
          case measure => simp [intOf]; omega
    · obtain rfl : k = s.size := by omega
      have E : Hid (((crcL 4294967295 s.data.toList ^^^ 4294967295 : Nat) : Int) = ((crc (bts s) : Nat) : Int)) := rfl
      rw [take_all] at hx ⊢
      have E2 := Lib.hid (bitsxor 4294967295 _ (by omega) hx)
      go_wp2
      go_ret
      refine ⟨ret_int ?_, rfl⟩
      rw [← E.out, Nat.xor_comm]
      exact E2.out


theorem u8info : (Try.prog.info? 5).map (fun i => (i.zero, i.size, i.bytes)) = some (some (.int .u8 0), 1, 1) := by kernel_rfl

set_option maxHeartbeats 1000000 in
theorem low_any (v n : Nat) (w : World) (hv : v < 18446744073709551616) (hn : n ≤ 1000000) :
    Calls Try.prog 22 #[.int .u64 v, .int .i64 n] w fun e w' => e = .returned (str (lowB v n)) ∧ Below w.heap.size w w' := by
  obtain ⟨i0, hi0, hz0, hz1, hz2⟩ := info_parts u8info
  go_enter Try.func22, Try.ntmps22
  go_wp2
  go_loopw [0, 5, 6] (fun u0 u5 u6 wr => ∃ k : Nat, k ≤ n ∧ u6 = .int .i64 k ∧ u0 = .int .u64 (v / 256 ^ k : Nat) ∧ wr.ownsRow w.heap.size 5 1 u5 k (u8s (lowB v k)) ∧ Below w.heap.size w wr) (fun _ _ u6 _ => n - (intOf u6).toNat)
  case atStart => exact ⟨0, by omega, rfl, by simp, World.ownsRow_nil _ _ _ _, Below.refl _ _⟩
  case round =>
    obtain ⟨k, hk, rfl, rfl, hown, hb⟩ := hrel
    have hq : v / 256 ^ k < 18446744073709551616 := Nat.lt_of_le_of_lt (Nat.div_le_self _ _) hv
    have HS := Lib.hid (lowB_snoc v k)
    have HD : Hid (v / 256 ^ k / 256 = v / 256 ^ (k + 1)) := by unfold Hid; rw [Nat.div_div_eq_div_mul, Nat.pow_succ]
    generalize v / 256 ^ k = V at hq HS HD ⊢
    by_cases hlt : k < n
    · go_wp2_with (first
        | (at_builtin
           refine wpList_app rfl (.tmp 12) (.tmp 15) _ rfl w.heap.size 5 i0 _ 1 1 Try.underlying44 hi0 hz0 hz1 hz2 rfl (by omega) u5 k _ rfl (hown.alloc _) _ 1 1 [.int .u8 ((V : Int) % 256)] rfl (Rd.one _ _ _) rfl (one_int _ _) (by unfold maxLen; omega) (by omega) (by have := hb.size; simp; omega) ?_
           intro v1 w1 hown1 hg1 hb1 hat1))
      go_roundw
      case rel =>
        refine ⟨k + 1, by omega, by go_num, by rw [← HD.out]; go_num, ?_, (hb.alloc hb.size _).trans hb1⟩
        rw [HS.out]
        simpa [u8s] using hown1
      case measure => simp [intOf]; omega
    · obtain rfl : k = n := by omega
      have hl := hown.1
      obtain ⟨A, c, rfl⟩ : ∃ A c, u5 = .slice A k c := by
        rcases hown.2 with ⟨rfl, rfl⟩ | ⟨g, cap, cur, rfl, _⟩
        · exact ⟨_, _, rfl⟩
        · exact ⟨_, _, rfl⟩
      have HR := Lib.hid (Rd.of_own hown)
      clear hown
      go_wp2_with (refine wpList_bytes_str rfl 44 9 (.tmp 19) rfl 5 Try.underlying44 Try.underlying5 Try.underlying9 _ k _ (lowB v k) rfl HR.out (lowB_len _ _) ?_)
      go_ret
      exact ⟨rfl, hb⟩
end Go.Proofs.Ytkenhcgdnbgnpaa
