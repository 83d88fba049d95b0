/-
  What the document's Sum and Low and the program's lay give, for texts of any length below 2^63. No other condition.
-/
import Derived.Test.YtldkhhipfoeckaaGreatSumWalks
namespace Go.Proofs.YtldkhhipfoeckaaGreat
open Go Go.RowKit


theorem u8info : (Tryz.prog.info? 5).map (fun i => (i.zero, i.size, i.bytes)) = some (some (.int .u8 0), 1, 1) := by kernel_rfl

set_option maxHeartbeats 1000000 in
theorem low_any (v n : Nat) (w : World) (hv : v < 18446744073709551616) (hn : n ≤ 1000000) :
    Calls Tryz.prog 45 #[.int .u64 v, .int .i64 n] w fun e w' => e = .returned (str (lowB v n)) ∧ Below w.heap.size w w' := by
  obtain ⟨i0, hi0, hz0, hz1, hz2⟩ := info_parts u8info
  go_enter Tryz.func45, Tryz.ntmps45
  go_wp2
  go_loopw [0, 5, 6] (fun u0 u5 u6 wr => ∃ k : Nat, k ≤ n ∧ u6 = .int .i64 k ∧ u0 = .int .u64 (v / 256 ^ k : Nat) ∧ wr.ownsRow w.heap.size 5 1 u5 k (u8s (lowB v k)) ∧ Below w.heap.size w wr) (fun _ _ u6 _ => n - (intOf u6).toNat)
  case atStart => exact ⟨0, by omega, rfl, by simp, World.ownsRow_nil _ _ _ _, Below.refl _ _⟩
  case round =>
    obtain ⟨k, hk, rfl, rfl, hown, hb⟩ := hrel
    have hq : v / 256 ^ k < 18446744073709551616 := Nat.lt_of_le_of_lt (Nat.div_le_self _ _) hv
    have HS := Lib.hid (lowB_snoc v k)
    have HD : Hid (v / 256 ^ k / 256 = v / 256 ^ (k + 1)) := by unfold Hid; rw [Nat.div_div_eq_div_mul, Nat.pow_succ]
    generalize v / 256 ^ k = V at hq HS HD ⊢
    by_cases hlt : k < n
    · go_wp2_with (first
        | (at_builtin
           refine wpList_app rfl (.tmp 12) (.tmp 15) _ rfl w.heap.size 5 i0 _ 1 1 Tryz.underlying75 hi0 hz0 hz1 hz2 rfl (by omega) u5 k _ rfl (hown.alloc _) _ 1 1 [.int .u8 ((V : Int) % 256)] rfl (Rd.one _ _ _) rfl (one_int _ _) (by unfold maxLen; omega) (by omega) (by have := hb.size; simp; omega) ?_
           intro v1 w1 hown1 hg1 hb1 hat1))
      go_roundw
      case rel =>
        refine ⟨k + 1, by omega, by go_num, by rw [← HD.out]; go_num, ?_, (hb.alloc hb.size _).trans hb1⟩
        rw [HS.out]
        simpa [u8s] using hown1
      case measure => simp [intOf]; omega
    · obtain rfl : k = n := by omega
      have hl := hown.1
      obtain ⟨A, c, rfl⟩ : ∃ A c, u5 = .slice A k c := by
        rcases hown.2 with ⟨rfl, rfl⟩ | ⟨g, cap, cur, rfl, _⟩
        · exact ⟨_, _, rfl⟩
        · exact ⟨_, _, rfl⟩
      have HR := Lib.hid (Rd.of_own hown)
      clear hown
      go_wp2_with (refine wpList_bytes_str rfl 75 9 (.tmp 19) rfl 5 Tryz.underlying75 Tryz.underlying5 Tryz.underlying9 _ k _ (lowB v k) rfl HR.out (lowB_len _ _) ?_)
      go_ret
      exact ⟨rfl, hb⟩
end Go.Proofs.YtldkhhipfoeckaaGreat
