/-
  The walk of the law SumTells: for every input it returns true and changes nothing that was there. No condition.
-/
import Derived.Test.YtcgjhdokkdpamaaBookTexts
import Derived.Test.YtcgjhdokkdpamaaSumSeal
namespace Go.Proofs.Ytcgjhdokkdpamaa
open Go Go.RowKit

theorem catN_len (ss : List ByteArray) (k : Nat) : (catN ss k).length ≤ (ss.map (·.size)).sum := by
  unfold catN
  induction ss generalizing k with
  | nil => simp
  | cons s ss ih =>
    cases k with
    | zero => simp
    | succ k =>
      have := ih k
      simp [bts_len] at this ⊢; omega
theorem refopen_same (b : ByteArray) (w : World) (hs : b.size ≤ 1000) :
    Calls Try.prog 13 #[.string b] w fun e w' => e = .returned (.tuple #[str (openL (bts b)).1, .int .i64 (openL (bts b)).2]) ∧ Below w.heap.size w w' :=
  refopen_any b w (by omega)
theorem refsum_cat (ss : List ByteArray) (n : Nat) (hn : ss.length = n) (w : World) (hs : (ss.map (·.size)).sum ≤ 1500) :
    Calls Try.prog 9 #[.string (bs (catN ss n))] w fun e w' => e = .returned (.int .u32 (crc (ss.flatMap bts))) ∧ w' = w :=
  (refsum_any _ w (by rw [bs_size]; have := catN_len ss n; unfold maxLen; omega)).mono fun e w' ⟨he, hb⟩ => ⟨by
    rw [bts_bs] at he; unfold catN at he; rwa [List.take_of_length_le (by omega)] at he, hb⟩

set_option maxRecDepth 100000 in
set_option maxHeartbeats 1000000 in
theorem tells_walk (A : Option Addr) (n c : Nat) (ss : List ByteArray) (s b : ByteArray) (w : World) (hr : Rd w A (ss.map .string)) (hn : ss.length = n) (hmax : n ≤ maxLen) (hss : ∀ s ∈ ss, s.size ≤ maxLen) :
    Calls Try.prog 4 #[.slice A n c, .string s, .string b] w fun e w' => e = .returned (.bool true) ∧ Below w.heap.size w w' := by
  have hS := short_any 20 1500 A n c ss w hr hn hss (by omega) (by omega)
  have HSH := Lib.hid hS
  clear hS
  cases hB : (decide ((ss.length : Int) ≤ 20) && shortT 1500 ss) with
  | false =>
    rw [hB] at HSH
    clear hr hss hn hB
    go_enter Try.func4, Try.ntmps4
    go_wp2_with (first
      | (go_at_call 10; refine HSH.out.mono ?_; rintro e w1 ⟨rfl, hb1⟩)
      | (go_at_call 7; refine (alive_any _).mono ?_; rintro e w2 ⟨rfl, hb2⟩))
    go_ret
    exact ⟨rfl, below_of hb2 hb1 hb1.size⟩
  | true =>
    rw [hB] at HSH
    rw [Bool.and_eq_true, decide_eq_true_iff] at hB
    have hsum := (shortT_sum _ _ hB.2).1
    have hn20 : n ≤ 20 := by have := hB.1; omega
    have HSS := Lib.hid hss
    clear hss hB hmax
    by_cases h1 : 1000 < s.size
    · have h1' : (1000 : Int) < (s.size : Int) := by omega
      clear hr hn
      go_enter Try.func4, Try.ntmps4
      go_wp2_with (first
        | (go_at_call 10; refine HSH.out.mono ?_; rintro e w1 ⟨rfl, hb1⟩)
        | (go_at_call 7; refine (alive_any _).mono ?_; rintro e w2 ⟨rfl, hb2⟩))
      go_ret
      exact ⟨rfl, below_of hb2 hb1 hb1.size⟩
    have h1' : (s.size : Int) ≤ 1000 := by omega
    by_cases h2 : 1000 < b.size
    · have h2' : (1000 : Int) < (b.size : Int) := by omega
      clear hr hn
      go_enter Try.func4, Try.ntmps4
      go_wp2_with (first
        | (go_at_call 10; refine HSH.out.mono ?_; rintro e w1 ⟨rfl, hb1⟩)
        | (go_at_call 7; refine (alive_any _).mono ?_; rintro e w2 ⟨rfl, hb2⟩))
      go_ret
      exact ⟨rfl, below_of hb2 hb1 hb1.size⟩
    have h2' : (b.size : Int) ≤ 1000 := by omega
    have HR := Lib.hid hr
    have HN := Lib.hid hn
    have hq1 : ((sealB s).toList == (sealB s).toList) = true := by simp
    have hq2 : ((bs (openL (bts b)).1).toList == (bs (openL (bts b)).1).toList) = true := by simp
    clear hr hn
    go_enter Try.func4, Try.ntmps4
    go_wp2_with (first
      | (go_at_call 10; refine HSH.out.mono ?_; rintro e w1 ⟨rfl, hb1⟩)
      | (go_at_call 7; refine (alive_any _).mono ?_; rintro e w2 ⟨rfl, hb2⟩))
    have k2 := below_of hb2 hb1 hb1.size
    have HR2 := Lib.hid (HR.out.below k2)
    go_loop [7, 8] (fun u7 u8 => ∃ k : Nat, k ≤ n ∧ u8 = .int .i64 k ∧ u7 = .string (bs (catN ss k))) (fun _ u8 => n - (intOf u8).toNat)
    case atStart => exact ⟨0, by omega, rfl, rfl⟩
    case round =>
      obtain ⟨k, hk, rfl, rfl⟩ := hrel
      have hlen := catN_len ss k
      have hcz : (bs (catN ss k)).size ≤ 1500 := by rw [bs_size]; omega
      by_cases hlt : k < n
      · obtain ⟨t, htk⟩ : ∃ t, ss[k]? = some t := ⟨ss[k]'(by have := HN.out; omega), List.getElem?_eq_getElem _⟩
        obtain ⟨ad, rfl, hcell⟩ := HR2.out.at_ (k := k) (x := .string t) (by simp [htk])
        have HC := Lib.hid (catN_succ ss k t htk)
        have hlen2 := catN_len ss (k + 1)
        have htz : (bs (catN ss k)).size + t.size ≤ 9223372036854775807 := by
          rw [HC.out, List.length_append, bts_len] at hlen2; omega
        clear htk hlen hlen2
        go_wp2
        go_round
        case rel => exact ⟨k + 1, by omega, by go_num, by rw [HC.out, bs_append, bts_bs]⟩
        case measure => simp [intOf]; omega
      · obtain rfl : k = n := by omega
        clear hlen
        go_wp2_with fail
        refine (lenttexts_any A k c ss _ HR2.out HN.out (by omega)).mono ?_; rintro e w3 ⟨B, d, rfl, hd, HB, hb3⟩
        have k3 := below_of hb3 k2 k2.size
        have HB := Lib.hid HB
        go_wp2_with fail
        refine (open_any b _ (by omega)).mono ?_; rintro e w4 ⟨rfl, hb4⟩
        have k4 := below_of hb4 k3 k3.size
        go_wp2_with fail
        refine (refopen_same b _ (by omega)).mono ?_; rintro e w5 ⟨rfl, hb5⟩
        have k5 := below_of hb5 k4 k4.size
        have hb35 : Below w3.heap.size w3 w5 := below_of hb5 hb4 hb4.size
        go_wp2_with fail
        refine (of_any B k d ss _ ((by have := (HB.out.below hb35).take k; simpa [← HN.out] using this)) HN.out (by unfold maxLen; omega) HSS.out).mono ?_; rintro e w6 ⟨rfl, hb6⟩
        have k6 := below_of hb6 k5 k5.size
        go_wp2_with fail
        refine (refsum_cat ss k HN.out _ (by omega)).mono ?_; rintro e w7 ⟨rfl, rfl⟩
        go_wp2_with fail
        refine (staystexts_any A B k c d ss _ (HR.out.below k6) HN.out (by omega) hd (HB.out.below (below_of hb6 hb35 hb35.size))).mono ?_; rintro e w8 ⟨rfl, hb8⟩
        have k8 := below_of hb8 k6 k6.size
        go_wp2_with fail
        refine (seal_any s _ (by omega)).mono ?_; rintro e w9 ⟨rfl, hb9⟩
        have k9 := below_of hb9 k8 k8.size
        go_wp2_with fail
        refine (refseal_any s _ (by omega)).mono ?_; rintro e w10 ⟨rfl, hb10⟩
        have k10 := below_of hb10 k9 k9.size
        go_wp2_with fail
        go_ret
        exact ⟨rfl, k10⟩
end Go.Proofs.Ytcgjhdokkdpamaa
