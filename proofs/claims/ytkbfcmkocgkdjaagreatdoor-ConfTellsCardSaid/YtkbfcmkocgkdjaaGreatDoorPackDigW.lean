/-
  What the document's Digits gives of a number: its digits. No condition but the number's width.
-/
import Derived.Test.YtkbfcmkocgkdjaaGreatDoorPackNumR
namespace Go.Proofs.YtkbfcmkocgkdjaaGreatDoor
open Go Go.RowKit

/-- One more where a text is empty. -/
def noText : Value → Nat
  | .string s => 1 - s.size
  | _ => 0
theorem noText_lt (K B : ByteArray) (h : K.size = 1) : noText (.string (K ++ B)) = 0 := by
  show 1 - (K ++ B).size = 0
  rw [ByteArray.size_append]; omega
/-- How many times ten goes into a number, and once more. -/
def nd (u : Nat) : Nat := if u = 0 then 0 else Nat.log2 u + 1
theorem nd_le (u : Nat) (h : u ≤ 9223372036854775808) : nd u ≤ 64 := by
  unfold nd
  by_cases h0 : u = 0
  · rw [if_pos h0]; omega
  · rw [if_neg h0]
    have : Nat.log2 u < 64 := (Nat.log2_lt h0).2 (by omega)
    omega
theorem nd_div (u : Nat) : 0 < u → nd (u / 10) + 1 ≤ nd u := fun h => by
  unfold nd
  rw [if_neg (show ¬ u = 0 by omega)]
  by_cases h0 : u / 10 = 0
  · rw [if_pos h0]; omega
  · rw [if_neg h0]
    have h1 : Nat.log2 (u / 10) < Nat.log2 u := by
      rw [Nat.log2_lt h0]
      have h2 := Nat.lt_log2_self (n := u)
      have h3 : u < 2 ^ (Nat.log2 u + 1) := h2
      rw [Nat.pow_succ] at h3
      omega
    omega
set_option maxHeartbeats 2000000 in
theorem rdigits_neg (n : Nat) (w : World) (hn63 : n ≤ 9223372036854775808) (hn0 : 0 < n) :
    Calls Tryz.prog 30 #[.int .i64 (-(n : Int))] w fun e w' => e = .returned (str (45 :: Lib.decDigits n)) ∧ Below w.heap.size w w' := by
  have e1 : IntKind.u64.wrap (-(n : Int)) = 18446744073709551616 - (n : Int) := by simp [IntKind.wrap, IntKind.bits, IntKind.signed]; omega
  have e2 : IntKind.u64.wrap (-(18446744073709551616 - (n : Int))) = (n : Int) := by simp [IntKind.wrap, IntKind.bits, IntKind.signed]; omega
  have hni : (0 : Int) < (n : Int) := by omega
  go_enter Tryz.func30, Tryz.ntmps30
  go_wp2
  clear e1 e2
  go_loopw [3, 4] (fun u3 u4 wr => ∃ (B : ByteArray) (u : Nat), u3 = .string B ∧ u4 = .int .u64 u ∧ Hid (DigI n u (bts B)) ∧ u ≤ 9223372036854775808 ∧ B.size ≤ 64 - (nd u) ∧ nd u ≤ 64 ∧ Below w.heap.size w wr) (fun u3 u4 _ => (intOf u4).toNat + noText u3)
  case atStart => exact ⟨⟨#[]⟩, n, rfl, by go_num, DigI.start n, hn63, Nat.zero_le _, by exact nd_le n hn63, Below.refl _ _⟩
  case round =>
    obtain ⟨B, u, rfl, rfl, hD, hu, hsz, hnd, hB⟩ := hrel
    obtain ⟨d, hd⟩ : ∃ d, d = u % 10 := ⟨_, rfl⟩
    obtain ⟨q, hq⟩ : ∃ q, q = u / 10 := ⟨_, rfl⟩
    have hdi : (u : Int) % 10 = (d : Int) := by omega
    have hqi : (u : Int) / 10 = (q : Int) := by omega
    have hd9 : (d : Int) ≤ 9 := by omega
    have hqu : q ≤ u := by omega
    have hndq := nd_div u
    rw [← hq] at hndq
    obtain ⟨K, hK⟩ : ∃ K, K = bs [UInt8.ofNat (48 + u % 10)] := ⟨_, rfl⟩
    have hK1 : K.size = 1 := by rw [hK, bs_size]; rfl
    have hE : (B.toList == ([] : List UInt8)) = decide (B.size = 0) := by
      rw [Lib.toList_data, show B.data.toList = bts B from rfl, ← bts_len B]
      cases bts B <;> simp
    have hRD : ∀ w : World, Rd (w.alloc (.cells #[.int .u8 (48 + (d : Int))] 5)) (some ⟨w.heap.size, 0, none⟩) (u8s [UInt8.ofNat (48 + u % 10)]) := fun w => by
      have h := Rd.one w (.int .u8 (48 + (d : Int))) 5
      have e : (UInt8.ofNat (48 + u % 10)).toNat = 48 + d := by rw [UInt8.toNat_ofNat', ← hd]; omega
      unfold u8s
      simp only [List.map_cons, List.map_nil, e]
      simpa using h
    have HRD := Lib.hid hRD
    have hKs : str [UInt8.ofNat (48 + u % 10)] = .string K := by rw [hK]
    have HKS := Lib.hid hKs
    have HNX : Hid (0 < u ∨ bts B = [] → DigI n q (bts (K ++ B))) := fun h => by
      rw [hK, bts_append, bts_bs, hq]; exact hD.next h
    have hsum : ¬ (9223372036854775807 < K.size + B.size) := by omega
    have hnn : nd q + 1 ≤ nd u ∨ u = 0 := by
      rcases Nat.eq_zero_or_pos u with h | h
      · exact .inr h
      · left; have := hndq h; omega
    clear hRD hKs hK hndq
    have HD := Lib.hid hd
    have HQ := Lib.hid hq
    clear hd hq
    by_cases hu0 : 0 < u
    · have hu0i : (0 : Int) < (u : Int) := by omega
      clear hE
      go_wp2_with (refine wpList_bytes_str rfl 80 9 (.tmp 21) rfl 5 Tryz.underlying80 Tryz.underlying5 Tryz.underlying9 _ 1 _ [UInt8.ofNat (48 + u % 10)] rfl (HRD.out _) rfl ?_
                   rw [HKS.out])
      go_roundw
      case rel => exact ⟨K ++ B, q, by first | rfl | go_num, by go_num, HNX.out (.inl hu0), by omega, by rw [ByteArray.size_append]; omega, by omega, hB.alloc hB.size _⟩
      case measure =>
        rw [noText_lt K B hK1]
        have := HQ.out
        simp [intOf]; omega
    · obtain rfl : u = 0 := by omega
      by_cases hb0 : B.size = 0
      · have hE' : (B.toList == ([] : List UInt8)) = true := by rw [hE]; simpa using hb0
        have hbe : bts B = [] := List.length_eq_zero_iff.1 (by rw [bts_len]; exact hb0)
        have HBE := Lib.hid hbe
        have hd0 : d = 0 := by have := HD.out; omega
        have HR0 : Hid (∀ w : World, Rd (w.alloc (.cells #[.int .u8 48] 5)) (some ⟨w.heap.size, 0, none⟩) (u8s [UInt8.ofNat (48 + 0 % 10)])) := fun w => by
          have := HRD.out w
          rw [hd0] at this
          exact this
        have hndq0 : Hid (nd q = 0) := by unfold Hid; have := HQ.out; rw [show q = 0 by omega]; rfl
        clear hE hu0 hbe hd0
        go_wp2_with (refine wpList_bytes_str rfl 80 9 (.tmp 21) rfl 5 Tryz.underlying80 Tryz.underlying5 Tryz.underlying9 _ 1 _ [UInt8.ofNat (48 + 0 % 10)] rfl (HR0.out _) rfl ?_
                     rw [HKS.out])
        go_roundw
        case rel => exact ⟨K ++ B, q, by first | rfl | go_num, by go_num, HNX.out (.inr HBE.out), by omega, by rw [ByteArray.size_append, hndq0.out]; omega, by rw [hndq0.out]; omega, hB.alloc hB.size _⟩
        case measure =>
          rw [noText_lt K B hK1]
          have := HQ.out
          have := HD.out
          simp [intOf, noText]; omega
      · have hE' : (B.toList == ([] : List UInt8)) = false := by rw [hE]; simpa using hb0
        have HF : Hid (bts B = Lib.decDigits n) := hD.done (fun h => hb0 (by rw [← bts_len, h]; rfl))
        clear hE hu0 hb0
        have hs2 : ¬ (9223372036854775807 < (1 : Nat) + B.size) := by omega
        go_wp2
        go_ret
        exact ⟨by
          rw [← HF.out]
          show Ending.returned (.string (⟨#[45]⟩ ++ B)) = _
          rw [bs_append]; rfl, hB⟩
set_option maxHeartbeats 2000000 in
theorem rdigits_pos (n : Nat) (w : World) (hn63 : n ≤ 9223372036854775807)  :
    Calls Tryz.prog 30 #[.int .i64 (n : Int)] w fun e w' => e = .returned (str (Lib.decDigits n)) ∧ Below w.heap.size w w' := by
  have e1 : IntKind.u64.wrap (n : Int) = (n : Int) := by simp [IntKind.wrap, IntKind.bits, IntKind.signed]; omega
  have e2 : (0 : Int) ≤ (n : Int) := by omega
  go_enter Tryz.func30, Tryz.ntmps30
  go_wp2
  clear e1 e2
  go_loopw [3, 4] (fun u3 u4 wr => ∃ (B : ByteArray) (u : Nat), u3 = .string B ∧ u4 = .int .u64 u ∧ Hid (DigI n u (bts B)) ∧ u ≤ 9223372036854775808 ∧ B.size ≤ 64 - (nd u) ∧ nd u ≤ 64 ∧ Below w.heap.size w wr) (fun u3 u4 _ => (intOf u4).toNat + noText u3)
  case atStart => exact ⟨⟨#[]⟩, n, rfl, by go_num, DigI.start n, by omega, Nat.zero_le _, by exact nd_le n (by omega), Below.refl _ _⟩
  case round =>
    obtain ⟨B, u, rfl, rfl, hD, hu, hsz, hnd, hB⟩ := hrel
    obtain ⟨d, hd⟩ : ∃ d, d = u % 10 := ⟨_, rfl⟩
    obtain ⟨q, hq⟩ : ∃ q, q = u / 10 := ⟨_, rfl⟩
    have hdi : (u : Int) % 10 = (d : Int) := by omega
    have hqi : (u : Int) / 10 = (q : Int) := by omega
    have hd9 : (d : Int) ≤ 9 := by omega
    have hqu : q ≤ u := by omega
    have hndq := nd_div u
    rw [← hq] at hndq
    obtain ⟨K, hK⟩ : ∃ K, K = bs [UInt8.ofNat (48 + u % 10)] := ⟨_, rfl⟩
    have hK1 : K.size = 1 := by rw [hK, bs_size]; rfl
    have hE : (B.toList == ([] : List UInt8)) = decide (B.size = 0) := by
      rw [Lib.toList_data, show B.data.toList = bts B from rfl, ← bts_len B]
      cases bts B <;> simp
    have hRD : ∀ w : World, Rd (w.alloc (.cells #[.int .u8 (48 + (d : Int))] 5)) (some ⟨w.heap.size, 0, none⟩) (u8s [UInt8.ofNat (48 + u % 10)]) := fun w => by
      have h := Rd.one w (.int .u8 (48 + (d : Int))) 5
      have e : (UInt8.ofNat (48 + u % 10)).toNat = 48 + d := by rw [UInt8.toNat_ofNat', ← hd]; omega
      unfold u8s
      simp only [List.map_cons, List.map_nil, e]
      simpa using h
    have HRD := Lib.hid hRD
    have hKs : str [UInt8.ofNat (48 + u % 10)] = .string K := by rw [hK]
    have HKS := Lib.hid hKs
    have HNX : Hid (0 < u ∨ bts B = [] → DigI n q (bts (K ++ B))) := fun h => by
      rw [hK, bts_append, bts_bs, hq]; exact hD.next h
    have hsum : ¬ (9223372036854775807 < K.size + B.size) := by omega
    have hnn : nd q + 1 ≤ nd u ∨ u = 0 := by
      rcases Nat.eq_zero_or_pos u with h | h
      · exact .inr h
      · left; have := hndq h; omega
    clear hRD hKs hK hndq
    have HD := Lib.hid hd
    have HQ := Lib.hid hq
    clear hd hq
    by_cases hu0 : 0 < u
    · have hu0i : (0 : Int) < (u : Int) := by omega
      clear hE
      go_wp2_with (refine wpList_bytes_str rfl 80 9 (.tmp 21) rfl 5 Tryz.underlying80 Tryz.underlying5 Tryz.underlying9 _ 1 _ [UInt8.ofNat (48 + u % 10)] rfl (HRD.out _) rfl ?_
                   rw [HKS.out])
      go_roundw
      case rel => exact ⟨K ++ B, q, by first | rfl | go_num, by go_num, HNX.out (.inl hu0), by omega, by rw [ByteArray.size_append]; omega, by omega, hB.alloc hB.size _⟩
      case measure =>
        rw [noText_lt K B hK1]
        have := HQ.out
        simp [intOf]; omega
    · obtain rfl : u = 0 := by omega
      by_cases hb0 : B.size = 0
      · have hE' : (B.toList == ([] : List UInt8)) = true := by rw [hE]; simpa using hb0
        have hbe : bts B = [] := List.length_eq_zero_iff.1 (by rw [bts_len]; exact hb0)
        have HBE := Lib.hid hbe
        have hd0 : d = 0 := by have := HD.out; omega
        have HR0 : Hid (∀ w : World, Rd (w.alloc (.cells #[.int .u8 48] 5)) (some ⟨w.heap.size, 0, none⟩) (u8s [UInt8.ofNat (48 + 0 % 10)])) := fun w => by
          have := HRD.out w
          rw [hd0] at this
          exact this
        have hndq0 : Hid (nd q = 0) := by unfold Hid; have := HQ.out; rw [show q = 0 by omega]; rfl
        clear hE hu0 hbe hd0
        go_wp2_with (refine wpList_bytes_str rfl 80 9 (.tmp 21) rfl 5 Tryz.underlying80 Tryz.underlying5 Tryz.underlying9 _ 1 _ [UInt8.ofNat (48 + 0 % 10)] rfl (HR0.out _) rfl ?_
                     rw [HKS.out])
        go_roundw
        case rel => exact ⟨K ++ B, q, by first | rfl | go_num, by go_num, HNX.out (.inr HBE.out), by omega, by rw [ByteArray.size_append, hndq0.out]; omega, by rw [hndq0.out]; omega, hB.alloc hB.size _⟩
        case measure =>
          rw [noText_lt K B hK1]
          have := HQ.out
          have := HD.out
          simp [intOf, noText]; omega
      · have hE' : (B.toList == ([] : List UInt8)) = false := by rw [hE]; simpa using hb0
        have HF : Hid (bts B = Lib.decDigits n) := hD.done (fun h => hb0 (by rw [← bts_len, h]; rfl))
        clear hE hu0 hb0
        go_wp2
        go_ret
        exact ⟨by rw [← HF.out]; show Ending.returned (.string B) = _; rw [show str (bts B) = .string (bs (bts B)) from rfl, bs_bts], hB⟩
theorem rdigits_any (v : Int) (w : World) (h0 : -9223372036854775808 ≤ v) (h1 : v ≤ 9223372036854775807) :
    Calls Tryz.prog 30 #[.int .i64 v] w fun e w' => e = .returned (str (Lib.itoa v)) ∧ Below w.heap.size w w' := by
  unfold Lib.itoa
  by_cases h : v < 0
  · rw [if_pos h]
    have := rdigits_neg v.natAbs w (by omega) (by omega)
    rwa [show -(v.natAbs : Int) = v by omega] at this
  · rw [if_neg h]
    have := rdigits_pos v.toNat w (by omega)
    rwa [show ((v.toNat : Nat) : Int) = v by omega] at this
end Go.Proofs.YtkbfcmkocgkdjaaGreatDoor
