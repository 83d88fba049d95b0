/-
  The walks of the laws SumChanged and SumWithin: for every input they return true and change nothing that was there. No condition.
-/
import Derived.Test.YtcgjhdokkdpamaaSumFlip
namespace Go.Proofs.Ytcgjhdokkdpamaa
open Go Go.RowKit

theorem sealB_bts (s : ByteArray) : bts (sealB s) = bts s ++ lowB (crc (bts s)) 4 := rfl
theorem open_seal (s : ByteArray) (w : World) (hs : s.size ≤ 140737488351228) :
    Calls Try.prog 12 #[.string (sealB s)] w fun e w' => e = .returned (.tuple #[.string s, .int .i64 0]) ∧ Below w.heap.size w w' :=
  (open_any (sealB s) w (by rw [sealB_size]; omega)).mono fun e w' ⟨he, hb⟩ => ⟨by rw [sealB_bts, openL_seal] at he; rw [he]; show Ending.returned (.tuple #[.string (bs (bts s)), .int .i64 0]) = _; rw [bs_bts], hb⟩

theorem open_flip (s : ByteArray) (p : Nat) (v : UInt8) (w : World) (_hp : p < (sealB s).size) (h : openL ((bts (sealB s)).set p v) = ([], 7)) (hs : s.size ≤ 140737488351228) :
    Calls Try.prog 12 #[.string (bs ((bts (sealB s)).set p v))] w fun e w' => e = .returned (.tuple #[.string ⟨#[]⟩, .int .i64 7]) ∧ Below w.heap.size w w' :=
  (open_any _ w (by rw [bs_size, List.length_set, bts_len, sealB_size]; omega)).mono fun e w' ⟨he, hb⟩ => ⟨by rw [bts_bs, h] at he; exact he, hb⟩
set_option maxRecDepth 100000 in
set_option maxHeartbeats 1000000 in
theorem changed_walk (s : ByteArray) (at_ d : Int) (w : World) (hd1 : -9223372036854775808 ≤ d ∧ d ≤ 9223372036854775807) (ha1 : at_ ≤ 9223372036854775807) :
    Calls Try.prog 5 #[.string s, .int .i64 at_, .int .i64 d] w fun e w' => e = .returned (.bool true) ∧ Below w.heap.size w w' := by
  by_cases h1 : 1500 < s.size
  · have h1' : (1500 : Int) < (s.size : Int) := by omega
    go_enter Try.func5, Try.ntmps5
    go_wp2_with (go_at_call 7; refine (alive_any _).mono ?_; rintro e w1 ⟨rfl, hb1⟩)
    go_ret
    exact ⟨rfl, hb1⟩
  have h1' : (s.size : Int) ≤ 1500 := by omega
  by_cases h2 : at_ < 0
  · go_enter Try.func5, Try.ntmps5
    go_wp2_with (go_at_call 7; refine (alive_any _).mono ?_; rintro e w1 ⟨rfl, hb1⟩)
    go_ret
    exact ⟨rfl, hb1⟩
  by_cases h3 : d % 256 = 0
  · have h3' : (d % 256 == 0) = true := by simpa using h3
    clear h3
    go_enter Try.func5, Try.ntmps5
    go_wp2_with (go_at_call 7; refine (alive_any _).mono ?_; rintro e w1 ⟨rfl, hb1⟩)
    go_ret
    exact ⟨rfl, hb1⟩
  have h3' : (d % 256 == 0) = false := by simpa using h3
  obtain ⟨n, rfl⟩ := Int.eq_ofNat_of_zero_le (show 0 ≤ at_ by omega)
  have hsz := sealB_size s
  have hq1 : (s.toList == s.toList) = true := by simp
  obtain ⟨p, hp⟩ : ∃ p, p = n % (sealB s).size := ⟨_, rfl⟩
  have hpl : p < (sealB s).size := by rw [hp]; exact Nat.mod_lt _ (by omega)
  have hpi : ((n : Int) % ((sealB s).size : Int)) = (p : Int) := by rw [hp]; rfl
  obtain ⟨b, hb⟩ : ∃ b, (bts (sealB s))[p]? = some b := ⟨(bts (sealB s))[p]'(by rw [bts_len]; omega), List.getElem?_eq_getElem _⟩
  obtain ⟨v, hv⟩ : ∃ v : UInt8, v = b ^^^ UInt8.ofNat (d % 256).toNat := ⟨_, rfl⟩
  have hvb : v ≠ b := by
    intro h
    rw [h] at hv
    have h5 := congrArg UInt8.toNat hv
    rw [UInt8.toNat_xor] at h5
    have h6 : (UInt8.ofNat (d % 256).toNat).toNat = 0 := by
      have : b.toNat ^^^ 0 = b.toNat ^^^ (UInt8.ofNat (d % 256).toNat).toNat := by rw [Nat.xor_zero]; exact h5
      exact (xor_left_inj this).symm
    simp at h6; omega
  have hx : bits BinOp.xor IntKind.u8 (b.toNat : Int) (d % 256) = (v.toNat : Int) := by
    rw [u8_xor _ _ (by omega) (by have := b.toNat_lt; omega) (by omega) (by omega), hv, UInt8.toNat_xor, show (UInt8.ofNat (d % 256).toNat).toNat = (d % 256).toNat from by simp; omega]
    rfl
  have hfl := openL_flip (bts s) p v b (by rw [← sealB_bts]; exact hb) hvb
  rw [← sealB_bts] at hfl
  have HF := Lib.hid hfl
  have HB := Lib.hid hb
  have HX := Lib.hid hx
  have HP := Lib.hid hpi
  have HZ := Lib.hid hsz
  have hz2 : ((sealB s).size : Int) = (s.size : Int) + 4 := by omega
  have hz3 : (((sealB s).size : Int) == (s.size : Int) + 4) = true := by simpa using hz2
  have hz4 : ((sealB s).size : Int) ≤ 1504 := by omega
  clear hz2
  clear hfl hb hx hpi hsz hv hp hvb
  go_enter Try.func5, Try.ntmps5
  go_wp2_with (first
    | (go_at_call 7; refine (alive_any _).mono ?_; rintro e w1 ⟨rfl, hb1⟩)
    | (go_at_call 15; refine (seal_any _ _ (by omega)).mono ?_; rintro e w2 ⟨rfl, hb2⟩)
    | (go_at_call 12; ((with_reducible refine (open_seal s _ (by omega)).mono ?_); rintro e w3 ⟨rfl, hb3⟩))
    | (go_at_call 12; ((with_reducible refine (open_flip s p v _ hpl HF.out (by omega)).mono ?_); rintro e w5 ⟨rfl, hb5⟩))
    | (refine wpList_str_bytes rfl 9 36 (.tmp 52) rfl 5 Try.underlying9 Try.underlying36 Try.underlying5 (sealB s) rfl ?_
       intro c w4 hc4 hb4 hs4 hr4 hf4
       have HR4 := Lib.hid hr4
       have HS4 := Lib.hid hs4
       have hcell := cell_u8 hr4 HB.out
       have hfro := hf4 p hpl
       have hx := HX.out
       have hpi := HP.out
       have hpl' : (p : Int) < ((sealB s).size : Int) := by omega
       clear hr4 hs4 hf4)
    | (refine wpList_bytes_str rfl 36 9 (.tmp 66) rfl 5 Try.underlying36 Try.underlying5 Try.underlying9 _ (sealB s).size _ ((bts (sealB s)).set p v) rfl (by have h := HR4.out.set (p := p) (v := .int .u8 (v.toNat : Int)) (by rw [u8s_len, bts_len]; exact hpl); rw [u8s_set] at h; simpa using h) (by rw [List.length_set, bts_len]) ?_
       clear hcell hfro hx hpi))
  go_ret
  have h3 := below_of hb3 (below_of hb2 hb1 hb1.size) (by have := hb1.size; have := hb2.size; omega)
  have h4 := below_of hb4 h3 h3.size
  exact ⟨rfl, below_of hb5 (h4.setCell (p := ⟨w3.heap.size, p, none⟩) h3.size _) (by have := h4.size; simpa using this)⟩

/-- Sealed k times. -/
def sealN : Nat → ByteArray → ByteArray
  | 0, s => s
  | k + 1, s => sealB (sealN k s)
theorem sealN_size (k : Nat) (s : ByteArray) : (sealN k s).size = s.size + 4 * k := by
  induction k with
  | zero => rfl
  | succ k ih => show (sealB _).size = _; rw [sealB_size, ih]; omega

theorem seal_n (k : Nat) (s : ByteArray) (w : World) (hs : s.size ≤ 1000) (hk : k ≤ 10) :
    Calls Try.prog 15 #[.string (sealN k s)] w fun e w' => e = .returned (.string (sealN (k + 1) s)) ∧ Below w.heap.size w w' :=
  seal_any _ w (by rw [sealN_size]; omega)
theorem open_n (k : Nat) (s : ByteArray) (w : World) (hs : s.size ≤ 1000) (hk : k ≤ 10) :
    Calls Try.prog 12 #[.string (sealN (k + 1) s)] w fun e w' => e = .returned (.tuple #[.string (sealN k s), .int .i64 0]) ∧ Below w.heap.size w w' :=
  open_seal _ w (by rw [sealN_size]; omega)
theorem open_abc (m : Nat) (w : World) (hm : m < 4) :
    Calls Try.prog 12 #[.string ((⟨#[97, 98, 99]⟩ : ByteArray).extract 0 m)] w fun e w' => e = .returned (.tuple #[.string ⟨#[]⟩, .int .i64 5]) ∧ Below w.heap.size w w' :=
  have hz : ((⟨#[97, 98, 99]⟩ : ByteArray).extract 0 m).size < 4 := by rw [ByteArray.size_extract]; simp [ByteArray.size]; omega
  (open_any _ w (by omega)).mono fun e w' ⟨he, hb⟩ => ⟨by rw [openL_short hz] at he; exact he, hb⟩

set_option maxRecDepth 100000 in
set_option maxHeartbeats 1000000 in
theorem within_walk (s : ByteArray) (n : Int) (w : World) :
    Calls Try.prog 6 #[.string s, .int .i64 n] w fun e w' => e = .returned (.bool true) ∧ Below w.heap.size w w' := by
  by_cases h1 : 800 < s.size
  · have h1' : (800 : Int) < (s.size : Int) := by omega
    go_enter Try.func6, Try.ntmps6
    go_wp2_with (go_at_call 7; refine (alive_any _).mono ?_; rintro e w1 ⟨rfl, hb1⟩)
    go_ret
    exact ⟨rfl, hb1⟩
  have h1' : (s.size : Int) ≤ 800 := by omega
  by_cases h2 : n < 0
  · go_enter Try.func6, Try.ntmps6
    go_wp2_with (go_at_call 7; refine (alive_any _).mono ?_; rintro e w1 ⟨rfl, hb1⟩)
    go_ret
    exact ⟨rfl, hb1⟩
  by_cases h3 : 6 < n
  · go_enter Try.func6, Try.ntmps6
    go_wp2_with (go_at_call 7; refine (alive_any _).mono ?_; rintro e w1 ⟨rfl, hb1⟩)
    go_ret
    exact ⟨rfl, hb1⟩
  obtain ⟨n, rfl⟩ := Int.eq_ofNat_of_zero_le (show 0 ≤ n by omega)
  have hq1 : (s.toList == s.toList) = true := by simp
  have hzn := sealN_size n s
  have hz3 : (((sealN n s).size : Int) != (s.size : Int) + 4 * (n : Int)) = false := by simp; omega
  clear hzn
  obtain ⟨m, hm⟩ : ∃ m, m = n % 4 := ⟨_, rfl⟩
  have hmi : ((n : Int) % 4) = (m : Int) := by omega
  have hm4 : (m : Int) < 4 := by omega
  have hm3 : (m : Int) ≤ 3 := by omega
  have HM := Lib.hid hmi
  clear hmi hm
  go_enter Try.func6, Try.ntmps6
  go_wp2_with (first
    | (go_at_call 7; refine (alive_any _).mono ?_; rintro e w1 ⟨rfl, hb1⟩))
  go_loopw [5, 6] (fun u5 u6 wr => ∃ k : Nat, k ≤ n ∧ u6 = .int .i64 k ∧ u5 = .string (sealN k s) ∧ Below w.heap.size w wr) (fun _ u6 _ => n - (intOf u6).toNat)
  case atStart => exact ⟨0, by omega, rfl, rfl, hb1⟩
  case round =>
    obtain ⟨k, hk, rfl, rfl, hb⟩ := hrel
    by_cases hlt : k < n
    · go_wp2_with (go_at_call 15; refine (seal_n k s _ (by omega) (by omega)).mono ?_; rintro e w2 ⟨rfl, hb2⟩)
      go_roundw
      case rel => exact ⟨k + 1, by omega, by go_num, rfl, below_of hb2 hb hb.size⟩
      case measure => simp [intOf]; omega
    · obtain rfl : k = n := by omega
      obtain ⟨wo, rfl⟩ : ∃ wo : World, wo = wr := ⟨_, rfl⟩
      go_wp2
      go_loopw [5, 7] (fun u5 u7 wr => ∃ j : Nat, j ≤ k ∧ u7 = .int .i64 j ∧ u5 = .string (sealN (k - j) s) ∧ Below w.heap.size w wr) (fun _ u7 _ => k - (intOf u7).toNat)
      case atStart => exact ⟨0, by omega, rfl, rfl, hb⟩
      case round =>
        obtain ⟨j, hj, rfl, rfl, hbr⟩ := hrel
        by_cases hlt2 : j < k
        · obtain ⟨i, hi⟩ : ∃ i, k - j = i + 1 := ⟨k - j - 1, by omega⟩
          rw [hi]
          have HI := Lib.hid hi
          clear hi
          go_wp2_with (go_at_call 12; refine (open_n i s _ (by omega) (by have := HI.out; omega)).mono ?_; rintro e w3 ⟨rfl, hb3⟩)
          go_roundw
          case rel => exact ⟨j + 1, by omega, by go_num, by rw [show k - (j + 1) = i by have := HI.out; omega], below_of hb3 hbr hbr.size⟩
          case measure => simp [intOf]; omega
        · obtain rfl : j = k := by omega
          rw [Nat.sub_self]
          have hmi := HM.out
          have hs0 : sealN 0 s = s := rfl
          rw [hs0]
          clear hs0
          go_wp2_with (go_at_call 12; refine (open_abc m _ (by omega)).mono ?_; rintro e w3 ⟨rfl, hb3⟩)
          go_ret
          exact ⟨rfl, below_of hb3 hbr hbr.size⟩
end Go.Proofs.Ytcgjhdokkdpamaa
