/-
  The walk of the law SumParts: for every two texts that fit in memory it returns true and changes nothing that was there. No condition.
-/
import Derived.Test.YtcgjhdokkdpamaaSumSeal
namespace Go.Proofs.Ytcgjhdokkdpamaa
open Go Go.RowKit

theorem of_two (s t : ByteArray) (A : Option Addr) (c : Nat) (w : World) (hs : s.size ≤ 140737488351232) (ht : t.size ≤ 140737488351232) (hr : Rd w A [.string s, .string t]) :
    Calls Try.prog 8 #[.slice A 2 c] w fun e w' => e = .returned (.int .u32 (crc (bts s ++ bts t))) ∧ Below w.heap.size w w' :=
  (of_any _ 2 c [s, t] _ hr rfl (by unfold maxLen; omega) (by intro u hu; simp at hu; unfold maxLen; rcases hu with rfl | rfl <;> omega)).mono fun e w' ⟨he, hb⟩ => ⟨by simpa using he, hb⟩
theorem of_four (s t : ByteArray) (A : Option Addr) (c : Nat) (w : World) (hs : s.size ≤ 140737488351232) (ht : t.size ≤ 140737488351232) (hr : Rd w A [.string ⟨#[]⟩, .string s, .string ⟨#[]⟩, .string t]) :
    Calls Try.prog 8 #[.slice A 4 c] w fun e w' => e = .returned (.int .u32 (crc (bts s ++ bts t))) ∧ Below w.heap.size w w' :=
  (of_any _ 4 c [⟨#[]⟩, s, ⟨#[]⟩, t] _ hr rfl (by unfold maxLen; omega) (by intro u hu; simp at hu; unfold maxLen; rcases hu with rfl | rfl | rfl | rfl <;> first | omega | simp [ByteArray.size])).mono fun e w' ⟨he, hb⟩ => ⟨by simpa [bts] using he, hb⟩
theorem of_cat (s t : ByteArray) (A : Option Addr) (c : Nat) (w : World) (hs : (s ++ t).size ≤ 140737488351232) (hr : Rd w A [.string (s ++ t)]) :
    Calls Try.prog 8 #[.slice A 1 c] w fun e w' => e = .returned (.int .u32 (crc (bts s ++ bts t))) ∧ Below w.heap.size w w' :=
  (of_at (s ++ t) A c w hs hr).mono fun e w' ⟨he, hb⟩ => ⟨by rw [bts_append] at he; exact he, hb⟩
theorem of_none (w : World) : Calls Try.prog 8 #[.slice none 0 0] w fun e w' => e = .returned (.int .u32 (crc [])) ∧ Below w.heap.size w w' :=
  (of_any none 0 0 [] _ (Rd.nil _ _) rfl (by unfold maxLen; omega) (by simp)).mono fun e w' ⟨he, hb⟩ => ⟨by simpa using he, hb⟩
theorem refsum_none (w : World) : Calls Try.prog 9 #[.string ⟨#[]⟩] w fun e w' => e = .returned (.int .u32 (crc [])) ∧ w' = w :=
  (refsum_any ⟨#[]⟩ w (by simp [ByteArray.size])).mono fun e w' ⟨he, hb⟩ => ⟨by simpa [bts] using he, hb⟩

set_option maxHeartbeats 1000000 in
theorem parts_walk (a b : ByteArray) (w : World) :
    Calls Try.prog 3 #[.string a, .string b] w fun e w' => e = .returned (.bool true) ∧ Below w.heap.size w w' := by
  by_cases h1 : 800 < a.size
  · have h1' : (800 : Int) < (a.size : Int) := by omega
    go_enter Try.func3, Try.ntmps3
    go_wp2_with (go_at_call 7; refine (alive_any _).mono ?_; rintro e w1 ⟨rfl, hb1⟩)
    go_ret
    exact ⟨rfl, hb1⟩
  by_cases h2 : 800 < b.size
  · have h1' : (a.size : Int) ≤ 800 := by omega
    have h2' : (800 : Int) < (b.size : Int) := by omega
    go_enter Try.func3, Try.ntmps3
    go_wp2_with (go_at_call 7; refine (alive_any _).mono ?_; rintro e w1 ⟨rfl, hb1⟩)
    go_ret
    exact ⟨rfl, hb1⟩
  have h1' : (a.size : Int) ≤ 800 := by omega
  have h2' : (b.size : Int) ≤ 800 := by omega
  have ha : a.size ≤ 140737488351232 := by omega
  have hb : b.size ≤ 140737488351232 := by omega
  have hc : a.size + b.size ≤ 9223372036854775807 := by omega
  have hcs : (a ++ b).size ≤ 140737488351232 := by rw [ByteArray.size_append]; omega
  by_cases hab : a = b
  · subst hab
    have hq : (a.toList == a.toList) = true := by simp
    go_enter Try.func3, Try.ntmps3
    go_wp2_with fail
    refine (alive_any _).mono ?_; rintro e w1 ⟨rfl, hb1⟩
    go_wp2_with fail
    refine (of_two a a _ _ _ ha hb (Rd.new _ _ _)).mono ?_; rintro e w2 ⟨rfl, hb2⟩
    have k2 := below_of hb2 (hb1.alloc hb1.size _) (by have := hb1.size; simp; omega)
    go_wp2_with fail
    refine (of_cat a a _ _ _ hcs (Rd.one _ _ _)).mono ?_; rintro e w3 ⟨rfl, hb3⟩
    have k3 := below_of hb3 (k2.alloc k2.size _) (by have := k2.size; simp; omega)
    go_wp2_with fail
    refine (of_four a a _ _ _ ha hb (Rd.new _ _ _)).mono ?_; rintro e w4 ⟨rfl, hb4⟩
    have k4 := below_of hb4 (k3.alloc k3.size _) (by have := k3.size; simp; omega)
    go_wp2_with fail
    refine (of_two a a _ _ _ ha hb (Rd.new _ _ _)).mono ?_; rintro e w5 ⟨rfl, hb5⟩
    have k5 := below_of hb5 (k4.alloc k4.size _) (by have := k4.size; simp; omega)
    go_wp2_with fail
    refine (of_two a a _ _ _ ha hb (Rd.new _ _ _)).mono ?_; rintro e w6 ⟨rfl, hb6⟩
    have k6 := below_of hb6 (k5.alloc k5.size _) (by have := k5.size; simp; omega)
    go_wp2_with fail
    refine (of_two a a _ _ _ ha hb (Rd.new _ _ _)).mono ?_; rintro e w7 ⟨rfl, hb7⟩
    have k7 := below_of hb7 (k6.alloc k6.size _) (by have := k6.size; simp; omega)
    go_wp2_with fail
    refine (of_none _).mono ?_; rintro e w8 ⟨rfl, hb8⟩
    have k8 := below_of hb8 k7 k7.size
    go_wp2_with fail
    refine (refsum_none _).mono ?_; rintro e w9 ⟨rfl, rfl⟩
    go_wp2_with fail
    go_ret
    exact ⟨rfl, k8⟩
  · have hq : (a.toList == b.toList) = false := by
      rw [str_beq, decide_eq_false_iff_not]; exact fun h => hab (bts_inj h)
    go_enter Try.func3, Try.ntmps3
    go_wp2_with fail
    refine (alive_any _).mono ?_; rintro e w1 ⟨rfl, hb1⟩
    go_wp2_with fail
    refine (of_two a b _ _ _ ha hb (Rd.new _ _ _)).mono ?_; rintro e w2 ⟨rfl, hb2⟩
    have k2 := below_of hb2 (hb1.alloc hb1.size _) (by have := hb1.size; simp; omega)
    go_wp2_with fail
    refine (of_cat a b _ _ _ hcs (Rd.one _ _ _)).mono ?_; rintro e w3 ⟨rfl, hb3⟩
    have k3 := below_of hb3 (k2.alloc k2.size _) (by have := k2.size; simp; omega)
    go_wp2_with fail
    refine (of_four a b _ _ _ ha hb (Rd.new _ _ _)).mono ?_; rintro e w4 ⟨rfl, hb4⟩
    have k4 := below_of hb4 (k3.alloc k3.size _) (by have := k3.size; simp; omega)
    go_wp2_with fail
    refine (of_two a b _ _ _ ha hb (Rd.new _ _ _)).mono ?_; rintro e w5 ⟨rfl, hb5⟩
    have k5 := below_of hb5 (k4.alloc k4.size _) (by have := k4.size; simp; omega)
    go_wp2_with fail
    refine (of_none _).mono ?_; rintro e w8 ⟨rfl, hb8⟩
    have k8 := below_of hb8 k5 k5.size
    go_wp2_with fail
    refine (refsum_none _).mono ?_; rintro e w9 ⟨rfl, rfl⟩
    go_wp2_with fail
    go_ret
    exact ⟨rfl, k8⟩

end Go.Proofs.Ytcgjhdokkdpamaa
