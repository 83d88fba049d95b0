/-
  The walk of the law PackDigits: for every input it returns true and changes nothing that was there. Condition: the library's table of powers of ten is as its text lays it.
-/
import Derived.Test.YtkenhcgdnbgnpaaDoorPackDigW
namespace Go.Proofs.YtkenhcgdnbgnpaaDoor
open Go Go.RowKit

theorem powIs_below {w w' : World} (h : PowIs w) (hb : Below w.heap.size w w') : PowIs w' := tabIs_below h hb
set_option maxHeartbeats 1000000 in
theorem packdigits_walk (v : Int) (s : ByteArray) (w : World) (ht : PowIs w) (h0 : -9223372036854775808 ≤ v) (h1 : v ≤ 9223372036854775807) :
    Calls Tryd.prog 3 #[.int .i64 v, .string s] w fun e w' => e = .returned (.bool true) ∧ Below w.heap.size w w' := by
  have HA := Lib.hid (alive1_any w ht)
  by_cases hs : s.size ≤ 60
  · have hsi : (s.size : Int) ≤ 60 := by omega
    obtain ⟨below, hb⟩ : ∃ b, b = decide ((bts s).head? = some 45) := ⟨_, rfl⟩
    obtain ⟨D, hD⟩ : ∃ D, D = if below = true then s.extract 1 s.size else s := ⟨_, rfl⟩
    have hDl : D.size ≤ 1000 := by
      rw [hD]; split
      · rw [ByteArray.size_extract]; omega
      · omega
    have hn := fun w => number_of s D below w (fun w => cutdash_any s D below w hb hD) hDl
    have hr := fun w => rnumber_of s D below w hb hD (by omega)
    obtain ⟨x, hx⟩ : ∃ x, x = (numD (bts D) below).1 := ⟨_, rfl⟩
    obtain ⟨y, hy⟩ : ∃ y, y = (numD (bts D) below).2 := ⟨_, rfl⟩
    obtain ⟨S, hS⟩ : ∃ S, S = bs (Lib.itoa v) := ⟨_, rfl⟩
    have hd : ∀ w, PowIs w → Calls Tryd.prog 7 #[.int .i64 v] w fun e w' => e = .returned (.string S) ∧ Below w.heap.size w w' := fun w ht => by rw [hS]; exact digits_any v w h0 h1 ht
    have he : ∀ w, Calls Tryd.prog 8 #[.int .i64 v] w fun e w' => e = .returned (.string S) ∧ Below w.heap.size w w' := fun w => by rw [hS]; exact rdigits_any v w h0 h1
    rw [← hx, ← hy] at hn hr
    have HN := Lib.hid hn
    have HR := Lib.hid hr
    have HD := Lib.hid hd
    have HE := Lib.hid he
    have t1 : (x == x) = true := by simp
    have t2 : (y == y) = true := by simp
    have t3 : (S.toList == S.toList) = true := by simp
    clear hb hD hDl hn hr hx hy hS hd he
    go_enter Tryd.func3, Tryd.ntmps3
    go_wp2_with (first
      | (go_at_call 4; refine HA.out.mono ?_; rintro e w1 ⟨rfl, b1⟩)
      | (go_at_call 5; refine (HN.out _).mono ?_; rintro e w2 ⟨rfl, hw2⟩; subst hw2)
      | (go_at_call 6; refine (HR.out _).mono ?_; rintro e w3 ⟨rfl, hw3⟩; subst hw3)
      | (go_at_call 7; refine (HD.out _ (powIs_below ht b1)).mono ?_; rintro e w4 ⟨rfl, b4⟩)
      | (go_at_call 8; refine (HE.out _).mono ?_; rintro e w5 ⟨rfl, b5⟩))
    go_ret
    exact ⟨by first | rfl | simp, below_of b5 (below_of b4 b1 b1.size) (by have := b1.size; have := b4.size; omega)⟩
  · have hsi : (60 : Int) < (s.size : Int) := by omega
    clear hs
    go_enter Tryd.func3, Tryd.ntmps3
    go_wp2_with (go_at_call 4; refine HA.out.mono ?_; rintro e w1 ⟨rfl, b1⟩)
    go_ret
    exact ⟨rfl, b1⟩
end Go.Proofs.YtkenhcgdnbgnpaaDoor
