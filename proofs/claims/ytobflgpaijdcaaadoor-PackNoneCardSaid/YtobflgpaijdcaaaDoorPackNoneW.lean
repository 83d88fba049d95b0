/-
  The walk of the law PackNone. Condition: the library's table of powers of ten is as its text lays it.
-/
import Derived.Test.YtobflgpaijdcaaaDoorPackAlive
namespace Go.Proofs.YtobflgpaijdcaaaDoor
open Go Go.RowKit

theorem nsmall (n k : Int) (w : World) : Calls Tryd.prog 57 #[.pointer none, .int .i64 n, .int .i64 k] w fun e w' => e = .returned (.pointer none) ∧ w' = w := by
  go_enter Tryd.func57, Tryd.ntmps57
  go_wp2
  go_ret
  exact ⟨rfl, rfl⟩
theorem nbyte (n : Int) (w : World) : Calls Tryd.prog 29 #[.pointer none, .int .i64 n] w fun e w' => e = .returned (.pointer none) ∧ w' = w := by
  go_enter Tryd.func29, Tryd.ntmps29
  go_wp2_with (go_at_call 57; refine (nsmall _ _ _).mono ?_; rintro e w1 ⟨rfl, hw⟩; subst hw)
  go_ret
  exact ⟨rfl, rfl⟩
theorem nhalf (n : Int) (w : World) : Calls Tryd.prog 36 #[.pointer none, .int .i64 n] w fun e w' => e = .returned (.pointer none) ∧ w' = w := by
  go_enter Tryd.func36, Tryd.ntmps36
  go_wp2_with (go_at_call 57; refine (nsmall _ _ _).mono ?_; rintro e w1 ⟨rfl, hw⟩; subst hw)
  go_ret
  exact ⟨rfl, rfl⟩
theorem nword (n : Int) (w : World) : Calls Tryd.prog 33 #[.pointer none, .int .i64 n] w fun e w' => e = .returned (.pointer none) ∧ w' = w := by
  go_enter Tryd.func33, Tryd.ntmps33
  go_wp2_with (go_at_call 57; refine (nsmall _ _ _).mono ?_; rintro e w1 ⟨rfl, hw⟩; subst hw)
  go_ret
  exact ⟨rfl, rfl⟩
theorem nint (n : Int) (w : World) : Calls Tryd.prog 31 #[.pointer none, .int .i64 n] w fun e w' => e = .returned (.pointer none) ∧ w' = w := by
  go_enter Tryd.func31, Tryd.ntmps31
  go_wp2
  go_ret
  exact ⟨rfl, rfl⟩
theorem ntext (s : ByteArray) (w : World) : Calls Tryd.prog 30 #[.pointer none, .string s] w fun e w' => e = .returned (.pointer none) ∧ w' = w := by
  go_enter Tryd.func30, Tryd.ntmps30
  go_wp2
  go_ret
  exact ⟨rfl, rfl⟩
theorem nraw (s : ByteArray) (w : World) : Calls Tryd.prog 34 #[.pointer none, .string s] w fun e w' => e = .returned (.pointer none) ∧ w' = w := by
  go_enter Tryd.func34, Tryd.ntmps34
  go_wp2
  go_ret
  exact ⟨rfl, rfl⟩
theorem nlen (w : World) : Calls Tryd.prog 39 #[.pointer none] w fun e w' => e = .returned (.int .i64 0) ∧ w' = w := by
  go_enter Tryd.func39, Tryd.ntmps39
  go_wp2
  go_ret
  exact ⟨rfl, rfl⟩
theorem nend (w : World) : Calls Tryd.prog 32 #[.pointer none] w fun e w' => e = .returned (.tuple #[.string ⟨#[]⟩, .int .i64 1]) ∧ w' = w := by
  go_enter Tryd.func32, Tryd.ntmps32
  go_wp2
  go_ret2
  exact ⟨rfl, rfl⟩
theorem ngraw (n : Int) (w : World) : Calls Tryd.prog 22 #[.pointer none, .int .i64 n] w fun e w' => e = .returned (.string ⟨#[]⟩) ∧ w' = w := by
  go_enter Tryd.func22, Tryd.ntmps22
  go_wp2
  go_ret
  exact ⟨rfl, rfl⟩
theorem nglow (n : Int) (w : World) : Calls Tryd.prog 54 #[.pointer none, .int .i64 n] w fun e w' => e = .returned (.int .u64 0) ∧ w' = w := by
  go_enter Tryd.func54, Tryd.ntmps54
  go_wp2_with (go_at_call 22; refine (ngraw _ _).mono ?_; rintro e w1 ⟨rfl, hw⟩; subst hw)
  go_loop [5, 7, 13] (fun u5 _ u13 => u13 = .int .i64 0 ∧ u5 = .int .u64 0) (fun _ _ _ => 0)
  case atStart => exact ⟨rfl, rfl⟩
  case round =>
    obtain ⟨rfl, rfl⟩ := hrel
    go_wp2
    go_ret
    exact ⟨rfl, rfl⟩
theorem ngbyte (w : World) : Calls Tryd.prog 15 #[.pointer none] w fun e w' => e = .returned (.int .i64 0) ∧ w' = w := by
  go_enter Tryd.func15, Tryd.ntmps15
  go_wp2_with (go_at_call 54; refine (nglow _ _).mono ?_; rintro e w1 ⟨rfl, hw⟩; subst hw)
  go_ret
  exact ⟨rfl, rfl⟩
theorem nghalf (w : World) : Calls Tryd.prog 17 #[.pointer none] w fun e w' => e = .returned (.int .i64 0) ∧ w' = w := by
  go_enter Tryd.func17, Tryd.ntmps17
  go_wp2_with (go_at_call 54; refine (nglow _ _).mono ?_; rintro e w1 ⟨rfl, hw⟩; subst hw)
  go_ret
  exact ⟨rfl, rfl⟩
theorem ngword (w : World) : Calls Tryd.prog 18 #[.pointer none] w fun e w' => e = .returned (.int .i64 0) ∧ w' = w := by
  go_enter Tryd.func18, Tryd.ntmps18
  go_wp2_with (go_at_call 54; refine (nglow _ _).mono ?_; rintro e w1 ⟨rfl, hw⟩; subst hw)
  go_ret
  exact ⟨rfl, rfl⟩
theorem ngint (w : World) : Calls Tryd.prog 19 #[.pointer none] w fun e w' => e = .returned (.int .i64 0) ∧ w' = w := by
  go_enter Tryd.func19, Tryd.ntmps19
  go_wp2_with (go_at_call 54; refine (nglow _ _).mono ?_; rintro e w1 ⟨rfl, hw⟩; subst hw)
  go_ret
  exact ⟨rfl, rfl⟩
theorem ngtext (w : World) : Calls Tryd.prog 20 #[.pointer none] w fun e w' => e = .returned (.string ⟨#[]⟩) ∧ w' = w := by
  go_enter Tryd.func20, Tryd.ntmps20
  go_wp2_with (first | (go_at_call 17; refine (nghalf _).mono ?_; rintro e w1 ⟨rfl, hw⟩; subst hw) | (go_at_call 22; refine (ngraw _ _).mono ?_; rintro e w1 ⟨rfl, hw⟩; subst hw))
  go_ret
  exact ⟨rfl, rfl⟩
theorem ngbad (w : World) : Calls Tryd.prog 26 #[.pointer none] w fun e w' => e = .returned (.int .i64 1) ∧ w' = w := by
  go_enter Tryd.func26, Tryd.ntmps26
  go_wp2
  go_ret
  exact ⟨rfl, rfl⟩
theorem ngleft (w : World) : Calls Tryd.prog 24 #[.pointer none] w fun e w' => e = .returned (.int .i64 0) ∧ w' = w := by
  go_enter Tryd.func24, Tryd.ntmps24
  go_wp2_with (go_at_call 26; refine (ngbad _).mono ?_; rintro e w1 ⟨rfl, hw⟩; subst hw)
  go_ret
  exact ⟨rfl, rfl⟩
theorem ngend (w : World) : Calls Tryd.prog 27 #[.pointer none] w fun e w' => e = .returned (.int .i64 1) ∧ w' = w := by
  go_enter Tryd.func27, Tryd.ntmps27
  go_wp2_with (first | (go_at_call 24; refine (ngleft _).mono ?_; rintro e w1 ⟨rfl, hw⟩; subst hw) | (go_at_call 26; refine (ngbad _).mono ?_; rintro e w1 ⟨rfl, hw⟩; subst hw))
  go_ret
  exact ⟨rfl, rfl⟩
set_option maxRecDepth 100000 in
theorem packnone_walk (n : Int) (s : ByteArray) (w : World) (ht : PowIs w) :
    Calls Tryd.prog 8 #[.int .i64 n, .string s] w fun e w' => e = .returned (.bool true) ∧ Below w.heap.size w w' := by
  by_cases hc : s.size ≤ 200
  · have hs : (s.size : Int) ≤ 200 := by omega
    have he : ((⟨#[]⟩ : ByteArray) ++ (⟨#[]⟩ : ByteArray)).toList = [] := by rw [ByteArray.toList_eq]; rfl
    clear hc
    go_enter Tryd.func8, Tryd.ntmps8
    go_wp2_with (first
      | (go_at_call 13; refine (alive1_any _ ht).mono ?_; rintro e wa ⟨rfl, ba⟩)
      | (go_at_call 29; refine (nbyte _ _).mono ?_; rintro e w1 ⟨rfl, hw⟩; subst hw)
      | (go_at_call 36; refine (nhalf _ _).mono ?_; rintro e w1 ⟨rfl, hw⟩; subst hw)
      | (go_at_call 33; refine (nword _ _).mono ?_; rintro e w1 ⟨rfl, hw⟩; subst hw)
      | (go_at_call 31; refine (nint _ _).mono ?_; rintro e w1 ⟨rfl, hw⟩; subst hw)
      | (go_at_call 30; refine (ntext _ _).mono ?_; rintro e w1 ⟨rfl, hw⟩; subst hw)
      | (go_at_call 34; refine (nraw _ _).mono ?_; rintro e w1 ⟨rfl, hw⟩; subst hw)
      | (go_at_call 39; refine (nlen _).mono ?_; rintro e w1 ⟨rfl, hw⟩; subst hw)
      | (go_at_call 32; refine (nend _).mono ?_; rintro e w1 ⟨rfl, hw⟩; subst hw)
      | (go_at_call 15; refine (ngbyte _).mono ?_; rintro e w1 ⟨rfl, hw⟩; subst hw)
      | (go_at_call 17; refine (nghalf _).mono ?_; rintro e w1 ⟨rfl, hw⟩; subst hw)
      | (go_at_call 18; refine (ngword _).mono ?_; rintro e w1 ⟨rfl, hw⟩; subst hw)
      | (go_at_call 19; refine (ngint _).mono ?_; rintro e w1 ⟨rfl, hw⟩; subst hw)
      | (go_at_call 20; refine (ngtext _).mono ?_; rintro e w1 ⟨rfl, hw⟩; subst hw)
      | (go_at_call 22; refine (ngraw _ _).mono ?_; rintro e w1 ⟨rfl, hw⟩; subst hw)
      | (go_at_call 24; refine (ngleft _).mono ?_; rintro e w1 ⟨rfl, hw⟩; subst hw)
      | (go_at_call 26; refine (ngbad _).mono ?_; rintro e w1 ⟨rfl, hw⟩; subst hw)
      | (go_at_call 27; refine (ngend _).mono ?_; rintro e w1 ⟨rfl, hw⟩; subst hw))
    go_ret
    exact ⟨rfl, ba⟩
  · have hs : 200 < (s.size : Int) := by omega
    clear hc
    go_enter Tryd.func8, Tryd.ntmps8
    go_wp2_with (go_at_call 13; refine (alive1_any _ ht).mono ?_; rintro e wa ⟨rfl, ba⟩)
    go_ret
    exact ⟨rfl, ba⟩
end Go.Proofs.YtobflgpaijdcaaaDoor
