/-
  DiskNone, walked: a nil disk. No condition.
-/
import Derived.Test.YtlffkppbngpcfaaDiskAlive
namespace Go.Proofs.Ytlffkppbngpcfaa
open Go Go.RowKit
attribute [local go_sem] cell_set_if

set_option maxRecDepth 100000 in
set_option maxHeartbeats 8000000 in
theorem disknone_walk (s : ByteArray) (n : Int) (w : World) :
    Calls Try.prog 7 #[.string s, .int .i64 n] w fun e w' => e = .returned (.bool true) ∧ Below w.heap.size w w' := by
  by_cases h : 100 < (s.size : Int)
  · go_enter Try.func7, Try.ntmps7
    go_wp2_with (go_at_call 8; refine (dalive_any _).mono ?_; rintro e w1 ⟨rfl, b1⟩)
    go_ret
    exact ⟨rfl, b1⟩
  · have h' : (s.size : Int) ≤ 100 := by omega
    clear h
    go_enter Try.func7, Try.ntmps7
    go_wp2_with (first
      | (go_at_call 8; refine (dalive_any _).mono ?_; rintro e w1 ⟨rfl, b1⟩; have HB1 := Lib.hid b1)
      | (go_at_call 15; refine (nrestore_nil _).mono ?_; rintro e wn ⟨rfl, hw⟩; subst hw)
      | (go_at_call 10; refine (narm_nil _ _ _ _ _).mono ?_; rintro e wn ⟨rfl, hw⟩; subst hw)
      | (go_at_call 28; refine (nroom_nil _ _).mono ?_; rintro e wn ⟨rfl, hw⟩; subst hw)
      | (go_at_call 18; refine (nread_nil _ _ _).mono ?_; rintro e w2 ⟨rfl, b2⟩; have HB2 := Lib.hid (HB1.out.trans (b2.mono HB1.out.size)))
      | (go_at_call 16; refine (nsize_nil _ _).mono ?_; rintro e w3 ⟨rfl, b3⟩; have HB3 := Lib.hid (HB2.out.trans (b3.mono HB2.out.size)))
      | (go_at_call 14; refine (non_nil _).mono ?_; rintro e wn ⟨rfl, hw⟩; subst hw)
      | (go_at_call 13; refine (fill_any _ true _).mono ?_; rintro e w4 ⟨rfl, b4⟩; have HB4 := Lib.hid (HB3.out.trans (b4.mono HB3.out.size)))
      | (go_at_call 12; refine (nwrite_nil _ _ _ _).mono ?_; rintro e w5 ⟨rfl, b5⟩; have HB5 := Lib.hid (HB4.out.trans (b5.mono HB4.out.size)))
      | (go_at_call 11; refine (nsync_nil _ _).mono ?_; rintro e w6 ⟨rfl, b6⟩; have HB6 := Lib.hid (HB5.out.trans (b6.mono HB5.out.size)))
      | (go_at_call 29; refine (ncut_nil _ _ _).mono ?_; rintro e w7 ⟨rfl, b7⟩; have HB7 := Lib.hid (HB6.out.trans (b7.mono HB6.out.size)))
      | (go_at_call 21; refine (nrename_nil _ _ _).mono ?_; rintro e w8 ⟨rfl, b8⟩; have HB8 := Lib.hid (HB7.out.trans (b8.mono HB7.out.size)))
      | (go_at_call 30; refine (nremove_nil _ _).mono ?_; rintro e w9 ⟨rfl, b9⟩; have HB9 := Lib.hid (HB8.out.trans (b9.mono HB8.out.size)))
      | (go_at_call 17; refine (ncrash_nil _ _ _ _).mono ?_; rintro e wn ⟨rfl, hw⟩; subst hw)
      | (go_at_call 26; refine (dused_nil _).mono ?_; rintro e wn ⟨rfl, hw⟩; subst hw)
      | (go_at_call 20; refine (ndirty_nil _).mono ?_; rintro e wn ⟨rfl, hw⟩; subst hw)
      | (go_at_call 25; refine (nlist_nil _ _).mono ?_; rintro e w10 ⟨rfl, b10⟩; have HB10 := Lib.hid (HB9.out.trans (b10.mono HB9.out.size)))
      | (go_at_call 24; refine (ntwin_nil _).mono ?_; rintro e wn ⟨rfl, hw⟩; subst hw))
    go_ret
    exact ⟨rfl, HB10.out⟩
end Go.Proofs.Ytlffkppbngpcfaa
