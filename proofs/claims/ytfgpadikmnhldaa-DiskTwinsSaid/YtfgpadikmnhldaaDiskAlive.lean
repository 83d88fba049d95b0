/-
  The disk laws' first calls answer as they should. No condition.
-/
import Derived.Test.YtfgpadikmnhldaaDiskV
namespace Go.Proofs.Ytfgpadikmnhldaa
open Go Go.RowKit
attribute [local go_sem] cell_set_if

set_option maxRecDepth 100000 in
set_option maxHeartbeats 2000000 in
theorem dalive_any (w : World) : Calls Try.prog 5 #[] w fun e w' => e = .returned (.bool true) ∧ Below w.heap.size w w' := by
  obtain ⟨x, hx⟩ : ∃ x, x = fillS ⟨#[120]⟩ := ⟨_, rfl⟩
  have hx6 : x.size = 256 := by rw [hx]; exact fillS_size _
  have HX := Lib.hid hx6
  have HXL : Hid (x.size ≤ 281474976710656) := by unfold Hid; omega
  have hfill : ∀ w : World, Calls Try.prog 15 #[.string ⟨#[120]⟩, .bool true] w fun e w' => e = .returned (.string x) ∧ Below w.heap.size w w' := fun w => by rw [hx]; exact fill_any ⟨#[120]⟩ true w
  have HFILL := Lib.hid hfill
  have hxx : (x.toList == x.toList) = true := by simp
  clear hx hx6 hfill
  go_enter Try.func5, Try.ntmps5
  go_wp2_with (first
    | (go_at_call 6; refine (lnew 0 w).mono ?_; rintro e w1 ⟨g, rfl, L1, b1⟩; have HL1 := Lib.hid L1; have HB1 := Lib.hid b1)
    | (go_at_call 15; refine (HFILL.out _).mono ?_; rintro e w2 ⟨rfl, b2⟩
       have HL2 := Lib.hid (HL1.out.below b2)
       have HB2 := Lib.hid (HB1.out.trans (b2.mono HB1.out.size))
       have HW1 := Lib.hid (lwrite HL2.out fine_new HXL.out (al_1 HX.out)))
    | (go_at_call 16; with_reducible refine HW1.out.mono ?_; rintro e w3 ⟨rfl, L3, b3⟩
       have ba3 : Below w3.heap.size w3 (w3.alloc (.cells #[.int .i64 256] 3)) := (Below.refl _ _).alloc (Nat.le_refl _) _
       have HL3 := Lib.hid (L3.below ba3)
       have HB3 := Lib.hid ((HB2.out.trans b3).trans (ba3.mono (Nat.le_trans HB2.out.size b3.size)))
       have HC3 := Lib.hid (lcrash (keep := [256]) (A := some ⟨w3.heap.size, 0, none⟩) (n := 1) (c := 1) HL3.out fine_1 (Rd.one _ _ _) rfl (by omega) (fun _ a ha => .inr (by injection ha with ha; subst ha; exact (Blk.new w3 3 #[.int .i64 256]).ty)) (al_2 HX.out)))
    | (go_at_call 17; with_reducible refine HC3.out.mono ?_; rintro e w4 ⟨rfl, L4, b4⟩
       have HL4 := Lib.hid L4
       have HB4 := Lib.hid (HB3.out.trans b4)
       have HR4 := Lib.hid (lrestore HL4.out))
    | (go_at_call 18; with_reducible refine HR4.out.mono ?_; rintro e w5 ⟨rfl, L5, b5⟩
       have HL5 := Lib.hid L5
       have HB5 := Lib.hid (HB4.out.trans b5)
       have HD5 := Lib.hid (lread (d := al3 x) HL5.out al_4))
    | (go_at_call 19; with_reducible refine HD5.out.mono ?_; rintro e w6 ⟨rfl, b6⟩
       have HL6 := Lib.hid (LiveAt.below (d := al3 x) HL5.out b6)
       have HB6 := Lib.hid (HB5.out.trans (b6.mono HB5.out.size))
       have HW6 := Lib.hid (lwrite HL6.out fine_3 HXL.out (al_5 HX.out)))
    | (go_at_call 16; with_reducible refine HW6.out.mono ?_; rintro e w7 ⟨rfl, L7, b7⟩
       have HL7 := Lib.hid L7
       have HB7 := Lib.hid (HB6.out.trans b7)
       have HC7 := Lib.hid (lcrash (keep := []) (A := none) (n := 0) (c := 0) HL7.out fine_4 (Rd.nil _ _) rfl (by omega) (fun h => by omega) al_6))
    | (go_at_call 17; with_reducible refine HC7.out.mono ?_; rintro e w8 ⟨rfl, L8, b8⟩
       have HL8 := Lib.hid L8
       have HB8 := Lib.hid (HB7.out.trans b8)
       have HR8 := Lib.hid (lrestore HL8.out))
    | (go_at_call 18; with_reducible refine HR8.out.mono ?_; rintro e w9 ⟨rfl, L9, b9⟩
       have HL9 := Lib.hid L9
       have HB9 := Lib.hid (HB8.out.trans b9)
       have HS9 := Lib.hid (lsize (d := al6 x) HL9.out al_8))
    | (go_at_call 20; with_reducible refine HS9.out.mono ?_; rintro e w10 ⟨rfl, b10⟩
       have HL10 := Lib.hid (LiveAt.below (d := al6 x) HL9.out b10)
       have HB10 := Lib.hid (HB9.out.trans (b10.mono HB9.out.size)))
    | (go_at_call 13; refine (lon (b := true) HL10.out rfl).mono ?_; rintro e w11 ⟨rfl, hw⟩; obtain rfl := hw.symm))
  go_ret
  exact ⟨rfl, HB10.out⟩
end Go.Proofs.Ytfgpadikmnhldaa
