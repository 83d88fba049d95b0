/-
  The first call of the pack laws; digits; nil writers and readers. Condition: the library's table of powers of ten is as its text lays it.
-/
import Derived.Test.YtkenhcgdnbgnpaaDoorPackAny
import Derived.Test.YtkenhcgdnbgnpaaDoorLayItoa
namespace Go.Proofs.YtkenhcgdnbgnpaaDoor
open Go Go.RowKit

abbrev PowIs (w : World) : Prop := Lib.TabIs Tryd.prog w "internal/strconv.uint64pow10" .u64 Lib.pow10Tab

theorem digits_any (v : Int) (w : World) (h0 : -9223372036854775808 ≤ v) (h1 : v ≤ 9223372036854775807) (ht : PowIs w) :
    Calls Tryd.prog 7 #[.int .i64 v] w fun e w' => e = .returned (str (Lib.itoa v)) ∧ Below w.heap.size w w' := by
  obtain ⟨S, hS⟩ : ∃ S, S = bs (Lib.itoa v) := ⟨_, rfl⟩
  have hI : ∀ w, PowIs w → Calls Tryd.prog 17 #[.int .i64 v] w fun e w' => e = .returned (.string S) ∧ Below w.heap.size w w' := fun w ht => by
    rw [hS]; exact itoa_any v h0 h1 w ht
  have e0 : str (Lib.itoa v) = .string S := by rw [hS]
  rw [e0]
  clear hS e0
  have HI := Lib.hid hI
  clear hI
  go_enter Tryd.func7, Tryd.ntmps7
  go_wp2_with (go_at_call 17; refine (HI.out _ ht).mono ?_; rintro e w1 ⟨rfl, q1⟩)
  go_ret
  exact ⟨rfl, q1⟩

theorem new_put (w : World) : PutS w.heap.size (w.alloc (.cells #[.slice none 0 0, .int .i64 0] 31)) w.heap.size ([], 0) :=
  ⟨Nat.le_refl _, _, Blk.new _ _ _, World.ownsRow_nil _ _ _ _⟩

theorem a_half (base g : Nat) (w : World) (h : PutS base w g ([], 0)) : Calls Tryd.prog 9 #[ptr g, .int .i64 258] w fun e w' => e = .returned (ptr g) ∧ PutS base w' g ([2, 1], 0) ∧ Below base w w' :=
  phalf_s base g ([], 0) 258 w h (by decide)
theorem a_text (base g : Nat) (w : World) (h : PutS base w g ([2, 1], 0)) : Calls Tryd.prog 10 #[ptr g, .string ⟨#[97]⟩] w fun e w' => e = .returned (ptr g) ∧ PutS base w' g ([2, 1, 1, 0, 97], 0) ∧ Below base w w' :=
  ptext_s base g ([2, 1], 0) ⟨#[97]⟩ w h (by decide)
theorem a_end (base g : Nat) (w : World) (h : PutS base w g ([2, 1, 1, 0, 97], 0)) : Calls Tryd.prog 11 #[ptr g] w fun e w' => e = .returned (.tuple #[.string ⟨#[2, 1, 1, 0, 97]⟩, .int .i64 0]) ∧ ∃ n, w' = w.drewN n :=
  pend_s base g ([2, 1, 1, 0, 97], 0) w h
theorem a_from (w : World) : Calls Tryd.prog 12 #[.string ⟨#[2, 1, 1, 0, 97]⟩] w fun e w' => e = .returned (ptr w.heap.size) ∧ GetS w' w.heap.size ([2, 1, 1, 0, 97], 0) ∧ Below w.heap.size w w' :=
  from_s ⟨#[2, 1, 1, 0, 97]⟩ w
theorem a_ghalf (g : Nat) (w : World) (h : GetS w g ([2, 1, 1, 0, 97], 0)) : Calls Tryd.prog 13 #[ptr g] w fun e w' => e = .returned (.int .i64 258) ∧ GetS w' g ([1, 0, 97], 0) ∧ Frm (at1 g) w w' := by
  have e : getNum 2 ([2, 1, 1, 0, 97], 0) = (258, ([1, 0, 97], 0)) := by decide
  have := ghalf_s g ([2, 1, 1, 0, 97], 0) w h (by decide)
  rwa [e] at this
theorem a_gtext (g : Nat) (w : World) (h : GetS w g ([1, 0, 97], 0)) : Calls Tryd.prog 14 #[ptr g] w fun e w' => e = .returned (.string ⟨#[97]⟩) ∧ GetS w' g ([], 0) ∧ Frm (at1 g) w w' := by
  have e : getText ([1, 0, 97], 0) = ([97], ([], 0)) := by decide
  have := gtext_s g ([1, 0, 97], 0) w h (by decide)
  rwa [e] at this
theorem a_gend (g : Nat) (w : World) (h : GetS w g ([], 0)) : Calls Tryd.prog 15 #[ptr g] w fun e w' => e = .returned (.int .i64 0) ∧ GetS w' g ([], 0) ∧ Frm (at1 g) w w' := gend_s g ([], 0) w h
theorem a_digits (w : World) (ht : PowIs w) : Calls Tryd.prog 7 #[.int .i64 (-7)] w fun e w' => e = .returned (.string ⟨#[45, 55]⟩) ∧ Below w.heap.size w w' := by
  have e : Lib.itoa (-7) = [45, 55] := by simp [Lib.itoa, Lib.decDigits]
  have := digits_any (-7) w (by omega) (by omega) ht
  rwa [e] at this

set_option maxRecDepth 100000 in
theorem alive1_any (w : World) (ht : PowIs w) :
    Calls Tryd.prog 4 #[] w fun e w' => e = .returned (.bool true) ∧ Below w.heap.size w w' := by
  have HT := Lib.hid ht
  clear ht
  have P0 := new_put w
  have B0 : Below w.heap.size w (w.alloc (.cells #[.slice none 0 0, .int .i64 0] 31)) := (Below.refl _ _).alloc (Nat.le_refl _) _
  go_enter Tryd.func4, Tryd.ntmps4
  go_wp2_with (first
    | (go_at_call 9; refine (a_half _ _ _ P0).mono ?_; rintro e w1 ⟨rfl, P1, b1⟩; have B1 := B0.trans b1)
    | (go_at_call 10; refine (a_text _ _ _ P1).mono ?_; rintro e w2 ⟨rfl, P2, b2⟩; have B2 := B1.trans b2)
    | (go_at_call 11; refine (a_end _ _ _ P2).mono ?_; rintro e w3 ⟨rfl, n3, h3⟩; have B3 : Below w.heap.size w w3 := h3 ▸ below_drewN B2 n3; clear h3)
    | (go_at_call 12; refine (a_from _).mono ?_; rintro e w4 ⟨rfl, G4, b4⟩; have B4 := below_of b4 B3 B3.size; have hg := B3.size)
    | (go_at_call 13; refine (a_ghalf _ _ G4).mono ?_; rintro e w5 ⟨rfl, G5, f5⟩; have B5 := below_frm B4 f5 (Nat.le_refl _) (fun i hi => by unfold at1 at hi; omega))
    | (go_at_call 14; refine (a_gtext _ _ G5).mono ?_; rintro e w6 ⟨rfl, G6, f6⟩; have B6 := below_frm B5 f6 (Nat.le_refl _) (fun i hi => by unfold at1 at hi; omega))
    | (go_at_call 15; refine (a_gend _ _ G6).mono ?_; rintro e w7 ⟨rfl, G7, f7⟩; have B7 := below_frm B6 f7 (Nat.le_refl _) (fun i hi => by unfold at1 at hi; omega))
    | (go_at_call 7; refine (a_digits _ (tabIs_below HT.out B7)).mono ?_; rintro e w8 ⟨rfl, b8⟩; have B8 := below_of b8 B7 B7.size))
  go_ret
  exact ⟨rfl, B8⟩
end Go.Proofs.YtkenhcgdnbgnpaaDoor
