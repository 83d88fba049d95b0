/-
  alive of the big laws answers true.
-/
import Derived.Test.YtejmpfmkaiaklaaBigPartsP
namespace Go.Proofs.Ytejmpfmkaiaklaa
open Go Go.RowKit
attribute [local go_sem] cell_set_if

theorem need_nat (n : Nat) (w : World) (h : n ≤ 2000000) : Calls Try.prog 14 #[.int .i64 n] w fun e w' => e = .returned (.int .i64 (needN n)) ∧ w' = w := by
  have := need_any n w (by omega)
  unfold needI at this
  rw [if_neg (by omega), Int.toNat_natCast] at this; exact this
theorem ref_text (first : Int) (n : Nat) (h0 : 2 ≤ first) (h1 : first < 4000) (hn : n ≤ 2000) : ∃ S : ByteArray, S.size = 4 ∧ unrefE (bts S) = (first, (n : Int), 0) ∧
    ∀ w, Calls Try.prog 16 #[.int .i64 first, .int .i64 n] w fun e w' => e = .returned (.tuple #[.string S, .int .i64 0]) ∧ Below w.heap.size w w' := by
  have hr : refE first n = (lowB first.toNat 2 ++ lowB (n : Int).toNat 2, 0) := refE_ok (by omega)
  refine ⟨bs (refE first n).1, ?_, ?_, fun w => ?_⟩
  · rw [← bts_len, bts_bs, hr]; simp [lowB_len]
  · rw [bts_bs]; exact unref_ref first n h0 h1 hn
  · have := ref_any first n w
    rw [hr] at this ⊢; exact this

theorem abSize : (⟨#[97, 98]⟩ : ByteArray).size = 2 := rfl
theorem abPart : partB ⟨#[97, 98]⟩ 0 = ⟨#[97, 98]⟩ := bts_inj (by unfold partB; rw [bts_extract]; rfl)
theorem abPages : pagesV 5 1 ⟨#[97, 98]⟩ 1 = [.int .i64 5, .int .i64 5, .int .i64 1, .string ⟨#[97, 98]⟩] := by
  rw [pagesV_succ, show pagesV 5 1 ⟨#[97, 98]⟩ 0 = [] from rfl, List.nil_append, pgC, abPart]; rfl
theorem lay_ab (w : World) : Calls Try.prog 13 #[.string ⟨#[97, 98]⟩, .int .i64 5, .int .i64 1] w fun e w' => (∃ b o c, e = .returned (.tuple #[.slice (some ⟨b, o, none⟩) 1 c, .int .i64 0]) ∧ b < w'.heap.size ∧
  w'.cell? ⟨b, o, none⟩ = some (.int .i64 5) ∧ w'.cell? ⟨b, o + 1, none⟩ = some (.int .i64 5) ∧ w'.cell? ⟨b, o + 2, none⟩ = some (.int .i64 1) ∧ w'.cell? ⟨b, o + 3, none⟩ = some (.string ⟨#[97, 98]⟩)) ∧ Below w.heap.size w w' := by
  have h := blay_any ⟨#[97, 98]⟩ 5 1 w (by rw [abSize]; omega) (by decide) (by decide)
  rw [abSize, show needN 2 = 1 from rfl, abPages] at h
  refine h.mono ?_
  rintro e w' ⟨h | h, hb⟩
  · obtain ⟨_, A, c, rfl, ho⟩ := h
    obtain ⟨b, o, rfl, hlt, hc⟩ := (Rd.of_own ho).flat (by simp)
    exact ⟨⟨b, o, c, rfl, hlt, hc 0 _ rfl, hc 1 _ rfl, hc 2 _ rfl, hc 3 _ rfl⟩, hb⟩
  · have h1 := h.1
    have h2 : bigOk 2 5 1 = true := by unfold bigOk; rw [show needN 2 = 1 from rfl]; decide
    rw [h2] at h1; cases h1

set_option maxHeartbeats 400000 in
theorem alive11_any (w : World) :
    Calls Try.prog 12 #[] w fun e w' => e = .returned (.bool true) ∧ Below w.heap.size w w' := by
  have hL := lay_ab
  obtain ⟨S, hS, hR⟩ : ∃ S : ByteArray, S.size = 4 ∧ ∀ w, Calls Try.prog 16 #[.int .i64 5, .int .i64 2] w fun e w' => e = .returned (.tuple #[.string S, .int .i64 0]) ∧ Below w.heap.size w w' := by
    obtain ⟨S, hS, _, hR⟩ := ref_text 5 2 (by decide) (by decide) (by decide)
    exact ⟨S, hS, fun w => hR w⟩
  have hN1 : ∀ w, Calls Try.prog 14 #[.int .i64 232] w fun e w' => e = .returned (.int .i64 1) ∧ w' = w := fun w => by
    have := need_any 232 w (by decide)
    rw [show needI 232 = 1 from rfl] at this; exact this
  have hN2 : ∀ w, Calls Try.prog 14 #[.int .i64 233] w fun e w' => e = .returned (.int .i64 2) ∧ w' = w := fun w => by
    have := need_any 233 w (by decide)
    rw [show needI 233 = 2 from rfl] at this; exact this
  have HL := Lib.hid hL
  have HR := Lib.hid hR
  have HN1 := Lib.hid hN1
  have HN2 := Lib.hid hN2
  have hS' : (S.size : Int) = 4 := by omega
  clear hL hR hN1 hN2
  go_enter Try.func12, Try.ntmps12
  go_wp2_with (first
    | (go_at_call 13; refine (HL.out _).mono ?_; rintro e w1 ⟨⟨b, o, c, rfl, hlt, c0, c1, c2, c3⟩, b1⟩)
    | (go_at_call 16; refine (HR.out _).mono ?_; rintro e w2 ⟨rfl, b2⟩
       have B2 := below_of b2 b1 b1.size
       have C2 := (below_cells b2).1
       rw [← C2 b _ hlt] at c0 c1 c2 c3)
    | (go_at_call 14; with_reducible refine (HN1.out _).mono ?_; rintro e w3 ⟨rfl, hw3⟩; subst hw3)
    | (go_at_call 14; with_reducible refine (HN2.out _).mono ?_; rintro e w3 ⟨rfl, hw3⟩; subst hw3))
  go_ret
  exact ⟨rfl, B2⟩
end Go.Proofs.Ytejmpfmkaiaklaa
