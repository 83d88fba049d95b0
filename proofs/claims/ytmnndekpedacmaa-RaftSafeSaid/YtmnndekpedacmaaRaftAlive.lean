/-
  Ballots, more: Stand, Would, Patience; the first call of chapter 25's laws. Conditions: those of the log that is asked.
-/
import Derived.Test.YtmnndekpedacmaaRaftOnce
namespace Go.Proofs.Ytmnndekpedacmaa
open Go Go.RowKit
attribute [local go_sem] cell_set_if

theorem patience_any (id d : Int) (w : World) (h1 : 0 ≤ id) (h2 : id ≤ 1000) (hd : d ≤ 9223372036854775807) :
    Calls Try.prog 25 #[.int .i64 id, .int .i64 d] w fun e w' => e = .returned (.int .i64 (id + (10 + max d 0 % 10))) ∧ w' = w := by
  obtain ⟨x, hx⟩ : ∃ x, x = max d 0 := ⟨_, rfl⟩
  obtain ⟨y, hy⟩ : ∃ y, y = x % 10 := ⟨_, rfl⟩
  rw [← hx, ← hy]
  by_cases h : d < 0
  · have hy0 : y = 0 := by omega
    subst hy0
    clear hx hy
    go_enter Try.func25, Try.ntmps25
    go_wp2
    go_ret
    exact ⟨rfl, rfl⟩
  · have hx' : x = d := by omega
    subst hx'
    have hd0 : 0 ≤ x := by omega
    have hy1 : 0 ≤ y ∧ y < 10 := by omega
    have hy2 : x % 10 = y := hy.symm
    clear hx hy
    go_enter Try.func25, Try.ntmps25
    go_wp2
    go_ret
    exact ⟨rfl, rfl⟩

theorem grant_alive (l : Value) (w : World) (nw : Bool) (hn : nw = true) (ha : Asked w l 0 0 nw) :
    Calls Try.prog 16 #[bal 3 (-1), .int .i64 4, .int .i64 1, .int .i64 0, .int .i64 0, l] w fun e w' => e = .returned (.tuple #[bal 4 1, .bool true]) ∧ Below w.heap.size w w' := by
  subst hn; exact grant_any 3 (-1) 4 1 0 0 l true w ha
theorem see_alive (w : World) : Calls Try.prog 18 #[bal 3 0, .int .i64 5] w fun e w' => e = .returned (bal 5 (-1)) ∧ Below w.heap.size w w' := see_any 3 0 5 w
theorem patience_alive (w : World) : Calls Try.prog 25 #[.int .i64 2, .int .i64 13] w fun e w' => e = .returned (.int .i64 15) ∧ w' = w := patience_any 2 13 w (by omega) (by omega) (by omega)

set_option maxHeartbeats 1000000 in
theorem alive25_any (w : World) :
    Calls Try.prog 6 #[] w fun e w' => e = .returned (.bool true) ∧ Below w.heap.size w w' := by
  go_enter Try.func6, Try.ntmps6
  go_wp2_with (first
    | (go_at_call 27; refine (new_any 0 0 _ (by omega)).mono ?_; rintro e w1 ⟨rfl, hl, hb1⟩)
    | (go_at_call 16; refine (grant_alive _ _ _ (by decide) (hl.asked 0 0)).mono ?_; rintro e w2 ⟨rfl, hb2⟩)
    | (go_at_call 25; refine (patience_alive _).mono ?_; rintro e w3 ⟨rfl, rfl⟩)
    | (go_at_call 18; refine (see_alive _).mono ?_; rintro e w4 ⟨rfl, hb4⟩))
  go_ret
  exact ⟨rfl, below_of hb4 ((below_of hb2 hb1 hb1.size).alloc (by have := hb1.size; have := hb2.size; omega) _) (by have := hb1.size; have := hb2.size; simp; omega)⟩

/-- A slice of slices of ints. -/
structure RowsAt (w : World) (Av : Option Addr) (n : Nat) (A : Nat → Option Addr) (L C : Nat → Nat) (Z : Nat → List Int) : Prop where
  row : ∀ i, i < n → ∃ ad, Av = some ad ∧ w.cell? (ad.add i) = some (.slice (A i) (L i) (C i))
  rd : ∀ i, i < n → Rd w (A i) ((Z i).map (Value.int .i64))
  len : ∀ i, i < n → (Z i).length = L i
  wf : ∀ i, i < n → L i ≤ C i ∧ C i ≤ maxLen ∧ ∀ z ∈ Z i, -9223372036854775808 ≤ z ∧ z ≤ 9223372036854775807
theorem RowsAt.below {w w' : World} {Av : Option Addr} {n : Nat} {A : Nat → Option Addr} {L C : Nat → Nat} {Z : Nat → List Int} (h : RowsAt w Av n A L C Z) (hb : Below w.heap.size w w') : RowsAt w' Av n A L C Z :=
  ⟨fun i hi => by
    obtain ⟨ad, e, hc⟩ := h.row i hi
    exact ⟨ad, e, (hb.cell (block_lt_of_cell hc)).trans hc⟩, fun i hi => (h.rd i hi).below hb, h.len, h.wf⟩
theorem RowsAt.flat {w : World} {Av : Option Addr} {n : Nat} {A : Nat → Option Addr} {L C : Nat → Nat} {Z : Nat → List Int} (h : RowsAt w Av n A L C Z) (hn : 0 < n) :
    ∃ b o, Av = some ⟨b, o, none⟩ ∧ b < w.heap.size ∧ ∀ i, i < n → w.cell? ⟨b, o + i, none⟩ = some (.slice (A i) (L i) (C i)) := by
  have hr : Rd w Av ((List.range n).map fun i => Value.slice (A i) (L i) (C i)) := fun j x hx => by
    rw [List.getElem?_map, Option.map_eq_some_iff] at hx
    obtain ⟨i, hi, rfl⟩ := hx
    have hj : j < n := by have := (List.getElem?_eq_some_iff.1 hi).1; simpa using this
    have : i = j := by rw [List.getElem?_range hj] at hi; exact (Option.some.inj hi).symm
    subst this
    exact h.row i hj
  obtain ⟨b, o, e, hb, hc⟩ := hr.flat (by simpa using hn)
  exact ⟨b, o, e, hb, fun i hi => hc i _ (by simp [hi])⟩
end Go.Proofs.Ytmnndekpedacmaa
