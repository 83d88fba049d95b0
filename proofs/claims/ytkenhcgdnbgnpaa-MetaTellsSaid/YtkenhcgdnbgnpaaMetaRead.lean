/-
  What meta.Read gives for every bytes. Condition: bytes no longer than memory holds.
-/
import Derived.Test.YtkenhcgdnbgnpaaMetaLay
import Derived.Laws.ResultCell
namespace Go.Proofs.Ytkenhcgdnbgnpaa
open Go Go.RowKit
attribute [local go_sem] cell_set_if

/-- A Get, whatever it bears. -/
def GetG (w : World) (g : Nat) : Prop := ∃ (s : ByteArray) (e : Int), s.size ≤ 1000 ∧ Blk w g 69 #[.string s, .int .i64 e]
theorem GetG.lt {w : World} {g : Nat} (h : GetG w g) : g < w.heap.size := by
  obtain ⟨_, _, _, h⟩ := h; exact h.lt
theorem GetG.alloc {w : World} {g : Nat} (h : GetG w g) (o : Obj) : GetG (w.alloc o) g := by
  obtain ⟨s, e, hs, h⟩ := h; exact ⟨s, e, hs, h.alloc o⟩

set_option maxRecDepth 100000 in
theorem graw_gen (g n : Nat) (w : World) (h : GetG w g) (hn : n ≤ 8) :
    Calls Try.prog 37 #[ptr g, .int .i64 n] w fun e w' => (∃ q : ByteArray, q.size ≤ 8 ∧ e = .returned (.string q)) ∧ GetG w' g ∧ Frm (at1 g) w w' := by
  obtain ⟨s, x, hs, hB⟩ := h
  have c1 : w.cell? ⟨g, 1, none⟩ = some (.int .i64 x) := by rw [hB.cell 1]; rfl
  have c0 : w.cell? ⟨g, 0, none⟩ = some (.string s) := by rw [hB.cell 0]; rfl
  have f0 := hB.free 0
  have f1 := hB.free 1
  by_cases hx : x = 0
  · subst hx
    by_cases hl : n ≤ s.size
    · refine (graw_any g s n w hB hl (by omega)).mono fun e w' ⟨h1, h2, h3⟩ => ⟨⟨_, ?_, h1⟩, ⟨_, _, ?_, h2⟩, h3⟩
      · rw [ByteArray.size_extract]; omega
      · rw [ByteArray.size_extract]; omega
    · have hl' : (s.size : Int) < (n : Int) := by omega
      go_enter Try.func37, Try.ntmps37
      go_wp2
      go_ret
      exact ⟨⟨⟨#[]⟩, by decide, rfl⟩, ⟨s, 5, hs, hB.set_ 1 _⟩, (Frm.refl (at1 g) w).setCell (p := ⟨g, 1, none⟩) (fun _ => rfl) _⟩
  · have hx' : (x != 0) = true := by simpa using hx
    go_enter Try.func37, Try.ntmps37
    go_wp2
    go_ret
    exact ⟨⟨⟨#[]⟩, by decide, rfl⟩, ⟨s, x, hs, hB⟩, Frm.refl _ _⟩

set_option maxHeartbeats 1000000 in
theorem gint_gen (g : Nat) (w : World) (h : GetG w g) :
    Calls Try.prog 25 #[ptr g] w fun e w' => (∃ x : Int, e = .returned (.int .i64 x)) ∧ GetG w' g ∧ Frm (at1 g) w w' := by
  have hlow : ∀ w, GetG w g → Calls Try.prog 38 #[ptr g, .int .i64 8] w fun e w' => (∃ v : Nat, e = .returned (.int .u64 v)) ∧ GetG w' g ∧ Frm (at1 g) w w' := fun w h => by
    have hraw := graw_gen g 8 w h (by omega)
    go_enter Try.func38, Try.ntmps38
    go_wp2_with (go_at_call 37; refine hraw.mono ?_; rintro e w1 ⟨⟨q, hz, rfl⟩, q1⟩)
    go_loop [5, 7, 13] (fun u5 u7 u13 => ∃ k : Nat, k ≤ q.size ∧ u13 = .int .i64 k ∧ u5 = .int .u64 (numL ((bts q).take k))) (fun _ _ u13 => q.size - (intOf u13).toNat)
    case atStart => exact ⟨0, by omega, rfl, by simp [numL]⟩
    case round =>
      obtain ⟨k, hk, rfl, rfl⟩ := hrel
      by_cases hlt : k < q.size
      · have hw : IntKind.i64.wrap (8 * (k : Int)) = 8 * (k : Int) := IntWalk.i64_in _ (by omega)
        have hw0 : (0 : Int) ≤ 8 * (k : Int) := by omega
        have hby : (q[k].toNat : Int) < 256 := by have := q[k].toNat_lt; omega
        have HO := Lib.hid (or_step ((bts q).take k) q[k] k (by omega) (by rw [List.length_take, bts_len]; omega))
        have HTS := Lib.hid (take_snoc q k (by omega))
        go_wp2
        go_round
        case rel => exact ⟨k + 1, by omega, by go_num, by rw [HO.out]; exact congrArg (fun l => Value.int .u64 ((numL l : Nat) : Int)) HTS.out.symm⟩
        case measure => simp [intOf]; omega
      · obtain rfl : k = q.size := by omega
        go_wp2
        go_ret
        exact ⟨⟨_, rfl⟩, q1⟩
  go_enter Try.func25, Try.ntmps25
  go_wp2_with (go_at_call 38; refine (hlow _ h).mono ?_; rintro e w1 ⟨⟨v, rfl⟩, q1⟩)
  go_ret
  exact ⟨⟨_, rfl⟩, q1⟩

theorem mread_err (b : ByteArray) (k i t : Int) (bd : ByteArray) (E : Int) (hE : E ≠ 0) (hR : ∀ w, Calls Try.prog 23 #[.string b] w fun e w' => e = .returned (.tuple #[pageV k i t bd, .int .i64 E]) ∧ Below w.heap.size w w') (w : World) :
    Calls Try.prog 11 #[.string b] w fun e w' => e = .returned (.tuple #[m4 0 0 0 0, .int .i64 E]) ∧ Below w.heap.size w w' := by
  have R0 : Blk (w.alloc (.cells #[.int .i64 0, .int .i64 0, .int .i64 0, .int .i64 0] 23)) w.heap.size 23 #[.int .i64 0, .int .i64 0, .int .i64 0, .int .i64 0] := Blk.new _ _ _
  have hE' : (E != 0) = true := by simpa using hE
  clear hE
  go_enter Try.func11, Try.ntmps11
  go_wp2_with (first
    | (go_at_call 23; refine (hR _).mono ?_; rintro e w1 ⟨rfl, b1⟩; have R1 := (R0.below b1).alloc (.cells #[.int .i64 k, .int .i64 i, .int .i64 t, .string bd] 51); have rc1 := R1.cell; have rf1 := R1.free; have B1 : Below w.heap.size w w1 := below_of b1 ((Below.refl _ _).alloc (Nat.le_refl _) _) (by simp)))
  refine bodyPost_ret (v := .tuple #[m4 0 0 0 0, .int .i64 E]) (by rw [results_cell_tmp rfl]; go_simp) rfl ⟨rfl, ?_⟩
  repeat (refine Below.setCell ?_ (by exact Nat.le_refl _) _)
  exact B1.alloc B1.size _

set_option maxRecDepth 100000 in
set_option maxHeartbeats 4000000 in
theorem mread_bad (b : ByteArray) (k i t : Int) (L : List UInt8) (hL : L.length ≤ 232) (hR : ∀ w, Calls Try.prog 23 #[.string b] w fun e w' => e = .returned (.tuple #[pageV k i t (bs L), .int .i64 0]) ∧ Below w.heap.size w w')
    (h32 : 32 ≤ L.length) (S' : ByteArray) (E' : Int) (hY : ∀ w, Calls Try.prog 5 #[m4 (sgn (numL (L.take 8))) (sgn (numL ((L.drop 8).take 8))) (sgn (numL ((L.drop 16).take 8))) (sgn (numL ((L.drop 24).take 8)))] w fun e w' => e = .returned (.tuple #[.string S', .int .i64 E']) ∧ Below w.heap.size w w') (hE : (E' != 0) = true) (w : World) :
    Calls Try.prog 11 #[.string b] w fun e w' => e = .returned (.tuple #[m4 0 0 0 0, .int .i64 6]) ∧ Below w.heap.size w w' := by
  have R0 : Blk (w.alloc (.cells #[.int .i64 0, .int .i64 0, .int .i64 0, .int .i64 0] 23)) w.heap.size 23 #[.int .i64 0, .int .i64 0, .int .i64 0, .int .i64 0] := Blk.new _ _ _
  have hl2 : L.length ≤ 140737488355328 := by omega
  go_enter Try.func11, Try.ntmps11
  go_wp2_with (first
    | (go_at_call 23; refine (hR _).mono ?_; rintro e w1 ⟨rfl, b1⟩; have R1 := (R0.below b1).alloc (.cells #[.int .i64 k, .int .i64 i, .int .i64 t, str L] 51); have B1 : Below w.heap.size w w1 := below_of b1 ((Below.refl _ _).alloc (Nat.le_refl _) _) (by simp); have B1a := B1.alloc B1.size (.cells #[.int .i64 k, .int .i64 i, .int .i64 t, str L] 51))
    | (go_at_call 24; refine (from_at _ _ (w1.heap.size + 1) (by simp)).mono ?_; rintro e w2 ⟨rfl, G2, b2⟩; have R2 := R1.below b2; have B2 := below_of b2 B1a B1a.size; have hRg : ¬ at1 (w1.heap.size + 1) w.heap.size := (by have := B1.size; unfold at1; omega); have hgw : w.heap.size ≤ w1.heap.size + 1 := (by have := B1.size; omega))
    | (go_at_call 25; with_reducible refine (gint_d _ L 0 _ G2 (Nat.le_trans (by decide) h32) hl2).mono ?_; rintro e w3 ⟨rfl, G3, f3⟩; have B3 := frm_below B2 f3 hgw (Nat.le_refl _); have hPg : ¬ at1 (w1.heap.size + 1) w3.heap.size := (by have := G3.lt; unfold at1; omega); have A3 := G3.alloc (.cells #[.int .i64 (sgn (numL (L.take 8))), .int .i64 0, .int .i64 0, .int .i64 0] 23); have B3a := B3.alloc B3.size (.cells #[.int .i64 (sgn (numL (L.take 8))), .int .i64 0, .int .i64 0, .int .i64 0] 23); have R3 := (R2.frm f3 hRg).alloc (.cells #[.int .i64 (sgn (numL (L.take 8))), .int .i64 0, .int .i64 0, .int .i64 0] 23); have P3 : Blk (w3.alloc (.cells #[.int .i64 (sgn (numL (L.take 8))), .int .i64 0, .int .i64 0, .int .i64 0] 23)) w3.heap.size 23 #[.int .i64 (sgn (numL (L.take 8))), .int .i64 0, .int .i64 0, .int .i64 0] := Blk.new _ _ _)
    | (go_at_call 25; with_reducible refine (gint_d _ L 8 _ A3 (Nat.le_trans (by decide) h32) hl2).mono ?_; rintro e w4 ⟨rfl, G4, f4⟩; have B4 := frm_below B3a f4 hgw (Nat.le_refl _); have R4 := R3.frm f4 hRg; have P4 := P3.frm f4 hPg)
    | (go_at_call 25; with_reducible refine (gint_d _ L 16 _ G4 (Nat.le_trans (by decide) h32) hl2).mono ?_; rintro e w5 ⟨rfl, G5, f5⟩; have B5 := frm_below B4 f5 hgw (Nat.le_refl _); have R5 := R4.frm f5 hRg; have P5 := P4.frm f5 hPg)
    | (go_at_call 25; with_reducible refine (gint_d _ L 24 _ G5 (Nat.le_trans (by decide) h32) hl2).mono ?_; rintro e w6 ⟨rfl, G6, f6⟩; have B6 := frm_below B5 f6 hgw (Nat.le_refl _); have R6 := R5.frm f6 hRg; have P6 := P5.frm f6 hPg; have pc6 := P6.cell; have pf6 := P6.free; have hRP : w.heap.size ≠ w3.heap.size := (by have := R2.lt; have := f3.size; omega); have RA := ((R6.far (p := ⟨w3.heap.size, 1, none⟩) hRP (.int .i64 (sgn (numL ((L.drop 8).take 8))))).far (p := ⟨w3.heap.size, 2, none⟩) hRP (.int .i64 (sgn (numL ((L.drop 16).take 8))))).far (p := ⟨w3.heap.size, 3, none⟩) hRP (.int .i64 (sgn (numL ((L.drop 24).take 8)))); have PA := ((P6.set_ 1 (.int .i64 (sgn (numL ((L.drop 8).take 8))))).set_ 2 (.int .i64 (sgn (numL ((L.drop 16).take 8))))).set_ 3 (.int .i64 (sgn (numL ((L.drop 24).take 8)))); have BA := ((B6.setCell (p := ⟨w3.heap.size, 1, none⟩) B3.size (.int .i64 (sgn (numL ((L.drop 8).take 8))))).setCell (p := ⟨w3.heap.size, 2, none⟩) B3.size (.int .i64 (sgn (numL ((L.drop 16).take 8))))).setCell (p := ⟨w3.heap.size, 3, none⟩) B3.size (.int .i64 (sgn (numL ((L.drop 24).take 8)))))
    | (go_at_call 5; refine (hY _).mono ?_; rintro e w7 ⟨rfl, b7⟩; have B7 := below_of b7 BA BA.size; have R7 := RA.below b7; have P7 := PA.below b7; have pc7 := P7.cell; have rc7 := R7.cell; have rf7 := R7.free))
  refine bodyPost_ret (v := .tuple #[m4 0 0 0 0, .int .i64 6]) (by rw [results_cell_tmp rfl]; go_simp) rfl ⟨rfl, ?_⟩
  repeat (refine Below.setCell ?_ (by exact Nat.le_refl _) _)
  exact B7

set_option maxRecDepth 100000 in
set_option maxHeartbeats 4000000 in
theorem mread_other (b : ByteArray) (k i t : Int) (L : List UInt8) (hL : L.length ≤ 232) (hR : ∀ w, Calls Try.prog 23 #[.string b] w fun e w' => e = .returned (.tuple #[pageV k i t (bs L), .int .i64 0]) ∧ Below w.heap.size w w')
    (h32 : 32 ≤ L.length) (S' : ByteArray) (E' : Int) (hY : ∀ w, Calls Try.prog 5 #[m4 (sgn (numL (L.take 8))) (sgn (numL ((L.drop 8).take 8))) (sgn (numL ((L.drop 16).take 8))) (sgn (numL ((L.drop 24).take 8)))] w fun e w' => e = .returned (.tuple #[.string S', .int .i64 E']) ∧ Below w.heap.size w w') (hE : E' = 0) (hS : (S'.toList == b.toList) = false) (w : World) :
    Calls Try.prog 11 #[.string b] w fun e w' => e = .returned (.tuple #[m4 0 0 0 0, .int .i64 6]) ∧ Below w.heap.size w w' := by
  have R0 : Blk (w.alloc (.cells #[.int .i64 0, .int .i64 0, .int .i64 0, .int .i64 0] 23)) w.heap.size 23 #[.int .i64 0, .int .i64 0, .int .i64 0, .int .i64 0] := Blk.new _ _ _
  have hl2 : L.length ≤ 140737488355328 := by omega
  subst hE
  go_enter Try.func11, Try.ntmps11
  go_wp2_with (first
    | (go_at_call 23; refine (hR _).mono ?_; rintro e w1 ⟨rfl, b1⟩; have R1 := (R0.below b1).alloc (.cells #[.int .i64 k, .int .i64 i, .int .i64 t, str L] 51); have B1 : Below w.heap.size w w1 := below_of b1 ((Below.refl _ _).alloc (Nat.le_refl _) _) (by simp); have B1a := B1.alloc B1.size (.cells #[.int .i64 k, .int .i64 i, .int .i64 t, str L] 51))
    | (go_at_call 24; refine (from_at _ _ (w1.heap.size + 1) (by simp)).mono ?_; rintro e w2 ⟨rfl, G2, b2⟩; have R2 := R1.below b2; have B2 := below_of b2 B1a B1a.size; have hRg : ¬ at1 (w1.heap.size + 1) w.heap.size := (by have := B1.size; unfold at1; omega); have hgw : w.heap.size ≤ w1.heap.size + 1 := (by have := B1.size; omega))
    | (go_at_call 25; with_reducible refine (gint_d _ L 0 _ G2 (Nat.le_trans (by decide) h32) hl2).mono ?_; rintro e w3 ⟨rfl, G3, f3⟩; have B3 := frm_below B2 f3 hgw (Nat.le_refl _); have hPg : ¬ at1 (w1.heap.size + 1) w3.heap.size := (by have := G3.lt; unfold at1; omega); have A3 := G3.alloc (.cells #[.int .i64 (sgn (numL (L.take 8))), .int .i64 0, .int .i64 0, .int .i64 0] 23); have B3a := B3.alloc B3.size (.cells #[.int .i64 (sgn (numL (L.take 8))), .int .i64 0, .int .i64 0, .int .i64 0] 23); have R3 := (R2.frm f3 hRg).alloc (.cells #[.int .i64 (sgn (numL (L.take 8))), .int .i64 0, .int .i64 0, .int .i64 0] 23); have P3 : Blk (w3.alloc (.cells #[.int .i64 (sgn (numL (L.take 8))), .int .i64 0, .int .i64 0, .int .i64 0] 23)) w3.heap.size 23 #[.int .i64 (sgn (numL (L.take 8))), .int .i64 0, .int .i64 0, .int .i64 0] := Blk.new _ _ _)
    | (go_at_call 25; with_reducible refine (gint_d _ L 8 _ A3 (Nat.le_trans (by decide) h32) hl2).mono ?_; rintro e w4 ⟨rfl, G4, f4⟩; have B4 := frm_below B3a f4 hgw (Nat.le_refl _); have R4 := R3.frm f4 hRg; have P4 := P3.frm f4 hPg)
    | (go_at_call 25; with_reducible refine (gint_d _ L 16 _ G4 (Nat.le_trans (by decide) h32) hl2).mono ?_; rintro e w5 ⟨rfl, G5, f5⟩; have B5 := frm_below B4 f5 hgw (Nat.le_refl _); have R5 := R4.frm f5 hRg; have P5 := P4.frm f5 hPg)
    | (go_at_call 25; with_reducible refine (gint_d _ L 24 _ G5 (Nat.le_trans (by decide) h32) hl2).mono ?_; rintro e w6 ⟨rfl, G6, f6⟩; have B6 := frm_below B5 f6 hgw (Nat.le_refl _); have R6 := R5.frm f6 hRg; have P6 := P5.frm f6 hPg; have pc6 := P6.cell; have pf6 := P6.free; have hRP : w.heap.size ≠ w3.heap.size := (by have := R2.lt; have := f3.size; omega); have RA := ((R6.far (p := ⟨w3.heap.size, 1, none⟩) hRP (.int .i64 (sgn (numL ((L.drop 8).take 8))))).far (p := ⟨w3.heap.size, 2, none⟩) hRP (.int .i64 (sgn (numL ((L.drop 16).take 8))))).far (p := ⟨w3.heap.size, 3, none⟩) hRP (.int .i64 (sgn (numL ((L.drop 24).take 8)))); have PA := ((P6.set_ 1 (.int .i64 (sgn (numL ((L.drop 8).take 8))))).set_ 2 (.int .i64 (sgn (numL ((L.drop 16).take 8))))).set_ 3 (.int .i64 (sgn (numL ((L.drop 24).take 8)))); have BA := ((B6.setCell (p := ⟨w3.heap.size, 1, none⟩) B3.size (.int .i64 (sgn (numL ((L.drop 8).take 8))))).setCell (p := ⟨w3.heap.size, 2, none⟩) B3.size (.int .i64 (sgn (numL ((L.drop 16).take 8))))).setCell (p := ⟨w3.heap.size, 3, none⟩) B3.size (.int .i64 (sgn (numL ((L.drop 24).take 8)))))
    | (go_at_call 5; refine (hY _).mono ?_; rintro e w7 ⟨rfl, b7⟩; have B7 := below_of b7 BA BA.size; have R7 := RA.below b7; have P7 := PA.below b7; have pc7 := P7.cell; have rc7 := R7.cell; have rf7 := R7.free))
  refine bodyPost_ret (v := .tuple #[m4 0 0 0 0, .int .i64 6]) (by rw [results_cell_tmp rfl]; go_simp) rfl ⟨rfl, ?_⟩
  repeat (refine Below.setCell ?_ (by exact Nat.le_refl _) _)
  exact B7

set_option maxRecDepth 100000 in
set_option maxHeartbeats 4000000 in
theorem mread_fine (b : ByteArray) (k i t : Int) (L : List UInt8) (hL : L.length ≤ 232) (hR : ∀ w, Calls Try.prog 23 #[.string b] w fun e w' => e = .returned (.tuple #[pageV k i t (bs L), .int .i64 0]) ∧ Below w.heap.size w w')
    (h32 : 32 ≤ L.length) (S' : ByteArray) (E' : Int) (hY : ∀ w, Calls Try.prog 5 #[m4 (sgn (numL (L.take 8))) (sgn (numL ((L.drop 8).take 8))) (sgn (numL ((L.drop 16).take 8))) (sgn (numL ((L.drop 24).take 8)))] w fun e w' => e = .returned (.tuple #[.string S', .int .i64 E']) ∧ Below w.heap.size w w') (hE : E' = 0) (hS : (S'.toList == b.toList) = true) (w : World) :
    Calls Try.prog 11 #[.string b] w fun e w' => e = .returned (.tuple #[m4 (sgn (numL (L.take 8))) (sgn (numL ((L.drop 8).take 8))) (sgn (numL ((L.drop 16).take 8))) (sgn (numL ((L.drop 24).take 8))), .int .i64 0]) ∧ Below w.heap.size w w' := by
  have R0 : Blk (w.alloc (.cells #[.int .i64 0, .int .i64 0, .int .i64 0, .int .i64 0] 23)) w.heap.size 23 #[.int .i64 0, .int .i64 0, .int .i64 0, .int .i64 0] := Blk.new _ _ _
  have hl2 : L.length ≤ 140737488355328 := by omega
  subst hE
  go_enter Try.func11, Try.ntmps11
  go_wp2_with (first
    | (go_at_call 23; refine (hR _).mono ?_; rintro e w1 ⟨rfl, b1⟩; have R1 := (R0.below b1).alloc (.cells #[.int .i64 k, .int .i64 i, .int .i64 t, str L] 51); have B1 : Below w.heap.size w w1 := below_of b1 ((Below.refl _ _).alloc (Nat.le_refl _) _) (by simp); have B1a := B1.alloc B1.size (.cells #[.int .i64 k, .int .i64 i, .int .i64 t, str L] 51))
    | (go_at_call 24; refine (from_at _ _ (w1.heap.size + 1) (by simp)).mono ?_; rintro e w2 ⟨rfl, G2, b2⟩; have R2 := R1.below b2; have B2 := below_of b2 B1a B1a.size; have hRg : ¬ at1 (w1.heap.size + 1) w.heap.size := (by have := B1.size; unfold at1; omega); have hgw : w.heap.size ≤ w1.heap.size + 1 := (by have := B1.size; omega))
    | (go_at_call 25; with_reducible refine (gint_d _ L 0 _ G2 (Nat.le_trans (by decide) h32) hl2).mono ?_; rintro e w3 ⟨rfl, G3, f3⟩; have B3 := frm_below B2 f3 hgw (Nat.le_refl _); have hPg : ¬ at1 (w1.heap.size + 1) w3.heap.size := (by have := G3.lt; unfold at1; omega); have A3 := G3.alloc (.cells #[.int .i64 (sgn (numL (L.take 8))), .int .i64 0, .int .i64 0, .int .i64 0] 23); have B3a := B3.alloc B3.size (.cells #[.int .i64 (sgn (numL (L.take 8))), .int .i64 0, .int .i64 0, .int .i64 0] 23); have R3 := (R2.frm f3 hRg).alloc (.cells #[.int .i64 (sgn (numL (L.take 8))), .int .i64 0, .int .i64 0, .int .i64 0] 23); have P3 : Blk (w3.alloc (.cells #[.int .i64 (sgn (numL (L.take 8))), .int .i64 0, .int .i64 0, .int .i64 0] 23)) w3.heap.size 23 #[.int .i64 (sgn (numL (L.take 8))), .int .i64 0, .int .i64 0, .int .i64 0] := Blk.new _ _ _)
    | (go_at_call 25; with_reducible refine (gint_d _ L 8 _ A3 (Nat.le_trans (by decide) h32) hl2).mono ?_; rintro e w4 ⟨rfl, G4, f4⟩; have B4 := frm_below B3a f4 hgw (Nat.le_refl _); have R4 := R3.frm f4 hRg; have P4 := P3.frm f4 hPg)
    | (go_at_call 25; with_reducible refine (gint_d _ L 16 _ G4 (Nat.le_trans (by decide) h32) hl2).mono ?_; rintro e w5 ⟨rfl, G5, f5⟩; have B5 := frm_below B4 f5 hgw (Nat.le_refl _); have R5 := R4.frm f5 hRg; have P5 := P4.frm f5 hPg)
    | (go_at_call 25; with_reducible refine (gint_d _ L 24 _ G5 (Nat.le_trans (by decide) h32) hl2).mono ?_; rintro e w6 ⟨rfl, G6, f6⟩; have B6 := frm_below B5 f6 hgw (Nat.le_refl _); have R6 := R5.frm f6 hRg; have P6 := P5.frm f6 hPg; have pc6 := P6.cell; have pf6 := P6.free; have hRP : w.heap.size ≠ w3.heap.size := (by have := R2.lt; have := f3.size; omega); have RA := ((R6.far (p := ⟨w3.heap.size, 1, none⟩) hRP (.int .i64 (sgn (numL ((L.drop 8).take 8))))).far (p := ⟨w3.heap.size, 2, none⟩) hRP (.int .i64 (sgn (numL ((L.drop 16).take 8))))).far (p := ⟨w3.heap.size, 3, none⟩) hRP (.int .i64 (sgn (numL ((L.drop 24).take 8)))); have PA := ((P6.set_ 1 (.int .i64 (sgn (numL ((L.drop 8).take 8))))).set_ 2 (.int .i64 (sgn (numL ((L.drop 16).take 8))))).set_ 3 (.int .i64 (sgn (numL ((L.drop 24).take 8)))); have BA := ((B6.setCell (p := ⟨w3.heap.size, 1, none⟩) B3.size (.int .i64 (sgn (numL ((L.drop 8).take 8))))).setCell (p := ⟨w3.heap.size, 2, none⟩) B3.size (.int .i64 (sgn (numL ((L.drop 16).take 8))))).setCell (p := ⟨w3.heap.size, 3, none⟩) B3.size (.int .i64 (sgn (numL ((L.drop 24).take 8)))))
    | (go_at_call 5; refine (hY _).mono ?_; rintro e w7 ⟨rfl, b7⟩; have B7 := below_of b7 BA BA.size; have R7 := RA.below b7; have P7 := PA.below b7; have pc7 := P7.cell; have rc7 := R7.cell; have rf7 := R7.free))
  refine bodyPost_ret (v := .tuple #[m4 (sgn (numL (L.take 8))) (sgn (numL ((L.drop 8).take 8))) (sgn (numL ((L.drop 16).take 8))) (sgn (numL ((L.drop 24).take 8))), .int .i64 0]) (by rw [results_cell_tmp rfl]; go_simp) rfl ⟨rfl, ?_⟩
  repeat (refine Below.setCell ?_ (by exact Nat.le_refl _) _)
  exact B7

set_option maxRecDepth 100000 in
set_option maxHeartbeats 4000000 in
theorem mread_short (b : ByteArray) (k i t : Int) (L : List UInt8) (hL : L.length ≤ 232) (hR : ∀ w, Calls Try.prog 23 #[.string b] w fun e w' => e = .returned (.tuple #[pageV k i t (bs L), .int .i64 0]) ∧ Below w.heap.size w w')
    (hY : ∀ a r f p w, Calls Try.prog 5 #[m4 a r f p] w fun e w' => (∃ (S' : ByteArray) (E' : Int), ((E' != 0) = true ∨ E' = 0 ∧ (S'.toList == b.toList) = false) ∧ e = .returned (.tuple #[.string S', .int .i64 E'])) ∧ Below w.heap.size w w') (w : World) :
    Calls Try.prog 11 #[.string b] w fun e w' => e = .returned (.tuple #[m4 0 0 0 0, .int .i64 6]) ∧ Below w.heap.size w w' := by
  have R0 : Blk (w.alloc (.cells #[.int .i64 0, .int .i64 0, .int .i64 0, .int .i64 0] 23)) w.heap.size 23 #[.int .i64 0, .int .i64 0, .int .i64 0, .int .i64 0] := Blk.new _ _ _
  go_enter Try.func11, Try.ntmps11
  go_wp2_with (first
    | (go_at_call 23; refine (hR _).mono ?_; rintro e w1 ⟨rfl, b1⟩; have R1 := (R0.below b1).alloc (.cells #[.int .i64 k, .int .i64 i, .int .i64 t, str L] 51); have B1 : Below w.heap.size w w1 := below_of b1 ((Below.refl _ _).alloc (Nat.le_refl _) _) (by simp); have B1a := B1.alloc B1.size (.cells #[.int .i64 k, .int .i64 i, .int .i64 t, str L] 51))
    | (go_at_call 24; refine (from_at _ _ (w1.heap.size + 1) (by simp)).mono ?_; rintro e w2 ⟨rfl, G2, b2⟩; have R2 := R1.below b2; have B2 := below_of b2 B1a B1a.size; have hRg : ¬ at1 (w1.heap.size + 1) w.heap.size := (by have := B1.size; unfold at1; omega); have hgw : w.heap.size ≤ w1.heap.size + 1 := (by have := B1.size; omega); have G2 : GetG w2 (w1.heap.size + 1) := ⟨_, _, (by rw [bs_size]; omega), G2⟩)
    | (go_at_call 25; with_reducible refine (gint_gen _ _ G2).mono ?_; rintro e w3 ⟨⟨x1, rfl⟩, G3, f3⟩; have B3 := frm_below B2 f3 hgw (Nat.le_refl _); have hPg : ¬ at1 (w1.heap.size + 1) w3.heap.size := (by have := G3.lt; unfold at1; omega); have A3 := G3.alloc (.cells #[.int .i64 x1, .int .i64 0, .int .i64 0, .int .i64 0] 23); have B3a := B3.alloc B3.size (.cells #[.int .i64 x1, .int .i64 0, .int .i64 0, .int .i64 0] 23); have R3 := (R2.frm f3 hRg).alloc (.cells #[.int .i64 x1, .int .i64 0, .int .i64 0, .int .i64 0] 23); have P3 : Blk (w3.alloc (.cells #[.int .i64 x1, .int .i64 0, .int .i64 0, .int .i64 0] 23)) w3.heap.size 23 #[.int .i64 x1, .int .i64 0, .int .i64 0, .int .i64 0] := Blk.new _ _ _)
    | (go_at_call 25; with_reducible refine (gint_gen _ _ A3).mono ?_; rintro e w4 ⟨⟨x2, rfl⟩, G4, f4⟩; have B4 := frm_below B3a f4 hgw (Nat.le_refl _); have R4 := R3.frm f4 hRg; have P4 := P3.frm f4 hPg)
    | (go_at_call 25; with_reducible refine (gint_gen _ _ G4).mono ?_; rintro e w5 ⟨⟨x3, rfl⟩, G5, f5⟩; have B5 := frm_below B4 f5 hgw (Nat.le_refl _); have R5 := R4.frm f5 hRg; have P5 := P4.frm f5 hPg)
    | (go_at_call 25; with_reducible refine (gint_gen _ _ G5).mono ?_; rintro e w6 ⟨⟨x4, rfl⟩, G6, f6⟩; have B6 := frm_below B5 f6 hgw (Nat.le_refl _); have R6 := R5.frm f6 hRg; have P6 := P5.frm f6 hPg; have pc6 := P6.cell; have pf6 := P6.free; have hRP : w.heap.size ≠ w3.heap.size := (by have := R2.lt; have := f3.size; omega); have RA := ((R6.far (p := ⟨w3.heap.size, 1, none⟩) hRP (.int .i64 x2)).far (p := ⟨w3.heap.size, 2, none⟩) hRP (.int .i64 x3)).far (p := ⟨w3.heap.size, 3, none⟩) hRP (.int .i64 x4); have PA := ((P6.set_ 1 (.int .i64 x2)).set_ 2 (.int .i64 x3)).set_ 3 (.int .i64 x4); have BA := ((B6.setCell (p := ⟨w3.heap.size, 1, none⟩) B3.size (.int .i64 x2)).setCell (p := ⟨w3.heap.size, 2, none⟩) B3.size (.int .i64 x3)).setCell (p := ⟨w3.heap.size, 3, none⟩) B3.size (.int .i64 x4))
    | (go_at_call 5; refine (hY _ _ _ _ _).mono ?_; rintro e w7 ⟨⟨S', E', hcase, rfl⟩, b7⟩; have B7 := below_of b7 BA BA.size; have R7 := RA.below b7; have P7 := PA.below b7; have pc7 := P7.cell; have rc7 := R7.cell; have rf7 := R7.free; rcases hcase with hq | ⟨rfl, hq⟩))
  all_goals
    refine bodyPost_ret (v := .tuple #[m4 0 0 0 0, .int .i64 6]) (by rw [results_cell_tmp rfl]; go_simp) rfl ⟨rfl, ?_⟩
    repeat (refine Below.setCell ?_ (by exact Nat.le_refl _) _)
    exact B7
end Go.Proofs.Ytkenhcgdnbgnpaa
