/-
  What the document's ReadMeta gives of bytes. Condition: bytes no longer than memory holds.
-/
import Derived.Test.YtkenhcgdnbgnpaaMetaRef
import Derived.Laws.ResultCell
namespace Go.Proofs.Ytkenhcgdnbgnpaa
open Go Go.RowKit
attribute [local go_sem] cell_set_if

theorem cell_bm {w w' : World} {p : Addr} {v : Value} (hb : Below w.heap.size w w') (h : w.cell? p = some v) : w'.cell? p = some v := (hb.cell (block_lt_of_cell h)).trans h

theorem refmread_err (b : ByteArray) (pv : Value) (k i t : Int) (bd : ByteArray) (E : Int) (hE : E ≠ 0) (hR : ∀ w, Calls Try.prog 26 #[.string b] w fun e w' => e = .returned (.tuple #[pageV k i t bd, .int .i64 E]) ∧ Below w.heap.size w w') (w : World) :
    Calls Try.prog 12 #[.string b] w fun e w' => e = .returned (.tuple #[m4 0 0 0 0, .int .i64 E]) ∧ Below w.heap.size w w' := by
  have R0 : Blk (w.alloc (.cells #[.int .i64 0, .int .i64 0, .int .i64 0, .int .i64 0] 29)) w.heap.size 29 #[.int .i64 0, .int .i64 0, .int .i64 0, .int .i64 0] := Blk.new _ _ _
  have hE' : (E == 0) = false := by simpa using hE
  go_enter Try.func12, Try.ntmps12
  go_wp2_with (go_at_call 26; refine (hR _).mono ?_; rintro e w1 ⟨rfl, b1⟩; have B1 : Below w.heap.size w w1 := below_of b1 ((Below.refl _ _).alloc (Nat.le_refl _) _) (by simp); have B1a := B1.alloc B1.size (.cells #[.int .i64 k, .int .i64 i, .int .i64 t, .string bd] 51); have R1 := (R0.below b1).alloc (.cells #[.int .i64 k, .int .i64 i, .int .i64 t, .string bd] 51); have rc1 := R1.cell; have rf1 := R1.free)
  refine bodyPost_ret (v := .tuple #[m4 0 0 0 0, .int .i64 E]) (by rw [results_cell_tmp rfl]; go_simp) rfl ⟨rfl, ?_⟩
  repeat (refine Below.setCell ?_ (by exact Nat.le_refl _) _)
  exact B1a
theorem refmread_short (b : ByteArray) (k i t : Int) (D : ByteArray) (hD : D.size ≠ 32) (hR : ∀ w, Calls Try.prog 26 #[.string b] w fun e w' => e = .returned (.tuple #[pageV k i t D, .int .i64 0]) ∧ Below w.heap.size w w') (w : World) :
    Calls Try.prog 12 #[.string b] w fun e w' => e = .returned (.tuple #[m4 0 0 0 0, .int .i64 6]) ∧ Below w.heap.size w w' := by
  have R0 : Blk (w.alloc (.cells #[.int .i64 0, .int .i64 0, .int .i64 0, .int .i64 0] 29)) w.heap.size 29 #[.int .i64 0, .int .i64 0, .int .i64 0, .int .i64 0] := Blk.new _ _ _
  have hE' : ((D.size : Int) == 32) = false := by simp; omega
  go_enter Try.func12, Try.ntmps12
  go_wp2_with (go_at_call 26; refine (hR _).mono ?_; rintro e w1 ⟨rfl, b1⟩; have B1 : Below w.heap.size w w1 := below_of b1 ((Below.refl _ _).alloc (Nat.le_refl _) _) (by simp); have B1a := B1.alloc B1.size (.cells #[.int .i64 k, .int .i64 i, .int .i64 t, .string D] 51); have R1 := (R0.below b1).alloc (.cells #[.int .i64 k, .int .i64 i, .int .i64 t, .string D] 51); have rc1 := R1.cell; have rf1 := R1.free)
  refine bodyPost_ret (v := .tuple #[m4 0 0 0 0, .int .i64 6]) (by rw [results_cell_tmp rfl]; go_simp) rfl ⟨rfl, ?_⟩
  repeat (refine Below.setCell ?_ (by exact Nat.le_refl _) _)
  exact B1a
set_option maxRecDepth 100000 in
set_option maxHeartbeats 4000000 in
theorem refmread_rest (b : ByteArray) (k i t : Int) (D : ByteArray) (hD : D.size = 32) (hR : ∀ w, Calls Try.prog 26 #[.string b] w fun e w' => e = .returned (.tuple #[pageV k i t D, .int .i64 0]) ∧ Below w.heap.size w w')
    (x1 x2 x3 x4 : Int) (e1 : x1 = sgn (numL ((bts D).take 8))) (e2 : x2 = sgn (numL (((bts D).drop 8).take 8))) (e3 : x3 = sgn (numL (((bts D).drop 16).take 8))) (e4 : x4 = sgn (numL (((bts D).drop 24).take 8)))
    (ok same : Bool) (hV : ∀ w, Calls Try.prog 6 #[m4 x1 x2 x3 x4] w fun e w' => e = .returned (.bool ok) ∧ Below w.heap.size w w')
    (hY : ok = true → ∃ S : ByteArray, (S.toList == b.toList) = same ∧ ∀ w, Calls Try.prog 9 #[m4 x1 x2 x3 x4] w fun e w' => e = .returned (.string S) ∧ Below w.heap.size w w') (w : World) :
    Calls Try.prog 12 #[.string b] w fun e w' => e = .returned (.tuple #[if (ok && same) = true then m4 x1 x2 x3 x4 else m4 0 0 0 0, .int .i64 (if (ok && same) = true then 0 else 6)]) ∧ Below w.heap.size w w' := by
  have R0 : Blk (w.alloc (.cells #[.int .i64 0, .int .i64 0, .int .i64 0, .int .i64 0] 29)) w.heap.size 29 #[.int .i64 0, .int .i64 0, .int .i64 0, .int .i64 0] := Blk.new _ _ _
  obtain ⟨X1, hX1⟩ : ∃ X, D.extract 0 8 = X := ⟨_, rfl⟩
  obtain ⟨X2, hX2⟩ : ∃ X, D.extract 8 16 = X := ⟨_, rfl⟩
  obtain ⟨X3, hX3⟩ : ∃ X, D.extract 16 24 = X := ⟨_, rfl⟩
  obtain ⟨X4, hX4⟩ : ∃ X, D.extract 24 32 = X := ⟨_, rfl⟩
  have hx4 : D.extract 24 D.size = X4 := by rw [hD]; exact hX4
  obtain ⟨n1, m1⟩ : ∃ n, n = numL (bts X1) := ⟨_, rfl⟩
  obtain ⟨n2, m2⟩ : ∃ n, n = numL (bts X2) := ⟨_, rfl⟩
  obtain ⟨n3, m3⟩ : ∃ n, n = numL (bts X3) := ⟨_, rfl⟩
  obtain ⟨n4, m4'⟩ : ∃ n, n = numL (bts X4) := ⟨_, rfl⟩
  have hN1 := fun w => refnum_any X1 w (by rw [← hX1, ByteArray.size_extract]; omega)
  have hN2 := fun w => refnum_any X2 w (by rw [← hX2, ByteArray.size_extract]; omega)
  have hN3 := fun w => refnum_any X3 w (by rw [← hX3, ByteArray.size_extract]; omega)
  have hN4 := fun w => refnum_any X4 w (by rw [← hX4, ByteArray.size_extract]; omega)
  rw [← m1] at hN1
  rw [← m2] at hN2
  rw [← m3] at hN3
  rw [← m4'] at hN4
  have wr : ∀ n : Nat, IntKind.i64.wrap (n : Int) = sgn n := fun n => by unfold sgn wrap64; rw [IntKind.wrap_i64]
  have y1 : IntKind.i64.wrap (n1 : Int) = x1 := by rw [wr, e1, m1, ← hX1, bts_extract]; rfl
  have y2 : IntKind.i64.wrap (n2 : Int) = x2 := by rw [wr, e2, m2, ← hX2, bts_extract, List.drop_take]
  have y3 : IntKind.i64.wrap (n3 : Int) = x3 := by rw [wr, e3, m3, ← hX3, bts_extract, List.drop_take]
  have y4 : IntKind.i64.wrap (n4 : Int) = x4 := by rw [wr, e4, m4', ← hX4, bts_extract, List.drop_take]
  have hD32 : (D.size : Int) = 32 := by omega
  clear e1 e2 e3 e4 m1 m2 m3 m4' wr hD
  go_enter Try.func12, Try.ntmps12
  go_wp2_with (go_at_call 26; refine (hR _).mono ?_; rintro e w1 ⟨rfl, b1⟩; have B1 : Below w.heap.size w w1 := below_of b1 ((Below.refl _ _).alloc (Nat.le_refl _) _) (by simp); have B1a := B1.alloc B1.size (.cells #[.int .i64 k, .int .i64 i, .int .i64 t, .string D] 51); have R1 := (R0.below b1).alloc (.cells #[.int .i64 k, .int .i64 i, .int .i64 t, .string D] 51); have rc1 := R1.cell; have rf1 := R1.free)
  have P1 : (w1.alloc (.cells #[.int .i64 k, .int .i64 i, .int .i64 t, .string D] 51)).cell? ⟨w1.heap.size, 3, none⟩ = some (.string D) := by
    rw [(Blk.new w1 51 #[.int .i64 k, .int .i64 i, .int .i64 t, .string D]).cell 3]; rfl
  generalize w1.alloc (.cells #[.int .i64 k, .int .i64 i, .int .i64 t, .string D] 51) = W1 at *
  generalize w1.heap.size = pg at *
  go_cut [6] from 21 to 41 (fun u6 wx => u6 = .pointer (some ⟨W1.heap.size, 0, none⟩) ∧ wx = (W1.alloc (.cells #[.int .i64 x1, .int .i64 x2, .int .i64 x3, .int .i64 x4] 29)).drew)
  case first =>
    have A0 : W1.drew.cell? ⟨pg, 3, none⟩ = some (.string D) := P1
    have A1 : (W1.drew.alloc (.cells #[.int .i64 0, .int .i64 0, .int .i64 0, .int .i64 0] 29)).cell? ⟨pg, 3, none⟩ = some (.string D) := cell_bm ((Below.refl _ _).alloc (Nat.le_refl _) _) A0
    have A2 : (W1.drew.alloc (.cells #[.int .i64 x1, .int .i64 x2, .int .i64 x3, .int .i64 x4] 29)).cell? ⟨pg, 3, none⟩ = some (.string D) := cell_bm ((Below.refl _ _).alloc (Nat.le_refl _) _) A0
    go_region_held3 (fun W => W.cell? ⟨pg, 3, none⟩ = some (.string D)) (first | exact A0 | exact A1 | exact A2 | with_reducible assumption) (first
      | (go_at_call 27; with_reducible refine (hN1 _).mono ?_; rintro e w1 ⟨rfl, hw1⟩; subst hw1)
      | (go_at_call 27; with_reducible refine (hN2 _).mono ?_; rintro e w2 ⟨rfl, hw2⟩; subst hw2)
      | (go_at_call 27; with_reducible refine (hN3 _).mono ?_; rintro e w3 ⟨rfl, hw3⟩; subst hw3)
      | (go_at_call 27; with_reducible refine (hN4 _).mono ?_; rintro e w4 ⟨rfl, hw4⟩; subst hw4))
    all_goals (go_wp2_with fail; go_meet; exact ⟨rfl, rfl⟩)
  case rest =>
  obtain ⟨rfl, rfl⟩ := hcut
  have R2 := (R1.alloc (.cells #[.int .i64 x1, .int .i64 x2, .int .i64 x3, .int .i64 x4] 29)).drew
  have M2 := (Blk.new W1 29 #[.int .i64 x1, .int .i64 x2, .int .i64 x3, .int .i64 x4]).drew
  have B2 := (B1a.alloc B1a.size (.cells #[.int .i64 x1, .int .i64 x2, .int .i64 x3, .int .i64 x4] 29)).drew
  have hne : w.heap.size ≠ W1.heap.size := by have := R1.lt; omega
  generalize (W1.alloc (.cells #[.int .i64 x1, .int .i64 x2, .int .i64 x3, .int .i64 x4] 29)).drew = W2 at *
  generalize W1.heap.size = g at *
  have mc2 := M2.cell
  have rc2 := R2.cell
  have rf2 := R2.free
  clear hX1 hX2 hX3 hX4 hx4 hN1 hN2 hN3 hN4 y1 y2 y3 y4 hD32 rc1 rf1 R1 B1a P1
  cases ok
  · go_wp2_with (go_at_call 6; refine (hV _).mono ?_; rintro e w3 ⟨rfl, b3⟩; have R3 := R2.below b3; have rc3 := R3.cell; have rf3 := R3.free; have B3 := below_of b3 B2 B2.size)
    refine bodyPost_ret (v := .tuple #[m4 0 0 0 0, .int .i64 6]) (by rw [results_cell_tmp rfl]; go_simp) rfl ⟨rfl, ?_⟩
    repeat (refine Below.setCell ?_ (by exact Nat.le_refl _) _)
    exact B3
  · obtain ⟨S, hS, hL⟩ := hY rfl
    cases same
    · have hS' : (S.toList != b.toList) = true := by simp only [bne, hS]; rfl
      go_wp2_with (first
        | (go_at_call 6; refine (hV _).mono ?_; rintro e w3 ⟨rfl, b3⟩; have M3 := M2.below b3; have R3 := R2.below b3; have mc3 := M3.cell; have B3 := below_of b3 B2 B2.size)
        | (go_at_call 9; refine (hL _).mono ?_; rintro e w4 ⟨rfl, b4⟩; have R4 := R3.below b4; have rc4 := R4.cell; have rf4 := R4.free; have B4 := below_of b4 B3 B3.size))
      refine bodyPost_ret (v := .tuple #[m4 0 0 0 0, .int .i64 6]) (by rw [results_cell_tmp rfl]; go_simp) rfl ⟨rfl, ?_⟩
      repeat (refine Below.setCell ?_ (by exact Nat.le_refl _) _)
      exact B4
    · have hS' : (S.toList != b.toList) = false := by simp only [bne, hS]; rfl
      go_wp2_with (first
        | (go_at_call 6; refine (hV _).mono ?_; rintro e w3 ⟨rfl, b3⟩; have M3 := M2.below b3; have R3 := R2.below b3; have mc3 := M3.cell; have B3 := below_of b3 B2 B2.size)
        | (go_at_call 9; refine (hL _).mono ?_; rintro e w4 ⟨rfl, b4⟩; have M4 := M3.below b4; have mc4 := M4.cell; have R4 := R3.below b4; have rc4 := R4.cell; have rf4 := R4.free; have B4 := below_of b4 B3 B3.size))
      refine bodyPost_ret (v := .tuple #[m4 x1 x2 x3 x4, .int .i64 0]) (by rw [results_cell_tmp rfl]; go_simp) rfl ⟨rfl, ?_⟩
      repeat (refine Below.setCell ?_ (by exact Nat.le_refl _) _)
      exact B4
theorem refmread_any (b : ByteArray) (w : World) (hz : b.size ≤ 100000) :
    Calls Try.prog 12 #[.string b] w fun e w' => e = .returned (.tuple #[metaV (mReadM (bts b)), .int .i64 (errM (bts b))]) ∧ Below w.heap.size w w' := by
  unfold mReadM
  by_cases hs : b.size = 256
  · have hl : (bts b).length = 256 := by rw [bts_len]; exact hs
    by_cases he : errB (bts b) = 0
    · have hR : ∀ w, Calls Try.prog 26 #[.string b] w fun e w' => e = .returned (.tuple #[pageV (kindB (bts b)) (idB (bts b)) (txB (bts b)) (bs (bodyB (bts b))), .int .i64 0]) ∧ Below w.heap.size w w' := fun w => by
        have := refread_any b w hs
        unfold readV at this
        rw [he, if_pos rfl] at this
        exact this
      by_cases h32 : (bodyB (bts b)).length = 32
      · obtain ⟨m, hm⟩ : ∃ m, m = mB (bts b) := ⟨_, rfl⟩
        have hm2 : m = mL (bodyB (bts b)) := hm
        have hrest := refmread_rest b _ _ _ (bs (bodyB (bts b))) (by rw [bs_size]; exact h32) hR m.tx m.ro m.fr m.pg (by rw [bts_bs, hm2]; rfl) (by rw [bts_bs, hm2]; rfl) (by rw [bts_bs, hm2]; rfl) (by rw [bts_bs, hm2]; rfl)
          (decide (okM m)) (decide (layM m = bts b)) (fun w => refmvalid_any _ _ _ _ w) (fun hok => by
            have hok := of_decide_eq_true hok
            refine ⟨bs (layM m), by rw [str_beq, bts_bs], fun w => ?_⟩
            obtain ⟨a, r, f, p, e⟩ := okM_nats hok
            subst e
            exact refmlay_any a r f p w hok) w
        have e : errM (bts b) = if (decide (okM m) && decide (layM m = bts b)) = true then 0 else 6 := by
          unfold errM
          rw [if_neg (by simp [hl]), if_neg (by simp [he]), ← hm]
          by_cases h1 : okM m <;> by_cases h2 : layM m = bts b <;> simp [h1, h2]
        rw [e, ← hm]
        by_cases hc : (decide (okM m) && decide (layM m = bts b)) = true
        · rw [if_pos hc, if_pos hc] at hrest
          rw [if_pos hc, if_pos rfl]; exact hrest
        · rw [if_neg hc, if_neg hc] at hrest
          rw [if_neg hc, if_neg (by decide)]; exact hrest
      · have e : errM (bts b) = 6 := by
          unfold errM
          rw [if_neg (by simp [hl]), if_neg (by simp [he]), if_neg]
          rintro ⟨h1, h2⟩
          have := bodyB_layM h1
          rw [h2] at this; exact h32 this
        rw [e, if_neg (by decide)]
        exact refmread_short b _ _ _ _ (by rw [bs_size]; exact h32) hR w
    · have e : errM (bts b) = errB (bts b) := by unfold errM; rw [if_neg (by simp [hl]), if_pos he]
      rw [e, if_neg he]
      refine refmread_err b (.int .i64 0) 0 0 0 ⟨#[]⟩ _ (by omega) (fun w => ?_) w
      have := refread_any b w hs
      unfold readV at this
      rw [if_neg he] at this
      exact this
  · have e : errM (bts b) = 5 := by unfold errM; rw [if_pos (by rw [bts_len]; exact hs)]
    rw [e, if_neg (by decide)]
    exact refmread_err b (.int .i64 0) 0 0 0 ⟨#[]⟩ 5 (by decide) (fun w => refread_len b w hs (by omega)) w
end Go.Proofs.Ytkenhcgdnbgnpaa
