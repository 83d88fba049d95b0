/-
  What page.Valid, page.Lay, page.Read and page.Front give, for every page and every bytes. Condition: a text no longer than memory holds.
-/
import Derived.Test.YtkgcihhpcbodnaaOne
import Derived.Laws.ResultCell
namespace Go.Proofs.Ytkgcihhpcbodnaa
open Go Go.RowKit
attribute [local go_sem] cell_set_if

set_option maxHeartbeats 1000000 in
theorem valid_any (k i t : Int) (bd : ByteArray) (w : World) (hz : bd.size ≤ 9223372036854775807) :
    Calls Try.prog 29 #[pageV k i t bd] w fun e w' => e = .returned (.bool (decide (okP k i t bd.size))) ∧ Below w.heap.size w w' := by
  have hc : okP k i t bd.size ∨ k < 1 ∨ (1 ≤ k ∧ 5 < k) ∨ (1 ≤ k ∧ k ≤ 5 ∧ i < 0) ∨ (1 ≤ k ∧ k ≤ 5 ∧ 0 ≤ i ∧ 4000 ≤ i) ∨ (1 ≤ k ∧ k ≤ 5 ∧ 0 ≤ i ∧ i < 4000 ∧ t < 0) ∨ (1 ≤ k ∧ k ≤ 5 ∧ 0 ≤ i ∧ i < 4000 ∧ 0 ≤ t ∧ 1099511627776 < t) ∨ (1 ≤ k ∧ k ≤ 5 ∧ 0 ≤ i ∧ i < 4000 ∧ 0 ≤ t ∧ t ≤ 1099511627776 ∧ (232 : Int) < (bd.size : Int)) := by
    unfold okP; omega
  rcases hc with h | h | ⟨h1, h2⟩ | ⟨h1, h2, h3⟩ | ⟨h1, h2, h3, h4⟩ | ⟨h1, h2, h3, h4, h5⟩ | ⟨h1, h2, h3, h4, h5, h6⟩ | ⟨h1, h2, h3, h4, h5, h6, h7⟩
  · rw [decide_eq_true h]
    obtain ⟨h1, h2, h3, h4, h5, h6, h7⟩ := h
    have h7' : (bd.size : Int) ≤ 232 := by omega
    go_enter Try.func29, Try.ntmps29
    go_wp2
    go_ret
    exact ⟨rfl, (Below.refl _ _).alloc (Nat.le_refl _) _⟩
  all_goals
    rw [decide_eq_false (p := okP k i t bd.size) (by unfold okP; omega)]
    go_enter Try.func29, Try.ntmps29
    go_wp2
    go_ret
    exact ⟨ret_bool (by first | rfl | (simp; omega)), (Below.refl _ _).alloc (Nat.le_refl _) _⟩

theorem okP_ok {k i t : Nat} {bd : ByteArray} : okP k i t bd.size ↔ (⟨k, i, t, bts bd⟩ : Pg).ok := by
  unfold okP Pg.ok; simp only [bts_len]; omega

theorem lay_ok (k i t : Nat) (bd : ByteArray) (w : World) (h : (⟨k, i, t, bts bd⟩ : Pg).ok) :
    Calls Try.prog 30 #[pageV k i t bd] w fun e w' => e = .returned (.tuple #[str (layL ⟨k, i, t, bts bd⟩), .int .i64 0]) ∧ Below w.heap.size w w' := by
  have hv := fun w => valid_any k i t bd w (by have := h.2.2.2.2; simp only [bts_len] at this; omega)
  rw [decide_eq_true (okP_ok.2 h)] at hv
  go_enter Try.func30, Try.ntmps30
  go_wp2_with (first
    | (go_at_call 29; refine (hv _).mono ?_; rintro e w1 ⟨rfl, b1⟩; have C1 := (below_cells b1).1)
    | (go_at_call 44; refine (play_any k i t bd _ h).mono ?_; rintro e w2 ⟨rfl, b2⟩))
  go_ret2
  exact ⟨rfl, below_of b2 (below_of b1 ((Below.refl _ _).alloc (Nat.le_refl _) _) (by simp)) (by have := b1.size; simp at this; omega)⟩
theorem lay_no (k i t : Int) (bd : ByteArray) (w : World) (hz : bd.size ≤ 9223372036854775807) (h : ¬ okP k i t bd.size) :
    Calls Try.prog 30 #[pageV k i t bd] w fun e w' => e = .returned (.tuple #[.string ⟨#[]⟩, .int .i64 1]) ∧ Below w.heap.size w w' := by
  have hv := fun w => valid_any k i t bd w hz
  rw [decide_eq_false h] at hv
  go_enter Try.func30, Try.ntmps30
  go_wp2_with (first
    | (go_at_call 29; refine (hv _).mono ?_; rintro e w1 ⟨rfl, b1⟩; have C1 := (below_cells b1).1))
  go_ret2
  exact ⟨rfl, below_of b1 ((Below.refl _ _).alloc (Nat.le_refl _) _) (by simp)⟩

/-- The number of eight bytes as an int. -/
def sgn (n : Nat) : Int := wrap64 n
theorem sgn_ok {n : Nat} (h : n < 9223372036854775808) : sgn n = n := by
  unfold sgn wrap64; omega
theorem sgn_neg {n : Nat} (h : 9223372036854775808 ≤ n) (h2 : n < 18446744073709551616) : sgn n < 0 := by
  unfold sgn wrap64; omega
theorem ok_sgn {k i t : Nat} {bd : ByteArray} (ht : t < 18446744073709551616) : okP k i (sgn t) bd.size ↔ (⟨k, i, t, bts bd⟩ : Pg).ok := by
  by_cases h : t < 9223372036854775808
  · rw [sgn_ok h]; exact okP_ok
  · have := sgn_neg (by omega) ht
    unfold okP Pg.ok; simp only [bts_len]; omega
/-- The page that is none. -/
abbrev noPage : Value := pageV 0 0 0 ⟨#[]⟩
/-- What Read answers to 256 bytes. -/
def readV (b : List UInt8) : Value := if errB b = 0 then pageV (kindB b) (idB b) (txB b) (bs (bodyB b)) else noPage

theorem read_len (b : ByteArray) (w : World) (hs : b.size ≠ 256) (hz : b.size ≤ 9223372036854775807) :
    Calls Try.prog 21 #[.string b] w fun e w' => e = .returned (.tuple #[noPage, .int .i64 5]) ∧ Below w.heap.size w w' := by
  have hq : ((b.size : Int) != 256) = true := by simp; omega
  go_enter Try.func21, Try.ntmps21
  go_wp2
  refine bodyPost_ret (v := .tuple #[noPage, .int .i64 5]) (by rw [results_cell_tmp rfl]; go_simp) rfl ?_
  exact ⟨rfl, (Below.refl _ _).alloc (Nat.le_refl _) _⟩

theorem frm_cells {S : Nat → Prop} {w w' : World} (h : Frm S w w') : (∀ b o, b < w.heap.size → ¬ S b → w'.cell? ⟨b, o, none⟩ = w.cell? ⟨b, o, none⟩) ∧ (∀ b o, b < w.heap.size → ¬ S b → w'.frozen? ⟨b, o, none⟩ = w.frozen? ⟨b, o, none⟩) :=
  ⟨fun b o hb hs => h.cell (p := ⟨b, o, none⟩) hb hs, fun b o hb hs => h.frozen (p := ⟨b, o, none⟩) hb hs⟩

theorem from_at (s : ByteArray) (w : World) (g : Nat) (hg : g = w.heap.size) :
    Calls Try.prog 38 #[.string s] w fun e w' => e = .returned (ptr g) ∧ GetAt w' g s ∧ Below w.heap.size w w' := by
  subst hg; exact from_any s w
theorem bs_drop (L : List UInt8) (k n : Nat) : (bs (L.drop k)).extract n (bs (L.drop k)).size = bs (L.drop (k + n)) := by
  apply bts_inj
  rw [bts_extract, bts_bs, bs_size, List.take_length, List.drop_drop]; rfl
theorem bs_take (L : List UInt8) (k n : Nat) : (bs (L.drop k)).extract 0 n = bs ((L.drop k).take n) := by
  apply bts_inj
  rw [bts_extract, bts_bs]; rfl
section
variable (g : Nat) (L : List UInt8) (k : Nat) (w : World)
theorem gbyte_d (h : GetAt w g (bs (L.drop k))) (hn : k + 1 ≤ L.length) (hz : L.length ≤ 140737488355328) :
    Calls Try.prog 39 #[ptr g] w fun e w' => e = .returned (.int .i64 (numL ((L.drop k).take 1))) ∧ GetAt w' g (bs (L.drop (k + 1))) ∧ Frm (at1 g) w w' := by
  have := gbyte_any g _ w h (by rw [bs_size, List.length_drop]; omega) (by rw [bs_size, List.length_drop]; omega)
  rwa [bts_bs, bs_drop] at this
theorem ghalf_d (h : GetAt w g (bs (L.drop k))) (hn : k + 2 ≤ L.length) (hz : L.length ≤ 140737488355328) :
    Calls Try.prog 40 #[ptr g] w fun e w' => e = .returned (.int .i64 (numL ((L.drop k).take 2))) ∧ GetAt w' g (bs (L.drop (k + 2))) ∧ Frm (at1 g) w w' := by
  have := ghalf_any g _ w h (by rw [bs_size, List.length_drop]; omega) (by rw [bs_size, List.length_drop]; omega)
  rwa [bts_bs, bs_drop] at this
theorem gword_d (h : GetAt w g (bs (L.drop k))) (hn : k + 4 ≤ L.length) (hz : L.length ≤ 140737488355328) :
    Calls Try.prog 41 #[ptr g] w fun e w' => e = .returned (.int .i64 (numL ((L.drop k).take 4))) ∧ GetAt w' g (bs (L.drop (k + 4))) ∧ Frm (at1 g) w w' := by
  have := gword_any g _ w h (by rw [bs_size, List.length_drop]; omega) (by rw [bs_size, List.length_drop]; omega)
  rwa [bts_bs, bs_drop] at this
theorem gint_d (h : GetAt w g (bs (L.drop k))) (hn : k + 8 ≤ L.length) (hz : L.length ≤ 140737488355328) :
    Calls Try.prog 42 #[ptr g] w fun e w' => e = .returned (.int .i64 (sgn (numL ((L.drop k).take 8)))) ∧ GetAt w' g (bs (L.drop (k + 8))) ∧ Frm (at1 g) w w' := by
  have := gint_any g _ w h (by rw [bs_size, List.length_drop]; omega) (by rw [bs_size, List.length_drop]; omega)
  rwa [bts_bs, bs_drop] at this
theorem graw_d (n : Nat) (h : GetAt w g (bs (L.drop k))) (hn : k + n ≤ L.length) (hz : L.length ≤ 140737488355328) :
    Calls Try.prog 43 #[ptr g, .int .i64 n] w fun e w' => e = .returned (str ((L.drop k).take n)) ∧ GetAt w' g (bs (L.drop (k + n))) ∧ Frm (at1 g) w w' := by
  have := graw_any g _ n w h (by rw [bs_size, List.length_drop]; omega) (by rw [bs_size, List.length_drop]; omega)
  rwa [bs_take, bs_drop] at this
end
theorem frm_below {g B : Nat} {a w w' : World} (hb : Below B a w) (h : Frm (at1 g) w w') (hg : B ≤ g) (hB : B ≤ a.heap.size) : Below B a w' := below_frm hb h hB fun i hi => by unfold at1 at hi; omega

section
variable (g : Nat) (L : List UInt8) (w : World)
theorem get_kind (h : GetAt w g (bs L)) (hn : 256 ≤ L.length) (hz : L.length ≤ 140737488355328) :
    Calls Try.prog 39 #[ptr g] w fun e w' => e = .returned (.int .i64 (kindB L)) ∧ GetAt w' g (bs (L.drop 1)) ∧ Frm (at1 g) w w' := gbyte_d g L 0 w h (by omega) hz
theorem get_len (h : GetAt w g (bs (L.drop 1))) (hn : 256 ≤ L.length) (hz : L.length ≤ 140737488355328) :
    Calls Try.prog 39 #[ptr g] w fun e w' => e = .returned (.int .i64 (lenB L)) ∧ GetAt w' g (bs (L.drop 2)) ∧ Frm (at1 g) w w' := gbyte_d g L 1 w h (by omega) hz
theorem get_id (h : GetAt w g (bs (L.drop 2))) (hn : 256 ≤ L.length) (hz : L.length ≤ 140737488355328) :
    Calls Try.prog 40 #[ptr g] w fun e w' => e = .returned (.int .i64 (idB L)) ∧ GetAt w' g (bs (L.drop 4)) ∧ Frm (at1 g) w w' := ghalf_d g L 2 w h (by omega) hz
theorem get_low (h : GetAt w g (bs (L.drop 4))) (hn : 256 ≤ L.length) (hz : L.length ≤ 140737488355328) :
    Calls Try.prog 41 #[ptr g] w fun e w' => (∃ x : Int, e = .returned (.int .i64 x)) ∧ GetAt w' g (bs (L.drop 8)) ∧ Frm (at1 g) w w' := (gword_d g L 4 w h (by omega) hz).mono fun e w' ⟨h1, h2⟩ => ⟨⟨_, h1⟩, h2⟩
theorem get_tx (h : GetAt w g (bs (L.drop 8))) (hn : 256 ≤ L.length) (hz : L.length ≤ 140737488355328) :
    Calls Try.prog 42 #[ptr g] w fun e w' => e = .returned (.int .i64 (sgn (txB L))) ∧ GetAt w' g (bs (L.drop 16)) ∧ Frm (at1 g) w w' := gint_d g L 8 w h (by omega) hz
theorem get_body (h : GetAt w g (bs (L.drop 16))) (hn : 256 ≤ L.length) (hb : lenB L ≤ 232) (hz : L.length ≤ 140737488355328) :
    Calls Try.prog 43 #[ptr g, .int .i64 (lenB L)] w fun e w' => e = .returned (str (bodyB L)) ∧ Frm (at1 g) w w' := (graw_d g L 16 w (lenB L) h (by omega) hz).mono fun e w' ⟨h1, _, h3⟩ => ⟨h1, h3⟩
end
theorem txB_lt (L : List UInt8) : txB L < 18446744073709551616 := num_take (L.drop 8) 8
theorem bodyB_len (L : List UInt8) (hn : 256 ≤ L.length) (hb : lenB L ≤ 232) : (bodyB L).length = lenB L := by
  unfold bodyB; rw [List.length_take, List.length_drop]; omega

set_option maxRecDepth 100000 in
set_option maxHeartbeats 4000000 in
theorem read_long (b : ByteArray) (w : World) (hs : b.size = 256) (hn : 232 < lenB (bts b)) :
    Calls Try.prog 21 #[.string b] w fun e w' => e = .returned (.tuple #[noPage, .int .i64 6]) ∧ Below w.heap.size w w' := by
  have hl : 256 ≤ (bts b).length := by rw [bts_len]; omega
  have hl2 : (bts b).length ≤ 140737488355328 := by rw [bts_len]; omega
  have hs' : ((b.size : Int) != 256) = false := by simp; omega
  have HB := Lib.hid (bs_bts b).symm
  have hRg : ¬ at1 (w.heap.size + 1) w.heap.size := by unfold at1; omega
  have R0 : Blk (w.alloc (.cells #[.int .i64 0, .int .i64 0, .int .i64 0, .string ⟨#[]⟩] 23)) w.heap.size 23 #[.int .i64 0, .int .i64 0, .int .i64 0, .string ⟨#[]⟩] := Blk.new _ _ _
  have hn' : (232 : Int) < (lenB (bts b) : Int) := by omega
  go_enter Try.func21, Try.ntmps21
  go_wp2_with (first
    | (go_at_call 38; refine (from_at b _ (w.heap.size + 1) (by simp)).mono ?_; rintro e w1 ⟨rfl, G1, b1⟩; rw [HB.out] at G1; have R1 := R0.below b1; have B1 : Below w.heap.size w w1 := below_of b1 ((Below.refl _ _).alloc (Nat.le_refl _) _) (by simp))
    | (go_at_call 39; with_reducible refine (get_kind _ _ _ G1 hl hl2).mono ?_; rintro e w2 ⟨rfl, G2, f2⟩; have B2 := frm_below B1 f2 (by omega) (Nat.le_refl _); have A2 := G2.alloc (.cells #[.int .i64 (kindB (bts b)), .int .i64 0, .int .i64 0, .string ⟨#[]⟩] 23); have RA2 := (R1.frm f2 hRg).alloc (.cells #[.int .i64 (kindB (bts b)), .int .i64 0, .int .i64 0, .string ⟨#[]⟩] 23); have PA2 : Blk (w2.alloc (.cells #[.int .i64 (kindB (bts b)), .int .i64 0, .int .i64 0, .string ⟨#[]⟩] 23)) w2.heap.size 23 #[.int .i64 (kindB (bts b)), .int .i64 0, .int .i64 0, .string ⟨#[]⟩] := Blk.new _ _ _; have hPg : ¬ at1 (w.heap.size + 1) w2.heap.size := by (have := G2.lt; unfold at1; omega))
    | (go_at_call 39; with_reducible refine (get_len _ _ _ A2 hl hl2).mono ?_; rintro e w3 ⟨rfl, G3, f3⟩; have B3 := frm_below (B2.alloc B2.size (.cells #[.int .i64 (kindB (bts b)), .int .i64 0, .int .i64 0, .string ⟨#[]⟩] 23)) f3 (by omega) (Nat.le_refl _); have R3 := RA2.frm f3 hRg; have P3 := PA2.frm f3 hPg)
    | (go_at_call 40; with_reducible refine (get_id _ _ _ G3 hl hl2).mono ?_; rintro e w4 ⟨rfl, G4, f4⟩; have B4 := (frm_below B3 f4 (by omega) (Nat.le_refl _)).setCell (p := ⟨w2.heap.size, 1, none⟩) B2.size (.int .i64 (idB (bts b))); have R4 := R3.frm f4 hRg; have P4 := P3.frm f4 hPg; have pc4 := P4.cell 1; have pf4 := P4.free 1; have A4 := G4.far (i := 1) (show w.heap.size + 1 ≠ w2.heap.size by (have := G2.lt; omega)) (.int .i64 (idB (bts b))); have RA4 := R4.far (p := ⟨w2.heap.size, 1, none⟩) (show w.heap.size ≠ w2.heap.size by (have := G2.lt; omega)) (.int .i64 (idB (bts b))); have PA4 := P4.set_ 1 (.int .i64 (idB (bts b))))
    | (go_at_call 41; with_reducible refine (get_low _ _ _ A4 hl hl2).mono ?_; rintro e w5 ⟨⟨x5, rfl⟩, G5, f5⟩; have B5 := frm_below B4 f5 (by omega) (Nat.le_refl _); have R5 := RA4.frm f5 hRg; have P5 := PA4.frm f5 hPg)
    | (go_at_call 42; with_reducible refine (get_tx _ _ _ G5 hl hl2).mono ?_; rintro e w6 ⟨rfl, G6, f6⟩; have B6 := (frm_below B5 f6 (by omega) (Nat.le_refl _)).setCell (p := ⟨w2.heap.size, 2, none⟩) B2.size (.int .i64 (sgn (txB (bts b)))); have R6 := R5.frm f6 hRg; have P6 := P5.frm f6 hPg; have pc6 := P6.cell 2; have pf6 := P6.free 2; have A6 := G6.far (i := 2) (show w.heap.size + 1 ≠ w2.heap.size by (have := G2.lt; omega)) (.int .i64 (sgn (txB (bts b)))); have RA6 := R6.far (p := ⟨w2.heap.size, 2, none⟩) (show w.heap.size ≠ w2.heap.size by (have := G2.lt; omega)) (.int .i64 (sgn (txB (bts b)))); have PA6 := P6.set_ 2 (.int .i64 (sgn (txB (bts b)))); have rc6 := RA6.cell; have rf6 := RA6.free))
  refine bodyPost_ret (v := .tuple #[noPage, .int .i64 6]) (by rw [results_cell_tmp rfl]; go_simp) rfl ⟨rfl, ?_⟩
  repeat (refine Below.setCell ?_ (by exact Nat.le_refl _) _)
  exact B6

set_option maxRecDepth 100000 in
set_option maxHeartbeats 4000000 in
theorem read_bad (b : ByteArray) (w : World) (hs : b.size = 256) (hn : lenB (bts b) ≤ 232) (hv : ¬ (pgB (bts b)).ok) :
    Calls Try.prog 21 #[.string b] w fun e w' => e = .returned (.tuple #[noPage, .int .i64 6]) ∧ Below w.heap.size w w' := by
  have hl : 256 ≤ (bts b).length := by rw [bts_len]; omega
  have hl2 : (bts b).length ≤ 140737488355328 := by rw [bts_len]; omega
  have hs' : ((b.size : Int) != 256) = false := by simp; omega
  have HB := Lib.hid (bs_bts b).symm
  have hRg : ¬ at1 (w.heap.size + 1) w.heap.size := by unfold at1; omega
  have R0 : Blk (w.alloc (.cells #[.int .i64 0, .int .i64 0, .int .i64 0, .string ⟨#[]⟩] 23)) w.heap.size 23 #[.int .i64 0, .int .i64 0, .int .i64 0, .string ⟨#[]⟩] := Blk.new _ _ _
  have hn' : (lenB (bts b) : Int) ≤ 232 := by omega
  have hn0 : (0 : Int) ≤ (lenB (bts b) : Int) := by omega
  have hbl := bodyB_len (bts b) hl hn
  have HV : ∀ w, Calls Try.prog 29 #[pageV (kindB (bts b)) (idB (bts b)) (sgn (txB (bts b))) (bs (bodyB (bts b)))] w fun e w' => e = .returned (.bool false) ∧ Below w.heap.size w w' := fun w => by
    have := valid_any (kindB (bts b)) (idB (bts b)) (sgn (txB (bts b))) (bs (bodyB (bts b))) w (by rw [bs_size]; omega)
    rwa [decide_eq_false (fun h => hv ((ok_sgn (txB_lt _)).1 h))] at this
  go_enter Try.func21, Try.ntmps21
  go_wp2_with (first
    | (go_at_call 38; refine (from_at b _ (w.heap.size + 1) (by simp)).mono ?_; rintro e w1 ⟨rfl, G1, b1⟩; rw [HB.out] at G1; have R1 := R0.below b1; have B1 : Below w.heap.size w w1 := below_of b1 ((Below.refl _ _).alloc (Nat.le_refl _) _) (by simp))
    | (go_at_call 39; with_reducible refine (get_kind _ _ _ G1 hl hl2).mono ?_; rintro e w2 ⟨rfl, G2, f2⟩; have B2 := frm_below B1 f2 (by omega) (Nat.le_refl _); have A2 := G2.alloc (.cells #[.int .i64 (kindB (bts b)), .int .i64 0, .int .i64 0, .string ⟨#[]⟩] 23); have RA2 := (R1.frm f2 hRg).alloc (.cells #[.int .i64 (kindB (bts b)), .int .i64 0, .int .i64 0, .string ⟨#[]⟩] 23); have PA2 : Blk (w2.alloc (.cells #[.int .i64 (kindB (bts b)), .int .i64 0, .int .i64 0, .string ⟨#[]⟩] 23)) w2.heap.size 23 #[.int .i64 (kindB (bts b)), .int .i64 0, .int .i64 0, .string ⟨#[]⟩] := Blk.new _ _ _; have hPg : ¬ at1 (w.heap.size + 1) w2.heap.size := by (have := G2.lt; unfold at1; omega))
    | (go_at_call 39; with_reducible refine (get_len _ _ _ A2 hl hl2).mono ?_; rintro e w3 ⟨rfl, G3, f3⟩; have B3 := frm_below (B2.alloc B2.size (.cells #[.int .i64 (kindB (bts b)), .int .i64 0, .int .i64 0, .string ⟨#[]⟩] 23)) f3 (by omega) (Nat.le_refl _); have R3 := RA2.frm f3 hRg; have P3 := PA2.frm f3 hPg)
    | (go_at_call 40; with_reducible refine (get_id _ _ _ G3 hl hl2).mono ?_; rintro e w4 ⟨rfl, G4, f4⟩; have B4 := (frm_below B3 f4 (by omega) (Nat.le_refl _)).setCell (p := ⟨w2.heap.size, 1, none⟩) B2.size (.int .i64 (idB (bts b))); have R4 := R3.frm f4 hRg; have P4 := P3.frm f4 hPg; have pc4 := P4.cell 1; have pf4 := P4.free 1; have A4 := G4.far (i := 1) (show w.heap.size + 1 ≠ w2.heap.size by (have := G2.lt; omega)) (.int .i64 (idB (bts b))); have RA4 := R4.far (p := ⟨w2.heap.size, 1, none⟩) (show w.heap.size ≠ w2.heap.size by (have := G2.lt; omega)) (.int .i64 (idB (bts b))); have PA4 := P4.set_ 1 (.int .i64 (idB (bts b))))
    | (go_at_call 41; with_reducible refine (get_low _ _ _ A4 hl hl2).mono ?_; rintro e w5 ⟨⟨x5, rfl⟩, G5, f5⟩; have B5 := frm_below B4 f5 (by omega) (Nat.le_refl _); have R5 := RA4.frm f5 hRg; have P5 := PA4.frm f5 hPg)
    | (go_at_call 42; with_reducible refine (get_tx _ _ _ G5 hl hl2).mono ?_; rintro e w6 ⟨rfl, G6, f6⟩; have B6 := (frm_below B5 f6 (by omega) (Nat.le_refl _)).setCell (p := ⟨w2.heap.size, 2, none⟩) B2.size (.int .i64 (sgn (txB (bts b)))); have R6 := R5.frm f6 hRg; have P6 := P5.frm f6 hPg; have pc6 := P6.cell 2; have pf6 := P6.free 2; have A6 := G6.far (i := 2) (show w.heap.size + 1 ≠ w2.heap.size by (have := G2.lt; omega)) (.int .i64 (sgn (txB (bts b)))); have RA6 := R6.far (p := ⟨w2.heap.size, 2, none⟩) (show w.heap.size ≠ w2.heap.size by (have := G2.lt; omega)) (.int .i64 (sgn (txB (bts b)))); have PA6 := P6.set_ 2 (.int .i64 (sgn (txB (bts b)))); have rc6 := RA6.cell; have rf6 := RA6.free)
    | (go_at_call 43; with_reducible refine (get_body _ _ _ A6 hl hn hl2).mono ?_; rintro e w7 ⟨rfl, f7⟩; have R7 := RA6.frm f7 hRg; have P7 := PA6.frm f7 hPg; have pc7 := P7.cell; have pf7 := P7.free; have hRP : w.heap.size ≠ w2.heap.size := (by (have := G2.lt; omega)); have B7 := (frm_below B6 f7 (by omega) (Nat.le_refl _)).setCell (p := ⟨w2.heap.size, 3, none⟩) B2.size (str (bodyB (bts b))); have RA7 := R7.far (p := ⟨w2.heap.size, 3, none⟩) hRP (str (bodyB (bts b))); have PA7 := P7.set_ 3 (str (bodyB (bts b))))
    | (go_at_call 29; refine (HV _).mono ?_; rintro e w8 ⟨rfl, b8⟩; have B8 := below_of b8 B7 B7.size; have R8 := RA7.below b8; have P8 := PA7.below b8; have pc8 := P8.cell; have rc8 := R8.cell; have rf8 := R8.free))
  refine bodyPost_ret (v := .tuple #[noPage, .int .i64 6]) (by rw [results_cell_tmp rfl]; go_simp) rfl ⟨rfl, ?_⟩
  repeat (refine Below.setCell ?_ (by exact Nat.le_refl _) _)
  exact B8

set_option maxRecDepth 100000 in
set_option maxHeartbeats 4000000 in
theorem read_front (b : ByteArray) (w : World) (hs : b.size = 256) (hn : lenB (bts b) ≤ 232) (hv : (pgB (bts b)).ok) (A : ByteArray) (hA : Hid (A = bs (layL (pgB (bts b))))) (e1 : ((A.extract 0 248).toList == (b.extract 0 248).toList) = false)  :
    Calls Try.prog 21 #[.string b] w fun e w' => e = .returned (.tuple #[noPage, .int .i64 6]) ∧ Below w.heap.size w w' := by
  have hl : 256 ≤ (bts b).length := by rw [bts_len]; omega
  have hl2 : (bts b).length ≤ 140737488355328 := by rw [bts_len]; omega
  have hs' : ((b.size : Int) != 256) = false := by simp; omega
  have HB := Lib.hid (bs_bts b).symm
  have hRg : ¬ at1 (w.heap.size + 1) w.heap.size := by unfold at1; omega
  have R0 : Blk (w.alloc (.cells #[.int .i64 0, .int .i64 0, .int .i64 0, .string ⟨#[]⟩] 23)) w.heap.size 23 #[.int .i64 0, .int .i64 0, .int .i64 0, .string ⟨#[]⟩] := Blk.new _ _ _
  have hn' : (lenB (bts b) : Int) ≤ 232 := by omega
  have hn0 : (0 : Int) ≤ (lenB (bts b) : Int) := by omega
  have hbl := bodyB_len (bts b) hl hn
  have HV : ∀ w, Calls Try.prog 29 #[pageV (kindB (bts b)) (idB (bts b)) (sgn (txB (bts b))) (bs (bodyB (bts b)))] w fun e w' => e = .returned (.bool true) ∧ Below w.heap.size w w' := fun w => by
    have := valid_any (kindB (bts b)) (idB (bts b)) (sgn (txB (bts b))) (bs (bodyB (bts b))) w (by rw [bs_size]; omega)
    rwa [decide_eq_true ((ok_sgn (txB_lt _)).2 hv)] at this
  have HLAY : ∀ w, Calls Try.prog 44 #[pageV (kindB (bts b)) (idB (bts b)) (sgn (txB (bts b))) (bs (bodyB (bts b)))] w fun e w' => e = .returned (.string A) ∧ Below w.heap.size w w' := fun w => by
    have hsg : sgn (txB (bts b)) = (txB (bts b) : Int) := sgn_ok (by have := hv.2.2.2.1; show txB (bts b) < _; have : txB (bts b) ≤ 1099511627776 := this; omega)
    rw [hsg, hA.out]; exact play_any _ _ _ _ w hv
  have hAs : A.size = 256 := by rw [hA.out, bs_size]; exact layL_len hv
  go_enter Try.func21, Try.ntmps21
  go_wp2_with (first
    | (go_at_call 38; refine (from_at b _ (w.heap.size + 1) (by simp)).mono ?_; rintro e w1 ⟨rfl, G1, b1⟩; rw [HB.out] at G1; have R1 := R0.below b1; have B1 : Below w.heap.size w w1 := below_of b1 ((Below.refl _ _).alloc (Nat.le_refl _) _) (by simp))
    | (go_at_call 39; with_reducible refine (get_kind _ _ _ G1 hl hl2).mono ?_; rintro e w2 ⟨rfl, G2, f2⟩; have B2 := frm_below B1 f2 (by omega) (Nat.le_refl _); have A2 := G2.alloc (.cells #[.int .i64 (kindB (bts b)), .int .i64 0, .int .i64 0, .string ⟨#[]⟩] 23); have RA2 := (R1.frm f2 hRg).alloc (.cells #[.int .i64 (kindB (bts b)), .int .i64 0, .int .i64 0, .string ⟨#[]⟩] 23); have PA2 : Blk (w2.alloc (.cells #[.int .i64 (kindB (bts b)), .int .i64 0, .int .i64 0, .string ⟨#[]⟩] 23)) w2.heap.size 23 #[.int .i64 (kindB (bts b)), .int .i64 0, .int .i64 0, .string ⟨#[]⟩] := Blk.new _ _ _; have hPg : ¬ at1 (w.heap.size + 1) w2.heap.size := by (have := G2.lt; unfold at1; omega))
    | (go_at_call 39; with_reducible refine (get_len _ _ _ A2 hl hl2).mono ?_; rintro e w3 ⟨rfl, G3, f3⟩; have B3 := frm_below (B2.alloc B2.size (.cells #[.int .i64 (kindB (bts b)), .int .i64 0, .int .i64 0, .string ⟨#[]⟩] 23)) f3 (by omega) (Nat.le_refl _); have R3 := RA2.frm f3 hRg; have P3 := PA2.frm f3 hPg)
    | (go_at_call 40; with_reducible refine (get_id _ _ _ G3 hl hl2).mono ?_; rintro e w4 ⟨rfl, G4, f4⟩; have B4 := (frm_below B3 f4 (by omega) (Nat.le_refl _)).setCell (p := ⟨w2.heap.size, 1, none⟩) B2.size (.int .i64 (idB (bts b))); have R4 := R3.frm f4 hRg; have P4 := P3.frm f4 hPg; have pc4 := P4.cell 1; have pf4 := P4.free 1; have A4 := G4.far (i := 1) (show w.heap.size + 1 ≠ w2.heap.size by (have := G2.lt; omega)) (.int .i64 (idB (bts b))); have RA4 := R4.far (p := ⟨w2.heap.size, 1, none⟩) (show w.heap.size ≠ w2.heap.size by (have := G2.lt; omega)) (.int .i64 (idB (bts b))); have PA4 := P4.set_ 1 (.int .i64 (idB (bts b))))
    | (go_at_call 41; with_reducible refine (get_low _ _ _ A4 hl hl2).mono ?_; rintro e w5 ⟨⟨x5, rfl⟩, G5, f5⟩; have B5 := frm_below B4 f5 (by omega) (Nat.le_refl _); have R5 := RA4.frm f5 hRg; have P5 := PA4.frm f5 hPg)
    | (go_at_call 42; with_reducible refine (get_tx _ _ _ G5 hl hl2).mono ?_; rintro e w6 ⟨rfl, G6, f6⟩; have B6 := (frm_below B5 f6 (by omega) (Nat.le_refl _)).setCell (p := ⟨w2.heap.size, 2, none⟩) B2.size (.int .i64 (sgn (txB (bts b)))); have R6 := R5.frm f6 hRg; have P6 := P5.frm f6 hPg; have pc6 := P6.cell 2; have pf6 := P6.free 2; have A6 := G6.far (i := 2) (show w.heap.size + 1 ≠ w2.heap.size by (have := G2.lt; omega)) (.int .i64 (sgn (txB (bts b)))); have RA6 := R6.far (p := ⟨w2.heap.size, 2, none⟩) (show w.heap.size ≠ w2.heap.size by (have := G2.lt; omega)) (.int .i64 (sgn (txB (bts b)))); have PA6 := P6.set_ 2 (.int .i64 (sgn (txB (bts b)))); have rc6 := RA6.cell; have rf6 := RA6.free)
    | (go_at_call 43; with_reducible refine (get_body _ _ _ A6 hl hn hl2).mono ?_; rintro e w7 ⟨rfl, f7⟩; have R7 := RA6.frm f7 hRg; have P7 := PA6.frm f7 hPg; have pc7 := P7.cell; have pf7 := P7.free; have hRP : w.heap.size ≠ w2.heap.size := (by (have := G2.lt; omega)); have B7 := (frm_below B6 f7 (by omega) (Nat.le_refl _)).setCell (p := ⟨w2.heap.size, 3, none⟩) B2.size (str (bodyB (bts b))); have RA7 := R7.far (p := ⟨w2.heap.size, 3, none⟩) hRP (str (bodyB (bts b))); have PA7 := P7.set_ 3 (str (bodyB (bts b))))
    | (go_at_call 29; refine (HV _).mono ?_; rintro e w8 ⟨rfl, b8⟩; have B8 := below_of b8 B7 B7.size; have R8 := RA7.below b8; have P8 := PA7.below b8; have pc8 := P8.cell; have rc8 := R8.cell; have rf8 := R8.free)
    | (go_at_call 44; refine (HLAY _).mono ?_; rintro e w9 ⟨rfl, b9⟩; have B9 := below_of b9 B8 B8.size; have R9 := R8.below b9; have P9 := P8.below b9; have pc9 := P9.cell; have rc9 := R9.cell; have rf9 := R9.free))
  go_quiet (fail)
  go_wp2
  refine bodyPost_ret (v := .tuple #[noPage, .int .i64 6]) (by rw [results_cell_tmp rfl]; go_simp) rfl ⟨rfl, ?_⟩
  repeat (refine Below.setCell ?_ (by exact Nat.le_refl _) _)
  exact below_drewN B9 _

set_option maxRecDepth 100000 in
set_option maxHeartbeats 4000000 in
theorem read_tail (b : ByteArray) (w : World) (hs : b.size = 256) (hn : lenB (bts b) ≤ 232) (hv : (pgB (bts b)).ok) (A : ByteArray) (hA : Hid (A = bs (layL (pgB (bts b))))) (e1 : ((A.extract 0 248).toList == (b.extract 0 248).toList) = true) (e2 : ((A.extract 252 256).toList == (b.extract 252 256).toList) = false)  :
    Calls Try.prog 21 #[.string b] w fun e w' => e = .returned (.tuple #[noPage, .int .i64 6]) ∧ Below w.heap.size w w' := by
  have hl : 256 ≤ (bts b).length := by rw [bts_len]; omega
  have hl2 : (bts b).length ≤ 140737488355328 := by rw [bts_len]; omega
  have hs' : ((b.size : Int) != 256) = false := by simp; omega
  have HB := Lib.hid (bs_bts b).symm
  have hRg : ¬ at1 (w.heap.size + 1) w.heap.size := by unfold at1; omega
  have R0 : Blk (w.alloc (.cells #[.int .i64 0, .int .i64 0, .int .i64 0, .string ⟨#[]⟩] 23)) w.heap.size 23 #[.int .i64 0, .int .i64 0, .int .i64 0, .string ⟨#[]⟩] := Blk.new _ _ _
  have hn' : (lenB (bts b) : Int) ≤ 232 := by omega
  have hn0 : (0 : Int) ≤ (lenB (bts b) : Int) := by omega
  have hbl := bodyB_len (bts b) hl hn
  have HV : ∀ w, Calls Try.prog 29 #[pageV (kindB (bts b)) (idB (bts b)) (sgn (txB (bts b))) (bs (bodyB (bts b)))] w fun e w' => e = .returned (.bool true) ∧ Below w.heap.size w w' := fun w => by
    have := valid_any (kindB (bts b)) (idB (bts b)) (sgn (txB (bts b))) (bs (bodyB (bts b))) w (by rw [bs_size]; omega)
    rwa [decide_eq_true ((ok_sgn (txB_lt _)).2 hv)] at this
  have HLAY : ∀ w, Calls Try.prog 44 #[pageV (kindB (bts b)) (idB (bts b)) (sgn (txB (bts b))) (bs (bodyB (bts b)))] w fun e w' => e = .returned (.string A) ∧ Below w.heap.size w w' := fun w => by
    have hsg : sgn (txB (bts b)) = (txB (bts b) : Int) := sgn_ok (by have := hv.2.2.2.1; show txB (bts b) < _; have : txB (bts b) ≤ 1099511627776 := this; omega)
    rw [hsg, hA.out]; exact play_any _ _ _ _ w hv
  have hAs : A.size = 256 := by rw [hA.out, bs_size]; exact layL_len hv
  go_enter Try.func21, Try.ntmps21
  go_wp2_with (first
    | (go_at_call 38; refine (from_at b _ (w.heap.size + 1) (by simp)).mono ?_; rintro e w1 ⟨rfl, G1, b1⟩; rw [HB.out] at G1; have R1 := R0.below b1; have B1 : Below w.heap.size w w1 := below_of b1 ((Below.refl _ _).alloc (Nat.le_refl _) _) (by simp))
    | (go_at_call 39; with_reducible refine (get_kind _ _ _ G1 hl hl2).mono ?_; rintro e w2 ⟨rfl, G2, f2⟩; have B2 := frm_below B1 f2 (by omega) (Nat.le_refl _); have A2 := G2.alloc (.cells #[.int .i64 (kindB (bts b)), .int .i64 0, .int .i64 0, .string ⟨#[]⟩] 23); have RA2 := (R1.frm f2 hRg).alloc (.cells #[.int .i64 (kindB (bts b)), .int .i64 0, .int .i64 0, .string ⟨#[]⟩] 23); have PA2 : Blk (w2.alloc (.cells #[.int .i64 (kindB (bts b)), .int .i64 0, .int .i64 0, .string ⟨#[]⟩] 23)) w2.heap.size 23 #[.int .i64 (kindB (bts b)), .int .i64 0, .int .i64 0, .string ⟨#[]⟩] := Blk.new _ _ _; have hPg : ¬ at1 (w.heap.size + 1) w2.heap.size := by (have := G2.lt; unfold at1; omega))
    | (go_at_call 39; with_reducible refine (get_len _ _ _ A2 hl hl2).mono ?_; rintro e w3 ⟨rfl, G3, f3⟩; have B3 := frm_below (B2.alloc B2.size (.cells #[.int .i64 (kindB (bts b)), .int .i64 0, .int .i64 0, .string ⟨#[]⟩] 23)) f3 (by omega) (Nat.le_refl _); have R3 := RA2.frm f3 hRg; have P3 := PA2.frm f3 hPg)
    | (go_at_call 40; with_reducible refine (get_id _ _ _ G3 hl hl2).mono ?_; rintro e w4 ⟨rfl, G4, f4⟩; have B4 := (frm_below B3 f4 (by omega) (Nat.le_refl _)).setCell (p := ⟨w2.heap.size, 1, none⟩) B2.size (.int .i64 (idB (bts b))); have R4 := R3.frm f4 hRg; have P4 := P3.frm f4 hPg; have pc4 := P4.cell 1; have pf4 := P4.free 1; have A4 := G4.far (i := 1) (show w.heap.size + 1 ≠ w2.heap.size by (have := G2.lt; omega)) (.int .i64 (idB (bts b))); have RA4 := R4.far (p := ⟨w2.heap.size, 1, none⟩) (show w.heap.size ≠ w2.heap.size by (have := G2.lt; omega)) (.int .i64 (idB (bts b))); have PA4 := P4.set_ 1 (.int .i64 (idB (bts b))))
    | (go_at_call 41; with_reducible refine (get_low _ _ _ A4 hl hl2).mono ?_; rintro e w5 ⟨⟨x5, rfl⟩, G5, f5⟩; have B5 := frm_below B4 f5 (by omega) (Nat.le_refl _); have R5 := RA4.frm f5 hRg; have P5 := PA4.frm f5 hPg)
    | (go_at_call 42; with_reducible refine (get_tx _ _ _ G5 hl hl2).mono ?_; rintro e w6 ⟨rfl, G6, f6⟩; have B6 := (frm_below B5 f6 (by omega) (Nat.le_refl _)).setCell (p := ⟨w2.heap.size, 2, none⟩) B2.size (.int .i64 (sgn (txB (bts b)))); have R6 := R5.frm f6 hRg; have P6 := P5.frm f6 hPg; have pc6 := P6.cell 2; have pf6 := P6.free 2; have A6 := G6.far (i := 2) (show w.heap.size + 1 ≠ w2.heap.size by (have := G2.lt; omega)) (.int .i64 (sgn (txB (bts b)))); have RA6 := R6.far (p := ⟨w2.heap.size, 2, none⟩) (show w.heap.size ≠ w2.heap.size by (have := G2.lt; omega)) (.int .i64 (sgn (txB (bts b)))); have PA6 := P6.set_ 2 (.int .i64 (sgn (txB (bts b)))); have rc6 := RA6.cell; have rf6 := RA6.free)
    | (go_at_call 43; with_reducible refine (get_body _ _ _ A6 hl hn hl2).mono ?_; rintro e w7 ⟨rfl, f7⟩; have R7 := RA6.frm f7 hRg; have P7 := PA6.frm f7 hPg; have pc7 := P7.cell; have pf7 := P7.free; have hRP : w.heap.size ≠ w2.heap.size := (by (have := G2.lt; omega)); have B7 := (frm_below B6 f7 (by omega) (Nat.le_refl _)).setCell (p := ⟨w2.heap.size, 3, none⟩) B2.size (str (bodyB (bts b))); have RA7 := R7.far (p := ⟨w2.heap.size, 3, none⟩) hRP (str (bodyB (bts b))); have PA7 := P7.set_ 3 (str (bodyB (bts b))))
    | (go_at_call 29; refine (HV _).mono ?_; rintro e w8 ⟨rfl, b8⟩; have B8 := below_of b8 B7 B7.size; have R8 := RA7.below b8; have P8 := PA7.below b8; have pc8 := P8.cell; have rc8 := R8.cell; have rf8 := R8.free)
    | (go_at_call 44; refine (HLAY _).mono ?_; rintro e w9 ⟨rfl, b9⟩; have B9 := below_of b9 B8 B8.size; have R9 := R8.below b9; have P9 := P8.below b9; have pc9 := P9.cell; have rc9 := R9.cell; have rf9 := R9.free))
  go_quiet (fail)
  go_wp2
  refine bodyPost_ret (v := .tuple #[noPage, .int .i64 6]) (by rw [results_cell_tmp rfl]; go_simp) rfl ⟨rfl, ?_⟩
  repeat (refine Below.setCell ?_ (by exact Nat.le_refl _) _)
  exact below_drewN B9 _

set_option maxRecDepth 100000 in
set_option maxHeartbeats 4000000 in
theorem read_sum (b : ByteArray) (w : World) (hs : b.size = 256) (hn : lenB (bts b) ≤ 232) (hv : (pgB (bts b)).ok) (A : ByteArray) (hA : Hid (A = bs (layL (pgB (bts b))))) (e1 : ((A.extract 0 248).toList == (b.extract 0 248).toList) = true) (e2 : ((A.extract 252 256).toList == (b.extract 252 256).toList) = true) (e3 : (A.toList == b.toList) = false) :
    Calls Try.prog 21 #[.string b] w fun e w' => e = .returned (.tuple #[noPage, .int .i64 7]) ∧ Below w.heap.size w w' := by
  have hl : 256 ≤ (bts b).length := by rw [bts_len]; omega
  have hl2 : (bts b).length ≤ 140737488355328 := by rw [bts_len]; omega
  have hs' : ((b.size : Int) != 256) = false := by simp; omega
  have HB := Lib.hid (bs_bts b).symm
  have hRg : ¬ at1 (w.heap.size + 1) w.heap.size := by unfold at1; omega
  have R0 : Blk (w.alloc (.cells #[.int .i64 0, .int .i64 0, .int .i64 0, .string ⟨#[]⟩] 23)) w.heap.size 23 #[.int .i64 0, .int .i64 0, .int .i64 0, .string ⟨#[]⟩] := Blk.new _ _ _
  have hn' : (lenB (bts b) : Int) ≤ 232 := by omega
  have hn0 : (0 : Int) ≤ (lenB (bts b) : Int) := by omega
  have hbl := bodyB_len (bts b) hl hn
  have HV : ∀ w, Calls Try.prog 29 #[pageV (kindB (bts b)) (idB (bts b)) (sgn (txB (bts b))) (bs (bodyB (bts b)))] w fun e w' => e = .returned (.bool true) ∧ Below w.heap.size w w' := fun w => by
    have := valid_any (kindB (bts b)) (idB (bts b)) (sgn (txB (bts b))) (bs (bodyB (bts b))) w (by rw [bs_size]; omega)
    rwa [decide_eq_true ((ok_sgn (txB_lt _)).2 hv)] at this
  have HLAY : ∀ w, Calls Try.prog 44 #[pageV (kindB (bts b)) (idB (bts b)) (sgn (txB (bts b))) (bs (bodyB (bts b)))] w fun e w' => e = .returned (.string A) ∧ Below w.heap.size w w' := fun w => by
    have hsg : sgn (txB (bts b)) = (txB (bts b) : Int) := sgn_ok (by have := hv.2.2.2.1; show txB (bts b) < _; have : txB (bts b) ≤ 1099511627776 := this; omega)
    rw [hsg, hA.out]; exact play_any _ _ _ _ w hv
  have hAs : A.size = 256 := by rw [hA.out, bs_size]; exact layL_len hv
  go_enter Try.func21, Try.ntmps21
  go_wp2_with (first
    | (go_at_call 38; refine (from_at b _ (w.heap.size + 1) (by simp)).mono ?_; rintro e w1 ⟨rfl, G1, b1⟩; rw [HB.out] at G1; have R1 := R0.below b1; have B1 : Below w.heap.size w w1 := below_of b1 ((Below.refl _ _).alloc (Nat.le_refl _) _) (by simp))
    | (go_at_call 39; with_reducible refine (get_kind _ _ _ G1 hl hl2).mono ?_; rintro e w2 ⟨rfl, G2, f2⟩; have B2 := frm_below B1 f2 (by omega) (Nat.le_refl _); have A2 := G2.alloc (.cells #[.int .i64 (kindB (bts b)), .int .i64 0, .int .i64 0, .string ⟨#[]⟩] 23); have RA2 := (R1.frm f2 hRg).alloc (.cells #[.int .i64 (kindB (bts b)), .int .i64 0, .int .i64 0, .string ⟨#[]⟩] 23); have PA2 : Blk (w2.alloc (.cells #[.int .i64 (kindB (bts b)), .int .i64 0, .int .i64 0, .string ⟨#[]⟩] 23)) w2.heap.size 23 #[.int .i64 (kindB (bts b)), .int .i64 0, .int .i64 0, .string ⟨#[]⟩] := Blk.new _ _ _; have hPg : ¬ at1 (w.heap.size + 1) w2.heap.size := by (have := G2.lt; unfold at1; omega))
    | (go_at_call 39; with_reducible refine (get_len _ _ _ A2 hl hl2).mono ?_; rintro e w3 ⟨rfl, G3, f3⟩; have B3 := frm_below (B2.alloc B2.size (.cells #[.int .i64 (kindB (bts b)), .int .i64 0, .int .i64 0, .string ⟨#[]⟩] 23)) f3 (by omega) (Nat.le_refl _); have R3 := RA2.frm f3 hRg; have P3 := PA2.frm f3 hPg)
    | (go_at_call 40; with_reducible refine (get_id _ _ _ G3 hl hl2).mono ?_; rintro e w4 ⟨rfl, G4, f4⟩; have B4 := (frm_below B3 f4 (by omega) (Nat.le_refl _)).setCell (p := ⟨w2.heap.size, 1, none⟩) B2.size (.int .i64 (idB (bts b))); have R4 := R3.frm f4 hRg; have P4 := P3.frm f4 hPg; have pc4 := P4.cell 1; have pf4 := P4.free 1; have A4 := G4.far (i := 1) (show w.heap.size + 1 ≠ w2.heap.size by (have := G2.lt; omega)) (.int .i64 (idB (bts b))); have RA4 := R4.far (p := ⟨w2.heap.size, 1, none⟩) (show w.heap.size ≠ w2.heap.size by (have := G2.lt; omega)) (.int .i64 (idB (bts b))); have PA4 := P4.set_ 1 (.int .i64 (idB (bts b))))
    | (go_at_call 41; with_reducible refine (get_low _ _ _ A4 hl hl2).mono ?_; rintro e w5 ⟨⟨x5, rfl⟩, G5, f5⟩; have B5 := frm_below B4 f5 (by omega) (Nat.le_refl _); have R5 := RA4.frm f5 hRg; have P5 := PA4.frm f5 hPg)
    | (go_at_call 42; with_reducible refine (get_tx _ _ _ G5 hl hl2).mono ?_; rintro e w6 ⟨rfl, G6, f6⟩; have B6 := (frm_below B5 f6 (by omega) (Nat.le_refl _)).setCell (p := ⟨w2.heap.size, 2, none⟩) B2.size (.int .i64 (sgn (txB (bts b)))); have R6 := R5.frm f6 hRg; have P6 := P5.frm f6 hPg; have pc6 := P6.cell 2; have pf6 := P6.free 2; have A6 := G6.far (i := 2) (show w.heap.size + 1 ≠ w2.heap.size by (have := G2.lt; omega)) (.int .i64 (sgn (txB (bts b)))); have RA6 := R6.far (p := ⟨w2.heap.size, 2, none⟩) (show w.heap.size ≠ w2.heap.size by (have := G2.lt; omega)) (.int .i64 (sgn (txB (bts b)))); have PA6 := P6.set_ 2 (.int .i64 (sgn (txB (bts b)))); have rc6 := RA6.cell; have rf6 := RA6.free)
    | (go_at_call 43; with_reducible refine (get_body _ _ _ A6 hl hn hl2).mono ?_; rintro e w7 ⟨rfl, f7⟩; have R7 := RA6.frm f7 hRg; have P7 := PA6.frm f7 hPg; have pc7 := P7.cell; have pf7 := P7.free; have hRP : w.heap.size ≠ w2.heap.size := (by (have := G2.lt; omega)); have B7 := (frm_below B6 f7 (by omega) (Nat.le_refl _)).setCell (p := ⟨w2.heap.size, 3, none⟩) B2.size (str (bodyB (bts b))); have RA7 := R7.far (p := ⟨w2.heap.size, 3, none⟩) hRP (str (bodyB (bts b))); have PA7 := P7.set_ 3 (str (bodyB (bts b))))
    | (go_at_call 29; refine (HV _).mono ?_; rintro e w8 ⟨rfl, b8⟩; have B8 := below_of b8 B7 B7.size; have R8 := RA7.below b8; have P8 := PA7.below b8; have pc8 := P8.cell; have rc8 := R8.cell; have rf8 := R8.free)
    | (go_at_call 44; refine (HLAY _).mono ?_; rintro e w9 ⟨rfl, b9⟩; have B9 := below_of b9 B8 B8.size; have R9 := R8.below b9; have P9 := P8.below b9; have pc9 := P9.cell; have rc9 := R9.cell; have rf9 := R9.free))
  go_quiet (fail)
  go_wp2
  refine bodyPost_ret (v := .tuple #[noPage, .int .i64 7]) (by rw [results_cell_tmp rfl]; go_simp) rfl ⟨rfl, ?_⟩
  repeat (refine Below.setCell ?_ (by exact Nat.le_refl _) _)
  exact below_drewN B9 _

set_option maxRecDepth 100000 in
set_option maxHeartbeats 4000000 in
theorem read_fine (b : ByteArray) (w : World) (hs : b.size = 256) (hn : lenB (bts b) ≤ 232) (hv : (pgB (bts b)).ok) (A : ByteArray) (hA : Hid (A = bs (layL (pgB (bts b))))) (e1 : ((A.extract 0 248).toList == (b.extract 0 248).toList) = true) (e2 : ((A.extract 252 256).toList == (b.extract 252 256).toList) = true) (e3 : (A.toList == b.toList) = true) :
    Calls Try.prog 21 #[.string b] w fun e w' => e = .returned (.tuple #[pageV (kindB (bts b)) (idB (bts b)) (sgn (txB (bts b))) (bs (bodyB (bts b))), .int .i64 0]) ∧ Below w.heap.size w w' := by
  have hl : 256 ≤ (bts b).length := by rw [bts_len]; omega
  have hl2 : (bts b).length ≤ 140737488355328 := by rw [bts_len]; omega
  have hs' : ((b.size : Int) != 256) = false := by simp; omega
  have HB := Lib.hid (bs_bts b).symm
  have hRg : ¬ at1 (w.heap.size + 1) w.heap.size := by unfold at1; omega
  have R0 : Blk (w.alloc (.cells #[.int .i64 0, .int .i64 0, .int .i64 0, .string ⟨#[]⟩] 23)) w.heap.size 23 #[.int .i64 0, .int .i64 0, .int .i64 0, .string ⟨#[]⟩] := Blk.new _ _ _
  have hn' : (lenB (bts b) : Int) ≤ 232 := by omega
  have hn0 : (0 : Int) ≤ (lenB (bts b) : Int) := by omega
  have hbl := bodyB_len (bts b) hl hn
  have HV : ∀ w, Calls Try.prog 29 #[pageV (kindB (bts b)) (idB (bts b)) (sgn (txB (bts b))) (bs (bodyB (bts b)))] w fun e w' => e = .returned (.bool true) ∧ Below w.heap.size w w' := fun w => by
    have := valid_any (kindB (bts b)) (idB (bts b)) (sgn (txB (bts b))) (bs (bodyB (bts b))) w (by rw [bs_size]; omega)
    rwa [decide_eq_true ((ok_sgn (txB_lt _)).2 hv)] at this
  have HLAY : ∀ w, Calls Try.prog 44 #[pageV (kindB (bts b)) (idB (bts b)) (sgn (txB (bts b))) (bs (bodyB (bts b)))] w fun e w' => e = .returned (.string A) ∧ Below w.heap.size w w' := fun w => by
    have hsg : sgn (txB (bts b)) = (txB (bts b) : Int) := sgn_ok (by have := hv.2.2.2.1; show txB (bts b) < _; have : txB (bts b) ≤ 1099511627776 := this; omega)
    rw [hsg, hA.out]; exact play_any _ _ _ _ w hv
  have hAs : A.size = 256 := by rw [hA.out, bs_size]; exact layL_len hv
  go_enter Try.func21, Try.ntmps21
  go_wp2_with (first
    | (go_at_call 38; refine (from_at b _ (w.heap.size + 1) (by simp)).mono ?_; rintro e w1 ⟨rfl, G1, b1⟩; rw [HB.out] at G1; have R1 := R0.below b1; have B1 : Below w.heap.size w w1 := below_of b1 ((Below.refl _ _).alloc (Nat.le_refl _) _) (by simp))
    | (go_at_call 39; with_reducible refine (get_kind _ _ _ G1 hl hl2).mono ?_; rintro e w2 ⟨rfl, G2, f2⟩; have B2 := frm_below B1 f2 (by omega) (Nat.le_refl _); have A2 := G2.alloc (.cells #[.int .i64 (kindB (bts b)), .int .i64 0, .int .i64 0, .string ⟨#[]⟩] 23); have RA2 := (R1.frm f2 hRg).alloc (.cells #[.int .i64 (kindB (bts b)), .int .i64 0, .int .i64 0, .string ⟨#[]⟩] 23); have PA2 : Blk (w2.alloc (.cells #[.int .i64 (kindB (bts b)), .int .i64 0, .int .i64 0, .string ⟨#[]⟩] 23)) w2.heap.size 23 #[.int .i64 (kindB (bts b)), .int .i64 0, .int .i64 0, .string ⟨#[]⟩] := Blk.new _ _ _; have hPg : ¬ at1 (w.heap.size + 1) w2.heap.size := by (have := G2.lt; unfold at1; omega))
    | (go_at_call 39; with_reducible refine (get_len _ _ _ A2 hl hl2).mono ?_; rintro e w3 ⟨rfl, G3, f3⟩; have B3 := frm_below (B2.alloc B2.size (.cells #[.int .i64 (kindB (bts b)), .int .i64 0, .int .i64 0, .string ⟨#[]⟩] 23)) f3 (by omega) (Nat.le_refl _); have R3 := RA2.frm f3 hRg; have P3 := PA2.frm f3 hPg)
    | (go_at_call 40; with_reducible refine (get_id _ _ _ G3 hl hl2).mono ?_; rintro e w4 ⟨rfl, G4, f4⟩; have B4 := (frm_below B3 f4 (by omega) (Nat.le_refl _)).setCell (p := ⟨w2.heap.size, 1, none⟩) B2.size (.int .i64 (idB (bts b))); have R4 := R3.frm f4 hRg; have P4 := P3.frm f4 hPg; have pc4 := P4.cell 1; have pf4 := P4.free 1; have A4 := G4.far (i := 1) (show w.heap.size + 1 ≠ w2.heap.size by (have := G2.lt; omega)) (.int .i64 (idB (bts b))); have RA4 := R4.far (p := ⟨w2.heap.size, 1, none⟩) (show w.heap.size ≠ w2.heap.size by (have := G2.lt; omega)) (.int .i64 (idB (bts b))); have PA4 := P4.set_ 1 (.int .i64 (idB (bts b))))
    | (go_at_call 41; with_reducible refine (get_low _ _ _ A4 hl hl2).mono ?_; rintro e w5 ⟨⟨x5, rfl⟩, G5, f5⟩; have B5 := frm_below B4 f5 (by omega) (Nat.le_refl _); have R5 := RA4.frm f5 hRg; have P5 := PA4.frm f5 hPg)
    | (go_at_call 42; with_reducible refine (get_tx _ _ _ G5 hl hl2).mono ?_; rintro e w6 ⟨rfl, G6, f6⟩; have B6 := (frm_below B5 f6 (by omega) (Nat.le_refl _)).setCell (p := ⟨w2.heap.size, 2, none⟩) B2.size (.int .i64 (sgn (txB (bts b)))); have R6 := R5.frm f6 hRg; have P6 := P5.frm f6 hPg; have pc6 := P6.cell 2; have pf6 := P6.free 2; have A6 := G6.far (i := 2) (show w.heap.size + 1 ≠ w2.heap.size by (have := G2.lt; omega)) (.int .i64 (sgn (txB (bts b)))); have RA6 := R6.far (p := ⟨w2.heap.size, 2, none⟩) (show w.heap.size ≠ w2.heap.size by (have := G2.lt; omega)) (.int .i64 (sgn (txB (bts b)))); have PA6 := P6.set_ 2 (.int .i64 (sgn (txB (bts b)))); have rc6 := RA6.cell; have rf6 := RA6.free)
    | (go_at_call 43; with_reducible refine (get_body _ _ _ A6 hl hn hl2).mono ?_; rintro e w7 ⟨rfl, f7⟩; have R7 := RA6.frm f7 hRg; have P7 := PA6.frm f7 hPg; have pc7 := P7.cell; have pf7 := P7.free; have hRP : w.heap.size ≠ w2.heap.size := (by (have := G2.lt; omega)); have B7 := (frm_below B6 f7 (by omega) (Nat.le_refl _)).setCell (p := ⟨w2.heap.size, 3, none⟩) B2.size (str (bodyB (bts b))); have RA7 := R7.far (p := ⟨w2.heap.size, 3, none⟩) hRP (str (bodyB (bts b))); have PA7 := P7.set_ 3 (str (bodyB (bts b))))
    | (go_at_call 29; refine (HV _).mono ?_; rintro e w8 ⟨rfl, b8⟩; have B8 := below_of b8 B7 B7.size; have R8 := RA7.below b8; have P8 := PA7.below b8; have pc8 := P8.cell; have rc8 := R8.cell; have rf8 := R8.free)
    | (go_at_call 44; refine (HLAY _).mono ?_; rintro e w9 ⟨rfl, b9⟩; have B9 := below_of b9 B8 B8.size; have R9 := R8.below b9; have P9 := P8.below b9; have pc9 := P9.cell; have rc9 := R9.cell; have rf9 := R9.free))
  go_quiet (fail)
  go_wp2
  refine bodyPost_ret (v := .tuple #[pageV (kindB (bts b)) (idB (bts b)) (sgn (txB (bts b))) (bs (bodyB (bts b))), .int .i64 0]) (by rw [results_cell_tmp rfl]; go_simp) rfl ⟨rfl, ?_⟩
  repeat (refine Below.setCell ?_ (by exact Nat.le_refl _) _)
  exact below_drewN B9 _

theorem read_any (b : ByteArray) (w : World) (hs : b.size = 256) :
    Calls Try.prog 21 #[.string b] w fun e w' => e = .returned (.tuple #[readV (bts b), .int .i64 (errB (bts b))]) ∧ Below w.heap.size w w' := by
  have hbl : (bts b).length = 256 := by rw [bts_len]; exact hs
  by_cases hn : 232 < lenB (bts b)
  · have e : errB (bts b) = 6 := by unfold errB; rw [if_pos (.inl hn)]
    unfold readV
    rw [e]
    exact read_long b w hs hn
  · by_cases hv : (pgB (bts b)).ok
    · have hsg : sgn (txB (bts b)) = (txB (bts b) : Int) := sgn_ok (by have : txB (bts b) ≤ 1099511627776 := hv.2.2.2.1; omega)
      have c0 : ¬ (232 < lenB (bts b) ∨ ¬ (pgB (bts b)).ok) := by simp [hv]; omega
      have hll := layL_len hv
      have f1 : ∀ _ : Nat, (((bs (layL (pgB (bts b)))).extract 0 248).toList == (b.extract 0 248).toList) = decide ((layL (pgB (bts b))).take 248 = (bts b).take 248) := fun _ => by
        rw [str_beq, bts_extract, bts_extract, bts_bs]; rfl
      have f2 : ∀ _ : Nat, (((bs (layL (pgB (bts b)))).extract 252 256).toList == (b.extract 252 256).toList) = decide ((layL (pgB (bts b))).drop 252 = (bts b).drop 252) := fun _ => by
        rw [str_beq, bts_extract, bts_extract, bts_bs, List.take_of_length_le (by omega), List.take_of_length_le (by omega)]
      have f3 : ∀ _ : Nat, ((bs (layL (pgB (bts b)))).toList == b.toList) = decide (layL (pgB (bts b)) = bts b) := fun _ => by
        rw [str_beq, bts_bs]
      by_cases h1 : (layL (pgB (bts b))).take 248 = (bts b).take 248
      · by_cases h2 : (layL (pgB (bts b))).drop 252 = (bts b).drop 252
        · by_cases h3 : layL (pgB (bts b)) = bts b
          · have e : errB (bts b) = 0 := by unfold errB; rw [if_neg c0, if_neg (by simp [h1, h2]), if_neg (by simp [h3])]
            unfold readV
            rw [e, if_pos rfl, ← hsg]
            exact read_fine b w hs (by omega) hv _ (Lib.hid rfl) ((f1 0).trans (decide_eq_true h1)) ((f2 0).trans (decide_eq_true h2)) ((f3 0).trans (decide_eq_true h3))
          · have e : errB (bts b) = 7 := by unfold errB; rw [if_neg c0, if_neg (by simp [h1, h2]), if_pos h3]
            unfold readV
            rw [e]
            exact read_sum b w hs (by omega) hv _ (Lib.hid rfl) ((f1 0).trans (decide_eq_true h1)) ((f2 0).trans (decide_eq_true h2)) ((f3 0).trans (decide_eq_false h3))
        · have e : errB (bts b) = 6 := by unfold errB; rw [if_neg c0, if_pos (.inr h2)]
          unfold readV
          rw [e]
          exact read_tail b w hs (by omega) hv _ (Lib.hid rfl) ((f1 0).trans (decide_eq_true h1)) ((f2 0).trans (decide_eq_false h2))
      · have e : errB (bts b) = 6 := by unfold errB; rw [if_neg c0, if_pos (.inl h1)]
        unfold readV
        rw [e]
        exact read_front b w hs (by omega) hv _ (Lib.hid rfl) ((f1 0).trans (decide_eq_false h1))
    · have e : errB (bts b) = 6 := by unfold errB; rw [if_pos (.inr hv)]
      unfold readV
      rw [e]
      exact read_bad b w hs (by omega) hv
end Go.Proofs.Ytkgcihhpcbodnaa
