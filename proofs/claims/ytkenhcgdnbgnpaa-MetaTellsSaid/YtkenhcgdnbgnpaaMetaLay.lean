/-
  What meta.Valid, meta.Slot and meta.Lay give for every meta. Condition: numbers that are ints.
-/
import Derived.Test.YtkenhcgdnbgnpaaMetaPlain
namespace Go.Proofs.Ytkenhcgdnbgnpaa
open Go Go.RowKit
attribute [local go_sem] cell_set_if

theorem i64_and1 (n : Int) : bits .and .i64 n 1 = n % 2 := by
  have h127 : (BitVec.ofInt 64 1).toNat = 2 ^ 1 - 1 := by decide
  have key : (BitVec.ofInt 64 n &&& BitVec.ofInt 64 1).toNat = (n % ((2 ^ 64 : Nat) : Int)).toNat % 2 ^ 1 := by
    rw [BitVec.toNat_and, BitVec.toNat_ofInt, h127, Nat.and_two_pow_sub_one_eq_mod]
  show IntKind.i64.wrap ((BitVec.ofInt 64 n &&& BitVec.ofInt 64 1).toNat : Nat) = n % 2
  rw [key, IntKind.wrap_i64]
  omega
theorem slot_any (x : Int) (w : World) :
    Calls Try.prog 10 #[.int .i64 x] w fun e w' => e = .returned (.int .i64 (x % 2)) ∧ w' = w := by
  have h := i64_and1 x
  go_enter Try.func10, Try.ntmps10
  go_wp2
  go_ret
  exact ⟨rfl, rfl⟩

/-- A meta's cells. -/
def Mc (w : World) (g : Nat) (m : Mt) : Prop := w.cell? ⟨g, 0, none⟩ = some (.int .i64 m.tx) ∧ w.cell? ⟨g, 1, none⟩ = some (.int .i64 m.ro) ∧ w.cell? ⟨g, 2, none⟩ = some (.int .i64 m.fr) ∧ w.cell? ⟨g, 3, none⟩ = some (.int .i64 m.pg)
section
variable {w w' : World} {g : Nat} {m : Mt}
theorem Mc.lt (h : Mc w g m) : g < w.heap.size := block_lt_of_cell h.1
theorem Mc.below {B : Nat} (h : Mc w g m) (hb : Below B w w') (hg : g < B) : Mc w' g m := by
  obtain ⟨hc, _⟩ := below_cells hb
  unfold Mc
  rw [hc g 0 hg, hc g 1 hg, hc g 2 hg, hc g 3 hg]
  exact h
theorem Mc.step (h : Mc w g m) (hb : Below w.heap.size w w') : Mc w' g m := h.below hb h.lt
theorem Mc.alloc (h : Mc w g m) (o : Obj) : Mc (w.alloc o) g m := h.step ((Below.refl _ _).alloc (Nat.le_refl _) o)
end
theorem Mc.new_at (w : World) (m : Mt) (T : TypeId) (g : Nat) (hg : g = w.heap.size) : Mc (w.alloc (.cells #[.int .i64 m.tx, .int .i64 m.ro, .int .i64 m.fr, .int .i64 m.pg] T)) g m := by
  subst hg; unfold Mc; simp [World.cell?_alloc_new]
/-- Four numbers. -/
abbrev m4 (a r f p : Int) : Value := .agg #[.int .i64 a, .int .i64 r, .int .i64 f, .int .i64 p]

theorem place_any (a r f p x : Int) (w : World) :
    Calls Try.prog 20 #[m4 a r f p, .int .i64 x] w fun e w' => e = .returned (.bool (decide (placeP ⟨a, r, f, p⟩ x))) ∧ Below w.heap.size w w' := by
  have hc : x = 0 ∨ (x ≠ 0 ∧ 2 ≤ x ∧ x < p) ∨ (x ≠ 0 ∧ 2 ≤ x ∧ p ≤ x) ∨ (x ≠ 0 ∧ x < 2) := by omega
  rcases hc with h | ⟨h, h2, h3⟩ | ⟨h, h2, h3⟩ | ⟨h, h2⟩
  · rw [decide_eq_true (show placeP ⟨a, r, f, p⟩ x from .inl h)]
    have hb : (x == 0) = true := by simpa using h
    clear h
    go_enter Try.func20, Try.ntmps20
    go_wp2
    go_ret
    exact ⟨rfl, (Below.refl _ _).alloc (Nat.le_refl _) _⟩
  · rw [decide_eq_true (show placeP ⟨a, r, f, p⟩ x from .inr ⟨h2, h3⟩)]
    have hb : (x == 0) = false := by simpa using h
    clear h
    go_enter Try.func20, Try.ntmps20
    go_wp2
    go_ret
    exact ⟨rfl, (Below.refl _ _).alloc (Nat.le_refl _) _⟩
  all_goals
    rw [decide_eq_false (show ¬ placeP ⟨a, r, f, p⟩ x by unfold placeP; simp only []; omega)]
    have hb : (x == 0) = false := by simpa using h
    clear h
    go_enter Try.func20, Try.ntmps20
    go_wp2
    go_ret
    exact ⟨ret_bool (by first | rfl | (simp; omega)), (Below.refl _ _).alloc (Nat.le_refl _) _⟩

set_option maxRecDepth 100000 in
set_option maxHeartbeats 2000000 in
theorem mvalid_any (a r f p : Int) (w : World) :
    Calls Try.prog 8 #[m4 a r f p] w fun e w' => e = .returned (.bool (decide (okM ⟨a, r, f, p⟩))) ∧ Below w.heap.size w w' := by
  have hP1 := fun w => place_any a r f p r w
  have hP2 := fun w => place_any a r f p f w
  obtain ⟨p1, y1⟩ : ∃ x, decide (placeP ⟨a, r, f, p⟩ r) = x := ⟨_, rfl⟩
  obtain ⟨p2, y2⟩ : ∃ x, decide (placeP ⟨a, r, f, p⟩ f) = x := ⟨_, rfl⟩
  rw [y1] at hP1
  rw [y2] at hP2
  obtain ⟨x1, z1⟩ : ∃ x, (r == 0) = x := ⟨_, rfl⟩
  obtain ⟨x2, z2⟩ : ∃ x, (r != f) = x := ⟨_, rfl⟩
  have hok : decide (okM ⟨a, r, f, p⟩) = (decide (1 ≤ a) && decide (a ≤ 1099511627776) && decide (2 ≤ p) && decide (p ≤ 4000) && p1 && p2 && (x1 || x2)) := by
    rw [← y1, ← y2, ← z1, ← z2, Bool.eq_iff_iff, decide_eq_true_iff]
    simp [okM, and_assoc]
  rw [hok]
  clear hok y1 y2
  by_cases c1 : 1 ≤ a
  · by_cases c2 : a ≤ 1099511627776
    · by_cases c3 : 2 ≤ p
      · by_cases c4 : p ≤ 4000
        · rw [decide_eq_true c1, decide_eq_true c2, decide_eq_true c3, decide_eq_true c4]
          cases p1
          · go_enter Try.func8, Try.ntmps8
            go_wp2_with (first
              | (go_at_call 20; with_reducible refine (hP1 _).mono ?_; rintro e w1 ⟨rfl, b1⟩; have M1 := (Mc.new_at w ⟨a, r, f, p⟩ _ w.heap.size rfl).step b1; have UM1 := M1; unfold Mc at UM1))
            go_ret
            exact ⟨rfl, below_of b1 ((Below.refl _ _).alloc (Nat.le_refl _) _) (by simp)⟩
          · cases p2
            · go_enter Try.func8, Try.ntmps8
              go_wp2_with (first
                | (go_at_call 20; with_reducible refine (hP1 _).mono ?_; rintro e w1 ⟨rfl, b1⟩; have M1 := (Mc.new_at w ⟨a, r, f, p⟩ _ w.heap.size rfl).step b1; have UM1 := M1; unfold Mc at UM1)
                | (go_at_call 20; with_reducible refine (hP2 _).mono ?_; rintro e w2 ⟨rfl, b2⟩; have M2 := M1.step b2; have UM2 := M2; unfold Mc at UM2))
              go_ret
              exact ⟨rfl, below_of b2 (below_of b1 ((Below.refl _ _).alloc (Nat.le_refl _) _) (by simp)) (by have := b1.size; simp at this; omega)⟩
            · cases x1 <;> cases x2
              all_goals
                go_enter Try.func8, Try.ntmps8
                go_wp2_with (first
                  | (go_at_call 20; with_reducible refine (hP1 _).mono ?_; rintro e w1 ⟨rfl, b1⟩; have M1 := (Mc.new_at w ⟨a, r, f, p⟩ _ w.heap.size rfl).step b1; have UM1 := M1; unfold Mc at UM1)
                  | (go_at_call 20; with_reducible refine (hP2 _).mono ?_; rintro e w2 ⟨rfl, b2⟩; have M2 := M1.step b2; have UM2 := M2; unfold Mc at UM2))
                go_ret
                exact ⟨rfl, below_of b2 (below_of b1 ((Below.refl _ _).alloc (Nat.le_refl _) _) (by simp)) (by have := b1.size; simp at this; omega)⟩
        · rw [decide_eq_true c1, decide_eq_true c2, decide_eq_true c3, decide_eq_false c4]
          have c4' : 4000 < p := by omega
          go_enter Try.func8, Try.ntmps8
          go_wp2
          go_ret
          exact ⟨ret_bool (by first | rfl | (simp; omega)), (Below.refl _ _).alloc (Nat.le_refl _) _⟩
      · rw [decide_eq_true c1, decide_eq_true c2, decide_eq_false c3]
        have c3' : p < 2 := by omega
        go_enter Try.func8, Try.ntmps8
        go_wp2
        go_ret
        exact ⟨ret_bool (by first | rfl | (simp; omega)), (Below.refl _ _).alloc (Nat.le_refl _) _⟩
    · rw [decide_eq_true c1, decide_eq_false c2]
      have c2' : 1099511627776 < a := by omega
      go_enter Try.func8, Try.ntmps8
      go_wp2
      go_ret
      exact ⟨ret_bool (by first | rfl | (simp; omega)), (Below.refl _ _).alloc (Nat.le_refl _) _⟩
  · rw [decide_eq_false c1]
    have c1' : a < 1 := by omega
    go_enter Try.func8, Try.ntmps8
    go_wp2
    go_ret
    exact ⟨ret_bool (by first | rfl | (simp; omega)), (Below.refl _ _).alloc (Nat.le_refl _) _⟩

theorem mlay_no (a r f p : Int) (w : World) (h : ¬ okM ⟨a, r, f, p⟩) :
    Calls Try.prog 5 #[m4 a r f p] w fun e w' => e = .returned (.tuple #[.string ⟨#[]⟩, .int .i64 1]) ∧ Below w.heap.size w w' := by
  have hv := fun w => mvalid_any a r f p w
  rw [decide_eq_false h] at hv
  go_enter Try.func5, Try.ntmps5
  go_wp2_with (go_at_call 8; refine (hv _).mono ?_; rintro e w1 ⟨rfl, b1⟩)
  go_ret2
  exact ⟨rfl, below_of b1 ((Below.refl _ _).alloc (Nat.le_refl _) _) (by simp)⟩

set_option maxRecDepth 100000 in
set_option maxHeartbeats 4000000 in
theorem mlay_ok (a r f p : Nat) (w : World) (h : okM ⟨a, r, f, p⟩) :
    Calls Try.prog 5 #[m4 a r f p] w fun e w' => e = .returned (.tuple #[str (layM ⟨a, r, f, p⟩), .int .i64 0]) ∧ Below w.heap.size w w' := by
  have hv := fun w => mvalid_any a r f p w
  rw [decide_eq_true h] at hv
  have hb : bodyM ⟨a, r, f, p⟩ = lowB a 8 ++ (lowB r 8 ++ (lowB f 8 ++ lowB p 8)) := by simp [bodyM]
  have hpg : pgM ⟨a, r, f, p⟩ = ⟨1, a % 2, a, bodyM ⟨a, r, f, p⟩⟩ := by simp [pgM]
  have hL : ∀ w, Calls Try.prog 19 #[.agg #[.int .i64 1, .int .i64 ((a % 2 : Nat) : Int), .int .i64 a, str (bodyM ⟨a, r, f, p⟩)]] w fun e w' => e = .returned (.tuple #[str (layM ⟨a, r, f, p⟩), .int .i64 0]) ∧ Below w.heap.size w w' := fun w => by
    have := lay_ok 1 (a % 2) a (bs (bodyM ⟨a, r, f, p⟩)) w (by rw [bts_bs, ← hpg]; exact pgM_ok h)
    rw [bts_bs, ← hpg] at this
    exact this
  obtain ⟨h1, h2, h3, h4, h5, h6, _⟩ := h
  unfold placeP at h5 h6
  simp only [] at h1 h2 h3 h4 h5 h6
  have v1 : a < 9223372036854775808 := by omega
  have v2 : r < 9223372036854775808 := by omega
  have v3 : f < 9223372036854775808 := by omega
  have v4 : p < 9223372036854775808 := by omega
  have hsl : ∀ w, Calls Try.prog 10 #[.int .i64 a] w fun e w' => e = .returned (.int .i64 ((a % 2 : Nat) : Int)) ∧ w' = w := fun w => slot_any a w
  obtain ⟨q, hq⟩ : ∃ q, a % 2 = q := ⟨_, rfl⟩
  rw [hq] at hL hsl
  clear hq hpg h1 h2 h3 h4 h5 h6
  rw [hb] at hL
  generalize layM ⟨a, r, f, p⟩ = R at hL ⊢
  go_enter Try.func5, Try.ntmps5
  go_wp2_with (go_at_call 8; refine (hv _).mono ?_; rintro e w1 ⟨rfl, b1⟩; have M1 := (Mc.new_at w ⟨a, r, f, p⟩ _ w.heap.size rfl).step b1; have B1 := below_of b1 ((Below.refl _ _).alloc (Nat.le_refl _) _) (by simp))
  have P0 : PutAt w1.heap.size (w1.alloc (.cells #[.slice none 0 0, .int .i64 0] 46)).drew w1.heap.size [] := (PutAt.new w1 w1.heap.size (Nat.le_refl _)).drew
  have C0 : Mc (w1.alloc (.cells #[.slice none 0 0, .int .i64 0] 46)).drew w.heap.size ⟨a, r, f, p⟩ := M1.step (((Below.refl _ _).alloc (Nat.le_refl _) _).drew)
  have B0 : Below w.heap.size w (w1.alloc (.cells #[.slice none 0 0, .int .i64 0] 46)).drew := (B1.alloc B1.size _).drew
  have HG : w.heap.size < w1.heap.size := M1.lt
  have B1s := B1.size
  generalize w1.alloc (.cells #[.slice none 0 0, .int .i64 0] 46) = W at P0 C0 B0 ⊢
  generalize w1.heap.size = G at P0 HG B1s ⊢
  have l0 : ([] : List UInt8).length ≤ 140737488351000 := by simp
  have l1 : ([] ++ lowB a 8).length ≤ 140737488351000 := by simp [lowB_len]
  have l2 : ([] ++ lowB a 8 ++ lowB r 8).length ≤ 140737488351000 := by simp [lowB_len]
  have l3 : ([] ++ lowB a 8 ++ lowB r 8 ++ lowB f 8).length ≤ 140737488351000 := by simp [lowB_len]
  have D0 := C0
  unfold Mc at D0
  go_region_held3 (fun w' => w'.cell? ⟨w.heap.size, 0, none⟩ = some (.int .i64 a) ∧ w'.cell? ⟨w.heap.size, 1, none⟩ = some (.int .i64 r) ∧ w'.cell? ⟨w.heap.size, 2, none⟩ = some (.int .i64 f) ∧ w'.cell? ⟨w.heap.size, 3, none⟩ = some (.int .i64 p))
    (with_reducible assumption)
    (first
      | (go_at_call 17; with_reducible refine (pint_any G G [] a _ P0 v1 l0).mono ?_; rintro e w2 ⟨rfl, P2, b2⟩; have C2 := C0.below b2 HG; have B2 := below_of b2 B0 B1s; have D2 := C2; unfold Mc at D2)
      | (go_at_call 17; with_reducible refine (pint_any G G _ r _ P2 v2 l1).mono ?_; rintro e w3 ⟨rfl, P3, b3⟩; have C3 := C2.below b3 HG; have B3 := below_of b3 B2 B1s; have D3 := C3; unfold Mc at D3)
      | (go_at_call 17; with_reducible refine (pint_any G G _ f _ P3 v3 l2).mono ?_; rintro e w4 ⟨rfl, P4, b4⟩; have C4 := C3.below b4 HG; have B4 := below_of b4 B3 B1s; have D4 := C4; unfold Mc at D4)
      | (go_at_call 17; with_reducible refine (pint_any G G _ p _ P4 v4 l3).mono ?_; rintro e w5 ⟨rfl, P5, b5⟩; have C5 := C4.below b5 HG; have B5 := below_of b5 B4 B1s; have D5 := C5; unfold Mc at D5)
      | (go_at_call 18; with_reducible refine (pend_any G G _ _ P5).mono ?_; rintro e w6 ⟨rfl, hw6⟩; subst hw6))
  go_wp2
  have C6 : Mc w6.drew w.heap.size ⟨a, r, f, p⟩ := C5
  have B6 : Below w.heap.size w w6.drew := B5.drew
  have D6 := C6
  unfold Mc at D6
  clear D5 C5
  go_region_held3 (fun w' => w'.cell? ⟨w.heap.size, 0, none⟩ = some (.int .i64 a) ∧ w'.cell? ⟨w.heap.size, 1, none⟩ = some (.int .i64 r) ∧ w'.cell? ⟨w.heap.size, 2, none⟩ = some (.int .i64 f) ∧ w'.cell? ⟨w.heap.size, 3, none⟩ = some (.int .i64 p))
    (with_reducible assumption)
    (first
      | (go_at_call 10; refine (hsl _).mono ?_; rintro e w7 ⟨rfl, hw7⟩; subst hw7)
      | (go_at_call 19; refine (hL _).mono ?_; rintro e w8 ⟨rfl, b8⟩; have C8 := C6.step b8; have B8 := below_of b8 B6 B6.size; have D8 := C8; unfold Mc at D8))
  all_goals
    go_wp2
    go_ret2
    exact ⟨rfl, B8⟩
end Go.Proofs.Ytkenhcgdnbgnpaa
