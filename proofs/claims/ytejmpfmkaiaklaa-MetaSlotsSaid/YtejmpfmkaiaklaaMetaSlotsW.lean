/-
  The walk of the law MetaSlots: for every input it returns true and changes nothing that was there. Condition: numbers that are ints.
-/
import Derived.Test.YtejmpfmkaiaklaaMetaLaws
namespace Go.Proofs.Ytejmpfmkaiaklaa
open Go Go.RowKit
attribute [local go_sem] cell_set_if

set_option maxRecDepth 100000 in
set_option maxHeartbeats 2000000 in
theorem slots_no (a r f p a2 r2 f2 p2 : Int) (w : World) (h : ¬ okM ⟨a, r, f, p⟩ ∨ ¬ okM ⟨a2, r2, f2, p2⟩) :
    Calls Try.prog 11 #[m4 a r f p, m4 a2 r2 f2 p2] w fun e w' => e = .returned (.bool true) ∧ Below w.heap.size w w' := by
  have hany : ∀ a r f p : Int, ∃ (S : ByteArray) (E : Int), (okM ⟨a, r, f, p⟩ ∧ E = 0 ∨ ¬ okM ⟨a, r, f, p⟩ ∧ E = 1 ∧ S = ⟨#[]⟩) ∧ ∀ w, Calls Try.prog 36 #[m4 a r f p] w fun e w' => e = .returned (.tuple #[.string S, .int .i64 E]) ∧ Below w.heap.size w w' := by
    intro a r f p
    by_cases ho : okM ⟨a, r, f, p⟩
    · obtain ⟨a', r', f', p', hm⟩ := okM_nats ho
      injection hm with m1 m2 m3 m4'
      subst m1 m2 m3 m4'
      exact ⟨_, _, .inl ⟨ho, rfl⟩, fun w => mlay_ok a' r' f' p' w ho⟩
    · exact ⟨_, _, .inr ⟨ho, rfl, rfl⟩, fun w => mlay_no _ _ _ _ w ho⟩
  obtain ⟨S1, E1, k1, hL1⟩ := hany a r f p
  obtain ⟨S2, E2, k2, hL2⟩ := hany a2 r2 f2 p2
  have hV := fun w => mvalid_any a r f p w
  have hc : (decide (okM ⟨a, r, f, p⟩) = false ∧ E1 = 1 ∧ S1 = ⟨#[]⟩) ∨ (decide (okM ⟨a, r, f, p⟩) = true ∧ E1 = 0 ∧ E2 = 1) := by
    rcases k1 with ⟨x, y⟩ | ⟨x, y, z⟩
    · rcases k2 with ⟨x2, y2⟩ | ⟨x2, y2, z2⟩
      · exact absurd h (by simp [x, x2])
      · exact .inr ⟨decide_eq_true x, y, y2⟩
    · exact .inl ⟨decide_eq_false x, y, z⟩
  clear h k1 k2 hany
  rcases hc with ⟨h1, rfl, rfl⟩ | ⟨h1, rfl, rfl⟩
  all_goals
    rw [h1] at hV
    clear h1
    go_enter Try.func11, Try.ntmps11
    go_wp2_with (first
      | (go_at_call 35; refine (alive6_any _).mono ?_; rintro e w1 ⟨rfl, b1⟩; have M1 := ((Mc.new_at w ⟨a, r, f, p⟩ 59 w.heap.size rfl).alloc _).step b1; have N1 := (Mc.new_at _ ⟨a2, r2, f2, p2⟩ 59 (w.heap.size + 1) (by simp)).step b1; have B1 := below_of b1 (((Below.refl _ _).alloc (Nat.le_refl _) _).alloc (by simp) _) (by simp; omega); have UM1 := M1; have UN1 := N1; unfold Mc at UM1 UN1)
      | (go_at_call 36; with_reducible refine (hL1 _).mono ?_; rintro e w2 ⟨rfl, b2⟩; have M2 := M1.step b2; have N2 := N1.step b2; have B2 := below_of b2 B1 B1.size; have UM2 := M2; have UN2 := N2; unfold Mc at UM2 UN2)
      | (go_at_call 36; with_reducible refine (hL2 _).mono ?_; rintro e w3 ⟨rfl, b3⟩; have M3 := M2.step b3; have B3 := below_of b3 B2 B2.size; have UM3 := M3; unfold Mc at UM3)
      | (go_at_call 39; refine (hV _).mono ?_; rintro e w4 ⟨rfl, b4⟩; have B4 := below_of b4 B3 B3.size))
    go_ret
    exact ⟨rfl, B4⟩

/-- Which one counts. -/
theorem Blk.new_at (w : World) (t : TypeId) (cs : Array Value) (g : Nat) (hg : g = w.heap.size) : Blk (w.alloc (.cells cs t)) g t cs := by subst hg; exact Blk.new w t cs
theorem row2 {w : World} {g : Nat} {t : TypeId} {x y : Value} (h : Blk w g t #[x, y]) : w.cell? ⟨g, 0, none⟩ = some x ∧ w.cell? ⟨g, 1, none⟩ = some y := ⟨h.cell 0, h.cell 1⟩
theorem ch_one0 {m : Mt} (h : m.tx % 2 = 0) (h1 : 1 ≤ m.tx) : chM m 0 noM 5 = m := by
  unfold chM ch2 ch1; rw [if_neg (by omega), if_pos ⟨rfl, h, by omega⟩]
theorem ch_one1 {m : Mt} (h : m.tx % 2 = 1) (h1 : 1 ≤ m.tx) : chM noM 5 m 0 = m := by
  have e : ch1 noM 5 = noM := rfl
  unfold chM ch2; rw [e, if_pos ⟨rfl, h, by show 0 < m.tx; omega⟩]
theorem ch_bad0 {m : Mt} (h : m.tx % 2 = 0) : chM noM 5 m 0 = noM := by
  have e : ch1 noM 5 = noM := rfl
  unfold chM ch2; rw [e, if_neg (by omega)]
theorem ch_bad1 {m : Mt} (h : m.tx % 2 = 1) : chM m 0 noM 5 = noM := by
  unfold chM ch2 ch1; rw [if_neg (by omega), if_neg (by omega)]
theorem ch_two {m n : Mt} (h : m.tx % 2 = 0) (k : n.tx % 2 = 1) (h1 : 1 ≤ m.tx) : chM m 0 n 0 = if m.tx < n.tx then n else m := by
  have e : ch1 m 0 = m := by unfold ch1; rw [if_pos ⟨rfl, h, by omega⟩]
  unfold chM ch2; rw [e]
  by_cases hl : m.tx < n.tx
  · rw [if_pos ⟨rfl, k, hl⟩, if_pos hl]
  · rw [if_neg (by omega), if_neg hl]

set_option maxRecDepth 100000 in
set_option maxHeartbeats 4000000 in
theorem slots_core0 (a r f p a2 r2 f2 p2 y1 y2 y3 y4 : Int) (S1 S2 : ByteArray) (w : World)
    (hL1 : ∀ w, Calls Try.prog 36 #[m4 a r f p] w fun e w' => e = .returned (.tuple #[.string S1, .int .i64 0]) ∧ Below w.heap.size w w')
    (hL2 : ∀ w, Calls Try.prog 36 #[m4 a2 r2 f2 p2] w fun e w' => e = .returned (.tuple #[.string S2, .int .i64 0]) ∧ Below w.heap.size w w')
    (hq : bits .and .i64 a 1 = 0)
    (K1 : ∀ w, Calls Try.prog 44 #[.string S1, .string ⟨#[]⟩] w fun e w' => e = .returned (.tuple #[m4 a r f p, .int .i64 0]) ∧ Below w.heap.size w w')
    (K2 : ∀ w, Calls Try.prog 44 #[.string ⟨#[]⟩, .string S1] w fun e w' => e = .returned (.tuple #[m4 0 0 0 0, .int .i64 25]) ∧ Below w.heap.size w w')
    (K3 : ∀ w, Calls Try.prog 44 #[.string ⟨#[]⟩, .string ⟨#[]⟩] w fun e w' => e = .returned (.tuple #[m4 0 0 0 0, .int .i64 25]) ∧ Below w.heap.size w w')
    (K4 : bits .and .i64 a2 1 = 0 ∨ (bits .and .i64 a2 1 = 1 ∧ (∀ w, Calls Try.prog 44 #[.string S1, .string S2] w fun e w' => e = .returned (.tuple #[m4 y1 y2 y3 y4, .int .i64 0]) ∧ Below w.heap.size w w') ∧ (a2 < a ∧ a2 ≤ a ∧ y1 = a ∧ y2 = r ∧ y3 = f ∧ y4 = p ∨ a < a2 ∧ a ≤ a2 ∧ y1 = a2 ∧ y2 = r2 ∧ y3 = f2 ∧ y4 = p2))) :
    Calls Try.prog 11 #[m4 a r f p, m4 a2 r2 f2 p2] w fun e w' => e = .returned (.bool true) ∧ Below w.heap.size w w' := by
  have HK := Lib.hid K4
  clear K4
  go_enter Try.func11, Try.ntmps11
  go_wp2_with (first
    | (go_at_call 35; refine (alive6_any _).mono ?_; rintro e w1 ⟨rfl, b1⟩; have M1 := ((Blk.new w 59 #[.int .i64 a, .int .i64 r, .int .i64 f, .int .i64 p]).alloc (.cells #[.int .i64 a2, .int .i64 r2, .int .i64 f2, .int .i64 p2] 59)).below b1; have N1 := (Blk.new_at (w.alloc (.cells #[.int .i64 a, .int .i64 r, .int .i64 f, .int .i64 p] 59)) 59 #[.int .i64 a2, .int .i64 r2, .int .i64 f2, .int .i64 p2] (w.heap.size + 1) (by simp)).below b1; have B1 := below_of b1 (((Below.refl _ _).alloc (Nat.le_refl _) _).alloc (by simp) _) (by simp; omega); have UM1 := M1.cell; have UN1 := N1.cell)
    | (go_at_call 36; with_reducible refine (hL1 _).mono ?_; rintro e w2 ⟨rfl, b2⟩; have M2 := M1.below b2; have N2 := N1.below b2; have B2 := below_of b2 B1 B1.size; have UM2 := M2.cell; have UN2 := N2.cell)
    | (go_at_call 36; with_reducible refine (hL2 _).mono ?_; rintro e w3 ⟨rfl, b3⟩; have M3 := (M2.below b3).alloc (.cells #[.string ⟨#[]⟩, .string ⟨#[]⟩] 9); have N3 := (N2.below b3).alloc (.cells #[.string ⟨#[]⟩, .string ⟨#[]⟩] 9); have B3 := below_of b3 B2 B2.size; have UM3 := M3.cell))
  have RW : Blk (w3.alloc (.cells #[.string S1, .string ⟨#[]⟩] 9)) w3.heap.size 9 #[.string S1, .string ⟨#[]⟩] := Blk.new _ _ _
  have B4 : Below w.heap.size w (w3.alloc (.cells #[.string S1, .string ⟨#[]⟩] 9)) := B3.alloc B3.size _
  have hgl : w.heap.size + 1 < w3.heap.size := (N2.below b3).lt
  have M4 := (M2.below b3).alloc (.cells #[.string S1, .string ⟨#[]⟩] 9)
  have N4 := (N2.below b3).alloc (.cells #[.string S1, .string ⟨#[]⟩] 9)
  generalize w3.alloc (.cells #[.string S1, .string ⟨#[]⟩] 9) = W at RW B4 M4 N4 ⊢
  generalize w3.heap.size = g at RW hgl ⊢
  clear M1 M2 M3 N1 N2 N3 B1 B2 B3 UM1 UM2 UM3 UN1 UN2 hL1 hL2 b1 b2 b3
  go_upto_region 9 with fail
  go_cut [10, 11] from 63 to 71 (fun u v wx => ∃ x : Nat, u = .pointer (some ⟨x, 0, none⟩) ∧ v = .int .i64 0 ∧ Blk wx g 9 #[.string S1, .string ⟨#[]⟩] ∧ Blk wx x 59 #[.int .i64 a, .int .i64 r, .int .i64 f, .int .i64 p] ∧ Blk wx w.heap.size 59 #[.int .i64 a, .int .i64 r, .int .i64 f, .int .i64 p] ∧ Blk wx (w.heap.size + 1) 59 #[.int .i64 a2, .int .i64 r2, .int .i64 f2, .int .i64 p2] ∧ Below w.heap.size w wx)
  case first =>
    have A0 := row2 (RW).drew
    have Az := row2 ((RW).alloc (.cells #[.int .i64 0, .int .i64 0, .int .i64 0, .int .i64 0] 59)).drew
    have hne : ((W).heap.size = g) = False := by have := (RW).lt; simp; omega
    go_region_held3 (fun w' => w'.cell? ⟨g, 0, none⟩ = some (.string S1) ∧ w'.cell? ⟨g, 1, none⟩ = some (.string ⟨#[]⟩))
      (first | exact A0 | with_reducible assumption | (simp only [cell_set_if, hne, false_and, if_false]; with_reducible assumption))
      (first
        | (go_at_call 44; with_reducible refine (K1 (W).drew).mono ?_; rintro e w5 ⟨rfl, b5⟩; have R5 := (RW).drew.below b5; have D5 := row2 R5; have D5z := row2 (R5.alloc (.cells #[.int .i64 0, .int .i64 0, .int .i64 0, .int .i64 0] 59)); have R5a := R5.alloc (.cells #[.int .i64 a, .int .i64 r, .int .i64 f, .int .i64 p] 59); have D5a := row2 R5a)
        | (go_at_call 44; with_reducible refine (K1 ((W).alloc (.cells #[.int .i64 0, .int .i64 0, .int .i64 0, .int .i64 0] 59)).drew).mono ?_; rintro e w5 ⟨rfl, b5⟩; have R5 := ((RW).alloc (.cells #[.int .i64 0, .int .i64 0, .int .i64 0, .int .i64 0] 59)).drew.below b5; have D5 := row2 R5; have Z5 := (Blk.new (W) 59 #[.int .i64 0, .int .i64 0, .int .i64 0, .int .i64 0]).drew.below b5; have zc := Z5.cell; have zf := Z5.free))
    all_goals (go_wp2_with fail; go_meet)
    all_goals first
      | exact ⟨w5.heap.size, rfl, rfl, R5a, Blk.new _ _ _, ((M4).drew.below b5).alloc _, ((N4).drew.below b5).alloc _, (below_of b5 (B4).drew (B4).size).alloc (below_of b5 (B4).drew (B4).size).size _⟩
      | exact ⟨(W).heap.size, rfl, rfl, (((R5.far (p := ⟨(W).heap.size, 0, none⟩) (by show g ≠ (W).heap.size; have := (RW).lt; omega) _).far (p := ⟨(W).heap.size, 1, none⟩) (by show g ≠ (W).heap.size; have := (RW).lt; omega) _).far (p := ⟨(W).heap.size, 2, none⟩) (by show g ≠ (W).heap.size; have := (RW).lt; omega) _).far (p := ⟨(W).heap.size, 3, none⟩) (by show g ≠ (W).heap.size; have := (RW).lt; omega) _, (((Z5.set_ 0 (.int .i64 a)).set_ 1 (.int .i64 r)).set_ 2 (.int .i64 f)).set_ 3 (.int .i64 p), ((((((M4).alloc (.cells #[.int .i64 0, .int .i64 0, .int .i64 0, .int .i64 0] 59)).drew.below b5).far (p := ⟨(W).heap.size, 0, none⟩) (by show _ ≠ (W).heap.size; have := (M4).lt; omega) _).far (p := ⟨(W).heap.size, 1, none⟩) (by show _ ≠ (W).heap.size; have := (M4).lt; omega) _).far (p := ⟨(W).heap.size, 2, none⟩) (by show _ ≠ (W).heap.size; have := (M4).lt; omega) _).far (p := ⟨(W).heap.size, 3, none⟩) (by show _ ≠ (W).heap.size; have := (M4).lt; omega) _, ((((((N4).alloc (.cells #[.int .i64 0, .int .i64 0, .int .i64 0, .int .i64 0] 59)).drew.below b5).far (p := ⟨(W).heap.size, 0, none⟩) (by show _ ≠ (W).heap.size; have := (N4).lt; omega) _).far (p := ⟨(W).heap.size, 1, none⟩) (by show _ ≠ (W).heap.size; have := (N4).lt; omega) _).far (p := ⟨(W).heap.size, 2, none⟩) (by show _ ≠ (W).heap.size; have := (N4).lt; omega) _).far (p := ⟨(W).heap.size, 3, none⟩) (by show _ ≠ (W).heap.size; have := (N4).lt; omega) _, ((((below_of b5 ((B4).alloc (B4).size _).drew ((B4).alloc (B4).size _).size).setCell (p := ⟨(W).heap.size, 0, none⟩) (B4).size _).setCell (p := ⟨(W).heap.size, 1, none⟩) (B4).size _).setCell (p := ⟨(W).heap.size, 2, none⟩) (B4).size _).setCell (p := ⟨(W).heap.size, 3, none⟩) (B4).size _⟩
  case rest =>
  obtain ⟨x10, rfl, rfl, Ra, X10, M4a, N4a, Ba⟩ := hcut
  have c1 := Ra.cell
  have c2 := M4a.cell
  have c3 := N4a.cell
  go_upto_region 10 with fail
  go_cut [12, 13] from 73 to 81 (fun u v wx => ∃ x : Nat, u = .pointer (some ⟨x, 0, none⟩) ∧ v = .int .i64 25 ∧ Blk wx g 9 #[.string S1, .string ⟨#[]⟩] ∧ Blk wx x 59 #[.int .i64 0, .int .i64 0, .int .i64 0, .int .i64 0] ∧ Blk wx w.heap.size 59 #[.int .i64 a, .int .i64 r, .int .i64 f, .int .i64 p] ∧ Blk wx (w.heap.size + 1) 59 #[.int .i64 a2, .int .i64 r2, .int .i64 f2, .int .i64 p2] ∧ Blk wx x10 59 #[.int .i64 a, .int .i64 r, .int .i64 f, .int .i64 p] ∧ Below w.heap.size w wx)
  case first =>
    have A0 := row2 (Ra).drew
    have Az := row2 ((Ra).alloc (.cells #[.int .i64 0, .int .i64 0, .int .i64 0, .int .i64 0] 59)).drew
    have hne : ((wc).heap.size = g) = False := by have := (Ra).lt; simp; omega
    go_region_held3 (fun w' => w'.cell? ⟨g, 0, none⟩ = some (.string S1) ∧ w'.cell? ⟨g, 1, none⟩ = some (.string ⟨#[]⟩))
      (first | exact A0 | with_reducible assumption | (simp only [cell_set_if, hne, false_and, if_false]; with_reducible assumption))
      (first
        | (go_at_call 44; with_reducible refine (K2 (wc).drew).mono ?_; rintro e w5 ⟨rfl, b5⟩; have R5 := (Ra).drew.below b5; have D5 := row2 R5; have D5z := row2 (R5.alloc (.cells #[.int .i64 0, .int .i64 0, .int .i64 0, .int .i64 0] 59)); have R5a := R5.alloc (.cells #[.int .i64 0, .int .i64 0, .int .i64 0, .int .i64 0] 59); have D5a := row2 R5a)
        | (go_at_call 44; with_reducible refine (K2 ((wc).alloc (.cells #[.int .i64 0, .int .i64 0, .int .i64 0, .int .i64 0] 59)).drew).mono ?_; rintro e w5 ⟨rfl, b5⟩; have R5 := ((Ra).alloc (.cells #[.int .i64 0, .int .i64 0, .int .i64 0, .int .i64 0] 59)).drew.below b5; have D5 := row2 R5; have Z5 := (Blk.new (wc) 59 #[.int .i64 0, .int .i64 0, .int .i64 0, .int .i64 0]).drew.below b5; have zc := Z5.cell; have zf := Z5.free))
    all_goals (go_wp2_with fail; go_meet)
    all_goals first
      | exact ⟨w5.heap.size, rfl, rfl, R5a, Blk.new _ _ _, ((M4a).drew.below b5).alloc _, ((N4a).drew.below b5).alloc _, ((X10).drew.below b5).alloc _, (below_of b5 (Ba).drew (Ba).size).alloc (below_of b5 (Ba).drew (Ba).size).size _⟩
      | exact ⟨(wc).heap.size, rfl, rfl, (((R5.far (p := ⟨(wc).heap.size, 0, none⟩) (by show g ≠ (wc).heap.size; have := (Ra).lt; omega) _).far (p := ⟨(wc).heap.size, 1, none⟩) (by show g ≠ (wc).heap.size; have := (Ra).lt; omega) _).far (p := ⟨(wc).heap.size, 2, none⟩) (by show g ≠ (wc).heap.size; have := (Ra).lt; omega) _).far (p := ⟨(wc).heap.size, 3, none⟩) (by show g ≠ (wc).heap.size; have := (Ra).lt; omega) _, (((Z5.set_ 0 (.int .i64 0)).set_ 1 (.int .i64 0)).set_ 2 (.int .i64 0)).set_ 3 (.int .i64 0), ((((((M4a).alloc (.cells #[.int .i64 0, .int .i64 0, .int .i64 0, .int .i64 0] 59)).drew.below b5).far (p := ⟨(wc).heap.size, 0, none⟩) (by show _ ≠ (wc).heap.size; have := (M4a).lt; omega) _).far (p := ⟨(wc).heap.size, 1, none⟩) (by show _ ≠ (wc).heap.size; have := (M4a).lt; omega) _).far (p := ⟨(wc).heap.size, 2, none⟩) (by show _ ≠ (wc).heap.size; have := (M4a).lt; omega) _).far (p := ⟨(wc).heap.size, 3, none⟩) (by show _ ≠ (wc).heap.size; have := (M4a).lt; omega) _, ((((((N4a).alloc (.cells #[.int .i64 0, .int .i64 0, .int .i64 0, .int .i64 0] 59)).drew.below b5).far (p := ⟨(wc).heap.size, 0, none⟩) (by show _ ≠ (wc).heap.size; have := (N4a).lt; omega) _).far (p := ⟨(wc).heap.size, 1, none⟩) (by show _ ≠ (wc).heap.size; have := (N4a).lt; omega) _).far (p := ⟨(wc).heap.size, 2, none⟩) (by show _ ≠ (wc).heap.size; have := (N4a).lt; omega) _).far (p := ⟨(wc).heap.size, 3, none⟩) (by show _ ≠ (wc).heap.size; have := (N4a).lt; omega) _, ((((((X10).alloc (.cells #[.int .i64 0, .int .i64 0, .int .i64 0, .int .i64 0] 59)).drew.below b5).far (p := ⟨(wc).heap.size, 0, none⟩) (by show _ ≠ (wc).heap.size; have := (X10).lt; omega) _).far (p := ⟨(wc).heap.size, 1, none⟩) (by show _ ≠ (wc).heap.size; have := (X10).lt; omega) _).far (p := ⟨(wc).heap.size, 2, none⟩) (by show _ ≠ (wc).heap.size; have := (X10).lt; omega) _).far (p := ⟨(wc).heap.size, 3, none⟩) (by show _ ≠ (wc).heap.size; have := (X10).lt; omega) _, ((((below_of b5 ((Ba).alloc (Ba).size _).drew ((Ba).alloc (Ba).size _).size).setCell (p := ⟨(wc).heap.size, 0, none⟩) (Ba).size _).setCell (p := ⟨(wc).heap.size, 1, none⟩) (Ba).size _).setCell (p := ⟨(wc).heap.size, 2, none⟩) (Ba).size _).setCell (p := ⟨(wc).heap.size, 3, none⟩) (Ba).size _⟩
  case rest =>
  obtain ⟨x12, rfl, rfl, Rb, X12, M4ab, N4ab, X10b, Bb⟩ := hcut
  rcases HK.out with k4 | ⟨k4, K4, hz⟩
  · go_wp2_with (go_at_call 44; refine (K3 _).mono ?_; rintro e w6 ⟨rfl, b6⟩; have R6 := (Rb.below b6).alloc (.cells #[.int .i64 0, .int .i64 0, .int .i64 0, .int .i64 0] 59); have M6 := (M4ab.below b6).alloc (.cells #[.int .i64 0, .int .i64 0, .int .i64 0, .int .i64 0] 59); have N6 := (N4ab.below b6).alloc (.cells #[.int .i64 0, .int .i64 0, .int .i64 0, .int .i64 0] 59); have Y6 := (X10b.below b6).alloc (.cells #[.int .i64 0, .int .i64 0, .int .i64 0, .int .i64 0] 59); have Z6 := (X12.below b6).alloc (.cells #[.int .i64 0, .int .i64 0, .int .i64 0, .int .i64 0] 59); have B6 := (below_of b6 Bb Bb.size).alloc (below_of b6 Bb Bb.size).size (.cells #[.int .i64 0, .int .i64 0, .int .i64 0, .int .i64 0] 59); have u1 := M6.cell; have u2 := N6.cell; have u3 := Y6.cell; have u4 := Z6.cell; have u5 := R6.cell; have u6 := R6.free)
    go_ret
    exact ⟨rfl, B6⟩
  · go_upto_region 17 with (go_at_call 44; refine (K3 _).mono ?_; rintro e w6 ⟨rfl, b6⟩; have R6 := (Rb.below b6).alloc (.cells #[.int .i64 0, .int .i64 0, .int .i64 0, .int .i64 0] 59); have M6 := (M4ab.below b6).alloc (.cells #[.int .i64 0, .int .i64 0, .int .i64 0, .int .i64 0] 59); have N6 := (N4ab.below b6).alloc (.cells #[.int .i64 0, .int .i64 0, .int .i64 0, .int .i64 0] 59); have Y6 := (X10b.below b6).alloc (.cells #[.int .i64 0, .int .i64 0, .int .i64 0, .int .i64 0] 59); have Z6 := (X12.below b6).alloc (.cells #[.int .i64 0, .int .i64 0, .int .i64 0, .int .i64 0] 59); have B6 := (below_of b6 Bb Bb.size).alloc (below_of b6 Bb Bb.size).size (.cells #[.int .i64 0, .int .i64 0, .int .i64 0, .int .i64 0] 59); have u1 := M6.cell; have u2 := N6.cell; have u3 := Y6.cell; have u4 := Z6.cell; have u5 := R6.cell; have u6 := R6.free)
    have R7 : Blk ((w6.alloc (.cells #[.int .i64 0, .int .i64 0, .int .i64 0, .int .i64 0] 59)).setCell ⟨g, 1, none⟩ (.string S2)) g 9 #[.string S1, .string S2] := R6.set_ 1 _
    have M7 : Blk ((w6.alloc (.cells #[.int .i64 0, .int .i64 0, .int .i64 0, .int .i64 0] 59)).setCell ⟨g, 1, none⟩ (.string S2)) w.heap.size 59 #[.int .i64 a, .int .i64 r, .int .i64 f, .int .i64 p] := M6.far (by show w.heap.size ≠ g; omega) _
    have N7 : Blk ((w6.alloc (.cells #[.int .i64 0, .int .i64 0, .int .i64 0, .int .i64 0] 59)).setCell ⟨g, 1, none⟩ (.string S2)) (w.heap.size + 1) 59 #[.int .i64 a2, .int .i64 r2, .int .i64 f2, .int .i64 p2] := N6.far (by show w.heap.size + 1 ≠ g; omega) _
    have B7 : Below w.heap.size w ((w6.alloc (.cells #[.int .i64 0, .int .i64 0, .int .i64 0, .int .i64 0] 59)).setCell ⟨g, 1, none⟩ (.string S2)) := B6.setCell (by show w.heap.size ≤ g; omega) _
    generalize ((w6.alloc (.cells #[.int .i64 0, .int .i64 0, .int .i64 0, .int .i64 0] 59)).setCell ⟨g, 1, none⟩ (.string S2)) = W7 at R7 M7 N7 B7 ⊢
    go_upto_region 17 with fail
    go_cut [16, 17] from 120 to 128 (fun u v wx => ∃ x : Nat, u = .pointer (some ⟨x, 0, none⟩) ∧ v = .int .i64 0 ∧ Blk wx g 9 #[.string S1, .string S2] ∧ Blk wx x 59 #[.int .i64 y1, .int .i64 y2, .int .i64 y3, .int .i64 y4] ∧ Blk wx w.heap.size 59 #[.int .i64 a, .int .i64 r, .int .i64 f, .int .i64 p] ∧ Blk wx (w.heap.size + 1) 59 #[.int .i64 a2, .int .i64 r2, .int .i64 f2, .int .i64 p2] ∧ Below w.heap.size w wx)
    case first =>
      have A0 := row2 (R7).drew
      have Az := row2 ((R7).alloc (.cells #[.int .i64 0, .int .i64 0, .int .i64 0, .int .i64 0] 59)).drew
      have hne : ((W7).heap.size = g) = False := by have := (R7).lt; simp; omega
      go_region_held3 (fun w' => w'.cell? ⟨g, 0, none⟩ = some (.string S1) ∧ w'.cell? ⟨g, 1, none⟩ = some (.string S2))
        (first | exact A0 | with_reducible assumption | (simp only [cell_set_if, hne, false_and, if_false]; with_reducible assumption))
        (first
          | (go_at_call 44; with_reducible refine (K4 (W7).drew).mono ?_; rintro e w5 ⟨rfl, b5⟩; have R5 := (R7).drew.below b5; have D5 := row2 R5; have D5z := row2 (R5.alloc (.cells #[.int .i64 0, .int .i64 0, .int .i64 0, .int .i64 0] 59)); have R5a := R5.alloc (.cells #[.int .i64 y1, .int .i64 y2, .int .i64 y3, .int .i64 y4] 59); have D5a := row2 R5a)
          | (go_at_call 44; with_reducible refine (K4 ((W7).alloc (.cells #[.int .i64 0, .int .i64 0, .int .i64 0, .int .i64 0] 59)).drew).mono ?_; rintro e w5 ⟨rfl, b5⟩; have R5 := ((R7).alloc (.cells #[.int .i64 0, .int .i64 0, .int .i64 0, .int .i64 0] 59)).drew.below b5; have D5 := row2 R5; have Z5 := (Blk.new (W7) 59 #[.int .i64 0, .int .i64 0, .int .i64 0, .int .i64 0]).drew.below b5; have zc := Z5.cell; have zf := Z5.free))
      all_goals (go_wp2_with fail; go_meet)
      all_goals first
        | exact ⟨w5.heap.size, rfl, rfl, R5a, Blk.new _ _ _, ((M7).drew.below b5).alloc _, ((N7).drew.below b5).alloc _, (below_of b5 (B7).drew (B7).size).alloc (below_of b5 (B7).drew (B7).size).size _⟩
        | exact ⟨(W7).heap.size, rfl, rfl, (((R5.far (p := ⟨(W7).heap.size, 0, none⟩) (by show g ≠ (W7).heap.size; have := (R7).lt; omega) _).far (p := ⟨(W7).heap.size, 1, none⟩) (by show g ≠ (W7).heap.size; have := (R7).lt; omega) _).far (p := ⟨(W7).heap.size, 2, none⟩) (by show g ≠ (W7).heap.size; have := (R7).lt; omega) _).far (p := ⟨(W7).heap.size, 3, none⟩) (by show g ≠ (W7).heap.size; have := (R7).lt; omega) _, (((Z5.set_ 0 (.int .i64 y1)).set_ 1 (.int .i64 y2)).set_ 2 (.int .i64 y3)).set_ 3 (.int .i64 y4), ((((((M7).alloc (.cells #[.int .i64 0, .int .i64 0, .int .i64 0, .int .i64 0] 59)).drew.below b5).far (p := ⟨(W7).heap.size, 0, none⟩) (by show _ ≠ (W7).heap.size; have := (M7).lt; omega) _).far (p := ⟨(W7).heap.size, 1, none⟩) (by show _ ≠ (W7).heap.size; have := (M7).lt; omega) _).far (p := ⟨(W7).heap.size, 2, none⟩) (by show _ ≠ (W7).heap.size; have := (M7).lt; omega) _).far (p := ⟨(W7).heap.size, 3, none⟩) (by show _ ≠ (W7).heap.size; have := (M7).lt; omega) _, ((((((N7).alloc (.cells #[.int .i64 0, .int .i64 0, .int .i64 0, .int .i64 0] 59)).drew.below b5).far (p := ⟨(W7).heap.size, 0, none⟩) (by show _ ≠ (W7).heap.size; have := (N7).lt; omega) _).far (p := ⟨(W7).heap.size, 1, none⟩) (by show _ ≠ (W7).heap.size; have := (N7).lt; omega) _).far (p := ⟨(W7).heap.size, 2, none⟩) (by show _ ≠ (W7).heap.size; have := (N7).lt; omega) _).far (p := ⟨(W7).heap.size, 3, none⟩) (by show _ ≠ (W7).heap.size; have := (N7).lt; omega) _, ((((below_of b5 ((B7).alloc (B7).size _).drew ((B7).alloc (B7).size _).size).setCell (p := ⟨(W7).heap.size, 0, none⟩) (B7).size _).setCell (p := ⟨(W7).heap.size, 1, none⟩) (B7).size _).setCell (p := ⟨(W7).heap.size, 2, none⟩) (B7).size _).setCell (p := ⟨(W7).heap.size, 3, none⟩) (B7).size _⟩
    case rest =>
    obtain ⟨x16, rfl, rfl, Rc, X16, M7c, N7c, Bc⟩ := hcut
    have v1 := M7c.cell
    have v2 := N7c.cell
    have v3 := X16.cell
    rcases hz with ⟨z1, z2, rfl, rfl, rfl, rfl⟩ | ⟨z1, z2, rfl, rfl, rfl, rfl⟩
    all_goals
      go_wp2
      go_ret
      exact ⟨rfl, Bc⟩

set_option maxRecDepth 100000 in
set_option maxHeartbeats 4000000 in
theorem slots_core1 (a r f p a2 r2 f2 p2 y1 y2 y3 y4 : Int) (S1 S2 : ByteArray) (w : World)
    (hL1 : ∀ w, Calls Try.prog 36 #[m4 a r f p] w fun e w' => e = .returned (.tuple #[.string S1, .int .i64 0]) ∧ Below w.heap.size w w')
    (hL2 : ∀ w, Calls Try.prog 36 #[m4 a2 r2 f2 p2] w fun e w' => e = .returned (.tuple #[.string S2, .int .i64 0]) ∧ Below w.heap.size w w')
    (hq : bits .and .i64 a 1 = 1)
    (K1 : ∀ w, Calls Try.prog 44 #[.string ⟨#[]⟩, .string S1] w fun e w' => e = .returned (.tuple #[m4 a r f p, .int .i64 0]) ∧ Below w.heap.size w w')
    (K2 : ∀ w, Calls Try.prog 44 #[.string S1, .string ⟨#[]⟩] w fun e w' => e = .returned (.tuple #[m4 0 0 0 0, .int .i64 25]) ∧ Below w.heap.size w w')
    (K3 : ∀ w, Calls Try.prog 44 #[.string ⟨#[]⟩, .string ⟨#[]⟩] w fun e w' => e = .returned (.tuple #[m4 0 0 0 0, .int .i64 25]) ∧ Below w.heap.size w w')
    (K4 : bits .and .i64 a2 1 = 1 ∨ (bits .and .i64 a2 1 = 0 ∧ (∀ w, Calls Try.prog 44 #[.string S2, .string S1] w fun e w' => e = .returned (.tuple #[m4 y1 y2 y3 y4, .int .i64 0]) ∧ Below w.heap.size w w') ∧ (a2 < a ∧ a2 ≤ a ∧ y1 = a ∧ y2 = r ∧ y3 = f ∧ y4 = p ∨ a < a2 ∧ a ≤ a2 ∧ y1 = a2 ∧ y2 = r2 ∧ y3 = f2 ∧ y4 = p2))) :
    Calls Try.prog 11 #[m4 a r f p, m4 a2 r2 f2 p2] w fun e w' => e = .returned (.bool true) ∧ Below w.heap.size w w' := by
  have HK := Lib.hid K4
  clear K4
  go_enter Try.func11, Try.ntmps11
  go_wp2_with (first
    | (go_at_call 35; refine (alive6_any _).mono ?_; rintro e w1 ⟨rfl, b1⟩; have M1 := ((Blk.new w 59 #[.int .i64 a, .int .i64 r, .int .i64 f, .int .i64 p]).alloc (.cells #[.int .i64 a2, .int .i64 r2, .int .i64 f2, .int .i64 p2] 59)).below b1; have N1 := (Blk.new_at (w.alloc (.cells #[.int .i64 a, .int .i64 r, .int .i64 f, .int .i64 p] 59)) 59 #[.int .i64 a2, .int .i64 r2, .int .i64 f2, .int .i64 p2] (w.heap.size + 1) (by simp)).below b1; have B1 := below_of b1 (((Below.refl _ _).alloc (Nat.le_refl _) _).alloc (by simp) _) (by simp; omega); have UM1 := M1.cell; have UN1 := N1.cell)
    | (go_at_call 36; with_reducible refine (hL1 _).mono ?_; rintro e w2 ⟨rfl, b2⟩; have M2 := M1.below b2; have N2 := N1.below b2; have B2 := below_of b2 B1 B1.size; have UM2 := M2.cell; have UN2 := N2.cell)
    | (go_at_call 36; with_reducible refine (hL2 _).mono ?_; rintro e w3 ⟨rfl, b3⟩; have M3 := (M2.below b3).alloc (.cells #[.string ⟨#[]⟩, .string ⟨#[]⟩] 9); have N3 := (N2.below b3).alloc (.cells #[.string ⟨#[]⟩, .string ⟨#[]⟩] 9); have B3 := below_of b3 B2 B2.size; have UM3 := M3.cell))
  have RW : Blk (w3.alloc (.cells #[.string ⟨#[]⟩, .string S1] 9)) w3.heap.size 9 #[.string ⟨#[]⟩, .string S1] := Blk.new _ _ _
  have B4 : Below w.heap.size w (w3.alloc (.cells #[.string ⟨#[]⟩, .string S1] 9)) := B3.alloc B3.size _
  have hgl : w.heap.size + 1 < w3.heap.size := (N2.below b3).lt
  have M4 := (M2.below b3).alloc (.cells #[.string ⟨#[]⟩, .string S1] 9)
  have N4 := (N2.below b3).alloc (.cells #[.string ⟨#[]⟩, .string S1] 9)
  generalize w3.alloc (.cells #[.string ⟨#[]⟩, .string S1] 9) = W at RW B4 M4 N4 ⊢
  generalize w3.heap.size = g at RW hgl ⊢
  clear M1 M2 M3 N1 N2 N3 B1 B2 B3 UM1 UM2 UM3 UN1 UN2 hL1 hL2 b1 b2 b3
  go_upto_region 9 with fail
  go_cut [10, 11] from 63 to 71 (fun u v wx => ∃ x : Nat, u = .pointer (some ⟨x, 0, none⟩) ∧ v = .int .i64 0 ∧ Blk wx g 9 #[.string ⟨#[]⟩, .string S1] ∧ Blk wx x 59 #[.int .i64 a, .int .i64 r, .int .i64 f, .int .i64 p] ∧ Blk wx w.heap.size 59 #[.int .i64 a, .int .i64 r, .int .i64 f, .int .i64 p] ∧ Blk wx (w.heap.size + 1) 59 #[.int .i64 a2, .int .i64 r2, .int .i64 f2, .int .i64 p2] ∧ Below w.heap.size w wx)
  case first =>
    have A0 := row2 (RW).drew
    have Az := row2 ((RW).alloc (.cells #[.int .i64 0, .int .i64 0, .int .i64 0, .int .i64 0] 59)).drew
    have hne : ((W).heap.size = g) = False := by have := (RW).lt; simp; omega
    go_region_held3 (fun w' => w'.cell? ⟨g, 0, none⟩ = some (.string ⟨#[]⟩) ∧ w'.cell? ⟨g, 1, none⟩ = some (.string S1))
      (first | exact A0 | with_reducible assumption | (simp only [cell_set_if, hne, false_and, if_false]; with_reducible assumption))
      (first
        | (go_at_call 44; with_reducible refine (K1 (W).drew).mono ?_; rintro e w5 ⟨rfl, b5⟩; have R5 := (RW).drew.below b5; have D5 := row2 R5; have D5z := row2 (R5.alloc (.cells #[.int .i64 0, .int .i64 0, .int .i64 0, .int .i64 0] 59)); have R5a := R5.alloc (.cells #[.int .i64 a, .int .i64 r, .int .i64 f, .int .i64 p] 59); have D5a := row2 R5a)
        | (go_at_call 44; with_reducible refine (K1 ((W).alloc (.cells #[.int .i64 0, .int .i64 0, .int .i64 0, .int .i64 0] 59)).drew).mono ?_; rintro e w5 ⟨rfl, b5⟩; have R5 := ((RW).alloc (.cells #[.int .i64 0, .int .i64 0, .int .i64 0, .int .i64 0] 59)).drew.below b5; have D5 := row2 R5; have Z5 := (Blk.new (W) 59 #[.int .i64 0, .int .i64 0, .int .i64 0, .int .i64 0]).drew.below b5; have zc := Z5.cell; have zf := Z5.free))
    all_goals (go_wp2_with fail; go_meet)
    all_goals first
      | exact ⟨w5.heap.size, rfl, rfl, R5a, Blk.new _ _ _, ((M4).drew.below b5).alloc _, ((N4).drew.below b5).alloc _, (below_of b5 (B4).drew (B4).size).alloc (below_of b5 (B4).drew (B4).size).size _⟩
      | exact ⟨(W).heap.size, rfl, rfl, (((R5.far (p := ⟨(W).heap.size, 0, none⟩) (by show g ≠ (W).heap.size; have := (RW).lt; omega) _).far (p := ⟨(W).heap.size, 1, none⟩) (by show g ≠ (W).heap.size; have := (RW).lt; omega) _).far (p := ⟨(W).heap.size, 2, none⟩) (by show g ≠ (W).heap.size; have := (RW).lt; omega) _).far (p := ⟨(W).heap.size, 3, none⟩) (by show g ≠ (W).heap.size; have := (RW).lt; omega) _, (((Z5.set_ 0 (.int .i64 a)).set_ 1 (.int .i64 r)).set_ 2 (.int .i64 f)).set_ 3 (.int .i64 p), ((((((M4).alloc (.cells #[.int .i64 0, .int .i64 0, .int .i64 0, .int .i64 0] 59)).drew.below b5).far (p := ⟨(W).heap.size, 0, none⟩) (by show _ ≠ (W).heap.size; have := (M4).lt; omega) _).far (p := ⟨(W).heap.size, 1, none⟩) (by show _ ≠ (W).heap.size; have := (M4).lt; omega) _).far (p := ⟨(W).heap.size, 2, none⟩) (by show _ ≠ (W).heap.size; have := (M4).lt; omega) _).far (p := ⟨(W).heap.size, 3, none⟩) (by show _ ≠ (W).heap.size; have := (M4).lt; omega) _, ((((((N4).alloc (.cells #[.int .i64 0, .int .i64 0, .int .i64 0, .int .i64 0] 59)).drew.below b5).far (p := ⟨(W).heap.size, 0, none⟩) (by show _ ≠ (W).heap.size; have := (N4).lt; omega) _).far (p := ⟨(W).heap.size, 1, none⟩) (by show _ ≠ (W).heap.size; have := (N4).lt; omega) _).far (p := ⟨(W).heap.size, 2, none⟩) (by show _ ≠ (W).heap.size; have := (N4).lt; omega) _).far (p := ⟨(W).heap.size, 3, none⟩) (by show _ ≠ (W).heap.size; have := (N4).lt; omega) _, ((((below_of b5 ((B4).alloc (B4).size _).drew ((B4).alloc (B4).size _).size).setCell (p := ⟨(W).heap.size, 0, none⟩) (B4).size _).setCell (p := ⟨(W).heap.size, 1, none⟩) (B4).size _).setCell (p := ⟨(W).heap.size, 2, none⟩) (B4).size _).setCell (p := ⟨(W).heap.size, 3, none⟩) (B4).size _⟩
  case rest =>
  obtain ⟨x10, rfl, rfl, Ra, X10, M4a, N4a, Ba⟩ := hcut
  have c1 := Ra.cell
  have c2 := M4a.cell
  have c3 := N4a.cell
  go_upto_region 10 with fail
  go_cut [12, 13] from 73 to 81 (fun u v wx => ∃ x : Nat, u = .pointer (some ⟨x, 0, none⟩) ∧ v = .int .i64 25 ∧ Blk wx g 9 #[.string ⟨#[]⟩, .string S1] ∧ Blk wx x 59 #[.int .i64 0, .int .i64 0, .int .i64 0, .int .i64 0] ∧ Blk wx w.heap.size 59 #[.int .i64 a, .int .i64 r, .int .i64 f, .int .i64 p] ∧ Blk wx (w.heap.size + 1) 59 #[.int .i64 a2, .int .i64 r2, .int .i64 f2, .int .i64 p2] ∧ Blk wx x10 59 #[.int .i64 a, .int .i64 r, .int .i64 f, .int .i64 p] ∧ Below w.heap.size w wx)
  case first =>
    have A0 := row2 (Ra).drew
    have Az := row2 ((Ra).alloc (.cells #[.int .i64 0, .int .i64 0, .int .i64 0, .int .i64 0] 59)).drew
    have hne : ((wc).heap.size = g) = False := by have := (Ra).lt; simp; omega
    go_region_held3 (fun w' => w'.cell? ⟨g, 0, none⟩ = some (.string ⟨#[]⟩) ∧ w'.cell? ⟨g, 1, none⟩ = some (.string S1))
      (first | exact A0 | with_reducible assumption | (simp only [cell_set_if, hne, false_and, if_false]; with_reducible assumption))
      (first
        | (go_at_call 44; with_reducible refine (K2 (wc).drew).mono ?_; rintro e w5 ⟨rfl, b5⟩; have R5 := (Ra).drew.below b5; have D5 := row2 R5; have D5z := row2 (R5.alloc (.cells #[.int .i64 0, .int .i64 0, .int .i64 0, .int .i64 0] 59)); have R5a := R5.alloc (.cells #[.int .i64 0, .int .i64 0, .int .i64 0, .int .i64 0] 59); have D5a := row2 R5a)
        | (go_at_call 44; with_reducible refine (K2 ((wc).alloc (.cells #[.int .i64 0, .int .i64 0, .int .i64 0, .int .i64 0] 59)).drew).mono ?_; rintro e w5 ⟨rfl, b5⟩; have R5 := ((Ra).alloc (.cells #[.int .i64 0, .int .i64 0, .int .i64 0, .int .i64 0] 59)).drew.below b5; have D5 := row2 R5; have Z5 := (Blk.new (wc) 59 #[.int .i64 0, .int .i64 0, .int .i64 0, .int .i64 0]).drew.below b5; have zc := Z5.cell; have zf := Z5.free))
    all_goals (go_wp2_with fail; go_meet)
    all_goals first
      | exact ⟨w5.heap.size, rfl, rfl, R5a, Blk.new _ _ _, ((M4a).drew.below b5).alloc _, ((N4a).drew.below b5).alloc _, ((X10).drew.below b5).alloc _, (below_of b5 (Ba).drew (Ba).size).alloc (below_of b5 (Ba).drew (Ba).size).size _⟩
      | exact ⟨(wc).heap.size, rfl, rfl, (((R5.far (p := ⟨(wc).heap.size, 0, none⟩) (by show g ≠ (wc).heap.size; have := (Ra).lt; omega) _).far (p := ⟨(wc).heap.size, 1, none⟩) (by show g ≠ (wc).heap.size; have := (Ra).lt; omega) _).far (p := ⟨(wc).heap.size, 2, none⟩) (by show g ≠ (wc).heap.size; have := (Ra).lt; omega) _).far (p := ⟨(wc).heap.size, 3, none⟩) (by show g ≠ (wc).heap.size; have := (Ra).lt; omega) _, (((Z5.set_ 0 (.int .i64 0)).set_ 1 (.int .i64 0)).set_ 2 (.int .i64 0)).set_ 3 (.int .i64 0), ((((((M4a).alloc (.cells #[.int .i64 0, .int .i64 0, .int .i64 0, .int .i64 0] 59)).drew.below b5).far (p := ⟨(wc).heap.size, 0, none⟩) (by show _ ≠ (wc).heap.size; have := (M4a).lt; omega) _).far (p := ⟨(wc).heap.size, 1, none⟩) (by show _ ≠ (wc).heap.size; have := (M4a).lt; omega) _).far (p := ⟨(wc).heap.size, 2, none⟩) (by show _ ≠ (wc).heap.size; have := (M4a).lt; omega) _).far (p := ⟨(wc).heap.size, 3, none⟩) (by show _ ≠ (wc).heap.size; have := (M4a).lt; omega) _, ((((((N4a).alloc (.cells #[.int .i64 0, .int .i64 0, .int .i64 0, .int .i64 0] 59)).drew.below b5).far (p := ⟨(wc).heap.size, 0, none⟩) (by show _ ≠ (wc).heap.size; have := (N4a).lt; omega) _).far (p := ⟨(wc).heap.size, 1, none⟩) (by show _ ≠ (wc).heap.size; have := (N4a).lt; omega) _).far (p := ⟨(wc).heap.size, 2, none⟩) (by show _ ≠ (wc).heap.size; have := (N4a).lt; omega) _).far (p := ⟨(wc).heap.size, 3, none⟩) (by show _ ≠ (wc).heap.size; have := (N4a).lt; omega) _, ((((((X10).alloc (.cells #[.int .i64 0, .int .i64 0, .int .i64 0, .int .i64 0] 59)).drew.below b5).far (p := ⟨(wc).heap.size, 0, none⟩) (by show _ ≠ (wc).heap.size; have := (X10).lt; omega) _).far (p := ⟨(wc).heap.size, 1, none⟩) (by show _ ≠ (wc).heap.size; have := (X10).lt; omega) _).far (p := ⟨(wc).heap.size, 2, none⟩) (by show _ ≠ (wc).heap.size; have := (X10).lt; omega) _).far (p := ⟨(wc).heap.size, 3, none⟩) (by show _ ≠ (wc).heap.size; have := (X10).lt; omega) _, ((((below_of b5 ((Ba).alloc (Ba).size _).drew ((Ba).alloc (Ba).size _).size).setCell (p := ⟨(wc).heap.size, 0, none⟩) (Ba).size _).setCell (p := ⟨(wc).heap.size, 1, none⟩) (Ba).size _).setCell (p := ⟨(wc).heap.size, 2, none⟩) (Ba).size _).setCell (p := ⟨(wc).heap.size, 3, none⟩) (Ba).size _⟩
  case rest =>
  obtain ⟨x12, rfl, rfl, Rb, X12, M4ab, N4ab, X10b, Bb⟩ := hcut
  rcases HK.out with k4 | ⟨k4, K4, hz⟩
  · go_wp2_with (go_at_call 44; refine (K3 _).mono ?_; rintro e w6 ⟨rfl, b6⟩; have R6 := (Rb.below b6).alloc (.cells #[.int .i64 0, .int .i64 0, .int .i64 0, .int .i64 0] 59); have M6 := (M4ab.below b6).alloc (.cells #[.int .i64 0, .int .i64 0, .int .i64 0, .int .i64 0] 59); have N6 := (N4ab.below b6).alloc (.cells #[.int .i64 0, .int .i64 0, .int .i64 0, .int .i64 0] 59); have Y6 := (X10b.below b6).alloc (.cells #[.int .i64 0, .int .i64 0, .int .i64 0, .int .i64 0] 59); have Z6 := (X12.below b6).alloc (.cells #[.int .i64 0, .int .i64 0, .int .i64 0, .int .i64 0] 59); have B6 := (below_of b6 Bb Bb.size).alloc (below_of b6 Bb Bb.size).size (.cells #[.int .i64 0, .int .i64 0, .int .i64 0, .int .i64 0] 59); have u1 := M6.cell; have u2 := N6.cell; have u3 := Y6.cell; have u4 := Z6.cell; have u5 := R6.cell; have u6 := R6.free)
    go_ret
    exact ⟨rfl, B6⟩
  · go_upto_region 17 with (go_at_call 44; refine (K3 _).mono ?_; rintro e w6 ⟨rfl, b6⟩; have R6 := (Rb.below b6).alloc (.cells #[.int .i64 0, .int .i64 0, .int .i64 0, .int .i64 0] 59); have M6 := (M4ab.below b6).alloc (.cells #[.int .i64 0, .int .i64 0, .int .i64 0, .int .i64 0] 59); have N6 := (N4ab.below b6).alloc (.cells #[.int .i64 0, .int .i64 0, .int .i64 0, .int .i64 0] 59); have Y6 := (X10b.below b6).alloc (.cells #[.int .i64 0, .int .i64 0, .int .i64 0, .int .i64 0] 59); have Z6 := (X12.below b6).alloc (.cells #[.int .i64 0, .int .i64 0, .int .i64 0, .int .i64 0] 59); have B6 := (below_of b6 Bb Bb.size).alloc (below_of b6 Bb Bb.size).size (.cells #[.int .i64 0, .int .i64 0, .int .i64 0, .int .i64 0] 59); have u1 := M6.cell; have u2 := N6.cell; have u3 := Y6.cell; have u4 := Z6.cell; have u5 := R6.cell; have u6 := R6.free)
    have R7 : Blk ((w6.alloc (.cells #[.int .i64 0, .int .i64 0, .int .i64 0, .int .i64 0] 59)).setCell ⟨g, 0, none⟩ (.string S2)) g 9 #[.string S2, .string S1] := R6.set_ 0 _
    have M7 : Blk ((w6.alloc (.cells #[.int .i64 0, .int .i64 0, .int .i64 0, .int .i64 0] 59)).setCell ⟨g, 0, none⟩ (.string S2)) w.heap.size 59 #[.int .i64 a, .int .i64 r, .int .i64 f, .int .i64 p] := M6.far (by show w.heap.size ≠ g; omega) _
    have N7 : Blk ((w6.alloc (.cells #[.int .i64 0, .int .i64 0, .int .i64 0, .int .i64 0] 59)).setCell ⟨g, 0, none⟩ (.string S2)) (w.heap.size + 1) 59 #[.int .i64 a2, .int .i64 r2, .int .i64 f2, .int .i64 p2] := N6.far (by show w.heap.size + 1 ≠ g; omega) _
    have B7 : Below w.heap.size w ((w6.alloc (.cells #[.int .i64 0, .int .i64 0, .int .i64 0, .int .i64 0] 59)).setCell ⟨g, 0, none⟩ (.string S2)) := B6.setCell (by show w.heap.size ≤ g; omega) _
    generalize ((w6.alloc (.cells #[.int .i64 0, .int .i64 0, .int .i64 0, .int .i64 0] 59)).setCell ⟨g, 0, none⟩ (.string S2)) = W7 at R7 M7 N7 B7 ⊢
    go_upto_region 17 with fail
    go_cut [16, 17] from 120 to 128 (fun u v wx => ∃ x : Nat, u = .pointer (some ⟨x, 0, none⟩) ∧ v = .int .i64 0 ∧ Blk wx g 9 #[.string S2, .string S1] ∧ Blk wx x 59 #[.int .i64 y1, .int .i64 y2, .int .i64 y3, .int .i64 y4] ∧ Blk wx w.heap.size 59 #[.int .i64 a, .int .i64 r, .int .i64 f, .int .i64 p] ∧ Blk wx (w.heap.size + 1) 59 #[.int .i64 a2, .int .i64 r2, .int .i64 f2, .int .i64 p2] ∧ Below w.heap.size w wx)
    case first =>
      have A0 := row2 (R7).drew
      have Az := row2 ((R7).alloc (.cells #[.int .i64 0, .int .i64 0, .int .i64 0, .int .i64 0] 59)).drew
      have hne : ((W7).heap.size = g) = False := by have := (R7).lt; simp; omega
      go_region_held3 (fun w' => w'.cell? ⟨g, 0, none⟩ = some (.string S2) ∧ w'.cell? ⟨g, 1, none⟩ = some (.string S1))
        (first | exact A0 | with_reducible assumption | (simp only [cell_set_if, hne, false_and, if_false]; with_reducible assumption))
        (first
          | (go_at_call 44; with_reducible refine (K4 (W7).drew).mono ?_; rintro e w5 ⟨rfl, b5⟩; have R5 := (R7).drew.below b5; have D5 := row2 R5; have D5z := row2 (R5.alloc (.cells #[.int .i64 0, .int .i64 0, .int .i64 0, .int .i64 0] 59)); have R5a := R5.alloc (.cells #[.int .i64 y1, .int .i64 y2, .int .i64 y3, .int .i64 y4] 59); have D5a := row2 R5a)
          | (go_at_call 44; with_reducible refine (K4 ((W7).alloc (.cells #[.int .i64 0, .int .i64 0, .int .i64 0, .int .i64 0] 59)).drew).mono ?_; rintro e w5 ⟨rfl, b5⟩; have R5 := ((R7).alloc (.cells #[.int .i64 0, .int .i64 0, .int .i64 0, .int .i64 0] 59)).drew.below b5; have D5 := row2 R5; have Z5 := (Blk.new (W7) 59 #[.int .i64 0, .int .i64 0, .int .i64 0, .int .i64 0]).drew.below b5; have zc := Z5.cell; have zf := Z5.free))
      all_goals (go_wp2_with fail; go_meet)
      all_goals first
        | exact ⟨w5.heap.size, rfl, rfl, R5a, Blk.new _ _ _, ((M7).drew.below b5).alloc _, ((N7).drew.below b5).alloc _, (below_of b5 (B7).drew (B7).size).alloc (below_of b5 (B7).drew (B7).size).size _⟩
        | exact ⟨(W7).heap.size, rfl, rfl, (((R5.far (p := ⟨(W7).heap.size, 0, none⟩) (by show g ≠ (W7).heap.size; have := (R7).lt; omega) _).far (p := ⟨(W7).heap.size, 1, none⟩) (by show g ≠ (W7).heap.size; have := (R7).lt; omega) _).far (p := ⟨(W7).heap.size, 2, none⟩) (by show g ≠ (W7).heap.size; have := (R7).lt; omega) _).far (p := ⟨(W7).heap.size, 3, none⟩) (by show g ≠ (W7).heap.size; have := (R7).lt; omega) _, (((Z5.set_ 0 (.int .i64 y1)).set_ 1 (.int .i64 y2)).set_ 2 (.int .i64 y3)).set_ 3 (.int .i64 y4), ((((((M7).alloc (.cells #[.int .i64 0, .int .i64 0, .int .i64 0, .int .i64 0] 59)).drew.below b5).far (p := ⟨(W7).heap.size, 0, none⟩) (by show _ ≠ (W7).heap.size; have := (M7).lt; omega) _).far (p := ⟨(W7).heap.size, 1, none⟩) (by show _ ≠ (W7).heap.size; have := (M7).lt; omega) _).far (p := ⟨(W7).heap.size, 2, none⟩) (by show _ ≠ (W7).heap.size; have := (M7).lt; omega) _).far (p := ⟨(W7).heap.size, 3, none⟩) (by show _ ≠ (W7).heap.size; have := (M7).lt; omega) _, ((((((N7).alloc (.cells #[.int .i64 0, .int .i64 0, .int .i64 0, .int .i64 0] 59)).drew.below b5).far (p := ⟨(W7).heap.size, 0, none⟩) (by show _ ≠ (W7).heap.size; have := (N7).lt; omega) _).far (p := ⟨(W7).heap.size, 1, none⟩) (by show _ ≠ (W7).heap.size; have := (N7).lt; omega) _).far (p := ⟨(W7).heap.size, 2, none⟩) (by show _ ≠ (W7).heap.size; have := (N7).lt; omega) _).far (p := ⟨(W7).heap.size, 3, none⟩) (by show _ ≠ (W7).heap.size; have := (N7).lt; omega) _, ((((below_of b5 ((B7).alloc (B7).size _).drew ((B7).alloc (B7).size _).size).setCell (p := ⟨(W7).heap.size, 0, none⟩) (B7).size _).setCell (p := ⟨(W7).heap.size, 1, none⟩) (B7).size _).setCell (p := ⟨(W7).heap.size, 2, none⟩) (B7).size _).setCell (p := ⟨(W7).heap.size, 3, none⟩) (B7).size _⟩
    case rest =>
    obtain ⟨x16, rfl, rfl, Rc, X16, M7c, N7c, Bc⟩ := hcut
    have v1 := M7c.cell
    have v2 := N7c.cell
    have v3 := X16.cell
    rcases hz with ⟨z1, z2, rfl, rfl, rfl, rfl⟩ | ⟨z1, z2, rfl, rfl, rfl, rfl⟩
    all_goals
      go_wp2
      go_ret
      exact ⟨rfl, Bc⟩

end Go.Proofs.Ytejmpfmkaiaklaa
