/-
  rootstocklaw7's alive and rises: what they give. Condition: no more than a thousand.
-/
import Derived.Test.YtdpgeoiehbijlaaGreatFreeA
import Derived.Test.YtdpgeoiehbijlaaGreatFreeB
import Derived.Test.YtdpgeoiehbijlaaGreatFreeH
import Derived.Test.YtdpgeoiehbijlaaGreatOne
namespace Go.Proofs.YtdpgeoiehbijlaaGreat
open Go Go.RowKit
attribute [local go_sem] cell_set_if

theorem FreeT.turn_below {T E : TypeId} {w w' : World} {base g : Nat} {s : Fs} {v1 v2 v1' v2' : Value} (h : FreeT T E w base g s v1 v2) (t : TurnF g v1 v2 w v1' v2' w') (hb : base ≤ w.heap.size) : Below base w w' := t.below hb fun q hq => (h.mine_lt q hq).1
theorem ok_first : (⟨10, [3, 5, 6], []⟩ : Fs).ok := ⟨by decide, by decide, by decide, by decide, by decide, by decide, by decide⟩
theorem take_first : takeS ⟨10, [3, 5, 6], []⟩ 2 = ((5, 0), ⟨10, [3], []⟩) := by rfl
theorem ok_second : (⟨10, [3], []⟩ : Fs).ok := ⟨by decide, by decide, by decide, by decide, by decide, by decide, by decide⟩
theorem take_second : takeS ⟨10, [3], []⟩ 2 = ((10, 0), ⟨12, [3], []⟩) := by rfl
theorem first_rises : riseB 10 [3, 5, 6] = true := by rfl
set_option maxRecDepth 100000 in
set_option maxHeartbeats 4000000 in
theorem alive7_any (w : World) : Calls Tryz.prog 5 #[] w fun e w' => e = .returned (.bool true) ∧ Below w.heap.size w w' := by
  have hr : Rd (w.alloc (.cells #[.int .i64 3, .int .i64 5, .int .i64 6] 3)) (some ⟨w.heap.size, 0, none⟩) (flatZ [3, 5, 6]) := Rd.new w #[.int .i64 3, .int .i64 5, .int .i64 6] 3
  have hb0 : Below w.heap.size w (w.alloc (.cells #[.int .i64 3, .int .i64 5, .int .i64 6] 3)) := (Below.refl _ _).alloc (Nat.le_refl _) _
  have hL := fload_any 10 (some ⟨w.heap.size, 0, none⟩) 3 3 [3, 5, 6] _ hr rfl (by omega)
  have hN := fun w => fneed_any 114 (by omega) w
  have HL := Lib.hid hL
  have HNE := Lib.hid hN
  have HB0 := Lib.hid hb0
  clear hr hL hN hb0
  go_enter Tryz.func5, Tryz.ntmps5
  go_wp2_with (first
    | (go_at_call 7; refine HL.out.mono ?_; rintro e w1 ⟨hh, b1⟩
       obtain ⟨g, v1, rfl, F1⟩ : ∃ g v1, e = .returned (.tuple #[.pointer (some ⟨g, 0, none⟩), .int .i64 0]) ∧ FreeAt w1 (w.alloc (.cells #[.int .i64 3, .int .i64 5, .int .i64 6] 3)).heap.size g ⟨10, [3, 5, 6], []⟩ v1 (.slice none 0 0) := by
         rcases hh with ⟨_, h⟩ | ⟨h, _⟩
         · exact h
         · rw [first_rises] at h; cases h
       clear hh
       have hb1 := b1.size)
    | (go_at_call 11; refine (ftake_any _ g _ 2 _ _ _ F2 ok_second).mono ?_; rintro e w3 ⟨he, v1'', v2'', F3, T3⟩
       rw [take_second] at he F3
       subst he
       have hb3 := (F2.turn_below T3 (Nat.le_trans hb1 hb2.size)).size)
    | (go_at_call 11; refine (ftake_any _ g _ 2 _ _ _ F1 ok_first).mono ?_; rintro e w2 ⟨he, v1', v2', F2, T2⟩
       rw [take_first] at he F2
       subst he
       have hb2 := F1.turn_below T2 hb1)
    | (go_at_call 25; refine (fpages_any _ g _ _ _ _ F3).mono ?_; rintro e w4 ⟨rfl, hw4⟩; obtain rfl : w3 = w4 := hw4.symm)
    | (go_at_call 27; refine (HNE.out _).mono ?_; rintro e w5 ⟨rfl, hw5⟩; obtain rfl : w3 = w5 := hw5.symm))
  go_ret
  exact ⟨rfl, HB0.out.trans ((((b1.mono (Nat.le_refl _)).trans hb2).trans (F2.turn_below T3 (Nat.le_trans hb1 hb2.size))).mono HB0.out.size)⟩
set_option maxRecDepth 100000 in
set_option maxHeartbeats 4000000 in
theorem rises_any (pages : Int) (A : Option Addr) (n c : Nat) (l : List Int) (w : World) (hr : Rd w A (flatZ l)) (hn : l.length = n) (hm : n ≤ 1000) :
    Calls Tryz.prog 9 #[.int .i64 pages, .slice A n c] w fun e w' => e = .returned (.bool (riseB pages l)) ∧ Qt w w' := by
  have HR := Lib.hid hr
  have HN := Lib.hid hn
  have hni : (n : Int) ≤ 1000 := by omega
  clear hr hn
  go_enter Tryz.func9, Tryz.ntmps9
  go_wp2
  go_loopw [5] (fun u5 wr => ∃ k : Nat, k ≤ n ∧ u5 = .int .i64 k ∧ Hid (RiseK pages l k) ∧ Qt w wr) (fun u5 _ => n - (intOf u5).toNat)
  case atStart => exact ⟨0, by omega, rfl, RiseK.zero _ _, Qt.refl _⟩
  case round =>
    obtain ⟨k, hk, rfl, HK, hQ⟩ := hrel
    by_cases hlt : k < n
    · obtain ⟨b1, o1, x, rfl, _, hx, d0⟩ := (HR.out.below (hQ.below _)).num (k := k) (by have := HN.out; omega)
      have hki : (k : Int) < (n : Int) := by omega
      have hk0 : (0 : Int) ≤ (k : Int) := by omega
      have HX := Lib.hid hx
      clear hx
      by_cases hx1 : x < 2
      · have HB := Lib.hid (riseB_bad (pages := pages) HX.out (.inl hx1))
        have hd : decide (x < 2) = true := decide_eq_true hx1
        go_wp2
        go_quiet (fail)
        go_wp2
        go_ret
        exact ⟨by (rw [HB.out]) <;> rfl, hQ.trans (Qt.drewN _ _)⟩
      have hd1 : decide (x < 2) = false := decide_eq_false hx1
      by_cases hx2 : pages ≤ x
      · have HB := Lib.hid (riseB_bad HX.out (.inr (.inl hx2)))
        have hd2 : decide (pages ≤ x) = true := decide_eq_true hx2
        have hx1' : 2 ≤ x := by omega
        clear hx1
        go_wp2
        go_quiet (fail)
        go_wp2
        go_ret
        exact ⟨by (rw [HB.out]) <;> rfl, hQ.trans (Qt.drewN _ _)⟩
      have hd2 : decide (pages ≤ x) = false := decide_eq_false hx2
      have hx1' : 2 ≤ x := by omega
      have hx2' : x < pages := by omega
      clear hx1 hx2
      by_cases hkz : k = 0
      · have HK2 := Lib.hid (HK.out.next HX.out hx1' hx2' (.inl hkz))
        subst hkz
        rw [Nat.add_zero] at d0
        have hdz : decide ((0 : Int) < 0) = false := rfl
        go_wp2
        go_quiet (fail)
        go_wp2
        go_roundw
        case rel => exact ⟨0 + 1, by omega, by go_num, HK2, hQ.trans (Qt.drewN _ _)⟩
        case measure => simp [intOf]; omega
      · obtain ⟨j, rfl⟩ : ∃ j, k = j + 1 := ⟨k - 1, by omega⟩
        obtain ⟨b2, o2, y, e2, _, hy, d1⟩ := (HR.out.below (hQ.below _)).num (k := j) (by have := HN.out; omega)
        injection e2 with e2
        injection e2 with e21 e22
        subst e21 e22
        have hj1 : ((j + 1 : Nat) : Int) = (j : Int) + 1 := by omega
        have hjs : ((j + 1 : Nat) : Int) - 1 = (j : Int) := by omega
        have hki' : (j : Int) + 1 < (n : Int) := by omega
        have hj0 : (0 : Int) ≤ (j : Int) := by omega
        have hji : (j : Int) < (n : Int) := by omega
        have hdj : decide ((0 : Int) < (j : Int) + 1) = true := decide_eq_true (by omega)
        have HY := Lib.hid hy
        clear hy hkz hki hk0
        by_cases hxy : x ≤ y
        · have HB := Lib.hid (riseB_bad (pages := pages) HX.out (.inr (.inr ⟨by omega, y, HY.out, hxy⟩)))
          have hdx : decide (x ≤ y) = true := decide_eq_true hxy
          go_wp2
          go_quiet (fail)
          go_wp2
          go_ret
          exact ⟨by (rw [HB.out]) <;> rfl, hQ.trans (Qt.drewN _ _)⟩
        · have hyx : y < x := by omega
          have hdx : decide (x ≤ y) = false := decide_eq_false hxy
          have HK2 := Lib.hid (HK.out.next HX.out hx1' hx2' (.inr ⟨y, HY.out, hyx⟩))
          clear hxy
          go_wp2
          go_quiet (fail)
          go_wp2
          go_roundw
          case rel => exact ⟨j + 1 + 1, by omega, by go_num, HK2, hQ.trans (Qt.drewN _ _)⟩
          case measure => simp [intOf]; omega
    · obtain rfl : n = k := by omega
      have hK : RiseK pages l l.length := by rw [HN.out]; exact HK.out
      by_cases h1 : pages < 2
      · have HB := Lib.hid (riseB_out (l := l) (.inl h1))
        clear hK
        go_wp2
        go_ret
        exact ⟨by (rw [HB.out]) <;> rfl, hQ⟩
      by_cases h2 : 4000 < pages
      · have HB := Lib.hid (riseB_out (l := l) (.inr h2))
        have h1' : 2 ≤ pages := by omega
        have hd : decide (pages ≤ 4000) = false := decide_eq_false (by omega)
        have HD := Lib.hid hd
        clear hK h1 hd
        go_wp2
        go_ret
        exact ⟨ret_bool (by rw [HB.out]; exact HD.out), hQ⟩
      · have HB := Lib.hid (hK.all (by omega) (by omega))
        have h1' : 2 ≤ pages := by omega
        have h2' : pages ≤ 4000 := by omega
        clear hK h1 h2
        go_wp2
        go_ret
        exact ⟨by (rw [HB.out]) <;> rfl, hQ⟩
end Go.Proofs.YtdpgeoiehbijlaaGreat
