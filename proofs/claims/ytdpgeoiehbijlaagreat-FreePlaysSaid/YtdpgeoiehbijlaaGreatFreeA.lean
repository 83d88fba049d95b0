/-
  free.New, Load, run, Take, Free, Pages and Copy: what they give. Conditions: the list is in order.
-/
import Derived.Test.YtdpgeoiehbijlaaGreatOne
import Derived.Test.YtdpgeoiehbijlaaGreatDelZ
namespace Go.Proofs.YtdpgeoiehbijlaaGreat
open Go Go.RowKit
attribute [local go_sem] cell_set_if

/-- A list of free pages of the call's own, given by its pointer. -/
def GivesF (base : Nat) (s : Fs) (g : Nat) (w' : World) : Prop := ∃ v1 v2, FreeAt w' base g s v1 v2

theorem fnew_any (pages : Int) (w : World) :
    Calls Tryz.prog 10 #[.int .i64 pages] w fun e w' => e = .returned (.pointer (some ⟨w.heap.size, 0, none⟩)) ∧ FreeAt w' w.heap.size w.heap.size ⟨min (max pages 2) 4000, [], []⟩ (.slice none 0 0) (.slice none 0 0) ∧ Below w.heap.size w w' := by
  go_enter Tryz.func10, Tryz.ntmps10
  go_wp2
  go_ret
  exact ⟨rfl, ⟨Blk.new _ _ _, Nat.le_refl _, World.ownsRow_nil _ _ _ _, World.ownsRow_nil _ _ _ _⟩, (Below.refl _ _).alloc (Nat.le_refl _) _⟩

set_option maxRecDepth 100000 in
set_option maxHeartbeats 2000000 in
theorem fload_any (pages : Int) (A : Option Addr) (n c : Nat) (l : List Int) (w : World) (hr : Rd w A (flatZ l)) (hn : l.length = n) (hm : n ≤ 1000) :
    Calls Tryz.prog 7 #[.int .i64 pages, .slice A n c] w fun e w' => ((riseB pages l = true ∧ ∃ g v1, e = .returned (.tuple #[.pointer (some ⟨g, 0, none⟩), .int .i64 0]) ∧ FreeAt w' w.heap.size g ⟨pages, l, []⟩ v1 (.slice none 0 0)) ∨ (riseB pages l = false ∧ e = .returned (.tuple #[.pointer none, .int .i64 1]))) ∧ Below w.heap.size w w' := by
  have HR := Lib.hid hr
  have HN := Lib.hid hn
  have hni : (n : Int) ≤ 1000 := by omega
  have HCl := Lib.hid fun w hr => cloneZ_any w A n c l hr hn (by omega)
  clear hr hn
  by_cases hp : pages < 2 ∨ 4000 < pages
  · have HB := Lib.hid (riseB_out (l := l) hp)
    have hc : pages < 2 ∨ (2 ≤ pages ∧ 4000 < pages) := by omega
    clear hp
    rcases hc with h1 | ⟨h1, h2⟩
    all_goals
      go_enter Tryz.func7, Tryz.ntmps7
      go_wp2
      go_ret2
      exact ⟨.inr ⟨HB.out, rfl⟩, Below.refl _ _⟩
  have hp1 : 2 ≤ pages := by omega
  have hp2 : pages ≤ 4000 := by omega
  have dd1 : decide (pages < 2) = false := decide_eq_false (by omega)
  have dd2 : decide (4000 < pages) = false := decide_eq_false (by omega)
  clear hp
  go_enter Tryz.func7, Tryz.ntmps7
  go_wp2
  go_loopw [16] (fun u16 wr => ∃ k : Nat, k ≤ n ∧ u16 = .int .i64 k ∧ Hid (RiseK pages l k) ∧ wr = w) (fun u16 _ => n - (intOf u16).toNat)
  case atStart => exact ⟨0, by omega, rfl, RiseK.zero _ _, rfl⟩
  case round =>
    obtain ⟨k, hk, rfl, HK, rfl⟩ := hrel
    by_cases hlt : k < n
    · obtain ⟨b1, o1, x, rfl, _, hx, d0⟩ := HR.out.num (k := k) (by have := HN.out; omega)
      have hki : (k : Int) < (n : Int) := by omega
      have hk0 : (0 : Int) ≤ (k : Int) := by omega
      have HX := Lib.hid hx
      clear hx
      by_cases hx1 : x < 2
      · have HB := Lib.hid (riseB_bad (pages := pages) HX.out (.inl hx1))
        go_wp2
        go_ret2
        exact ⟨.inr ⟨HB.out, rfl⟩, Below.refl _ _⟩
      by_cases hx2 : pages ≤ x
      · have HB := Lib.hid (riseB_bad HX.out (.inr (.inl hx2)))
        have hx1' : 2 ≤ x := by omega
        clear hx1
        go_wp2
        go_ret2
        exact ⟨.inr ⟨HB.out, rfl⟩, Below.refl _ _⟩
      have hx1' : 2 ≤ x := by omega
      have hx2' : x < pages := by omega
      clear hx1 hx2
      by_cases hkz : k = 0
      · have HK2 := Lib.hid (HK.out.next HX.out hx1' hx2' (.inl hkz))
        subst hkz
        rw [Nat.add_zero] at d0
        go_wp2
        go_roundw
        case rel => exact ⟨0 + 1, by omega, by go_num, HK2, by first | rfl | trivial⟩
        case measure => simp [intOf]; omega
      · obtain ⟨j, rfl⟩ : ∃ j, k = j + 1 := ⟨k - 1, by omega⟩
        obtain ⟨b2, o2, y, e2, _, hy, d1⟩ := HR.out.num (k := j) (by have := HN.out; omega)
        injection e2 with e2
        injection e2 with e21 e22
        subst e21 e22
        have hj1 : ((j + 1 : Nat) : Int) = (j : Int) + 1 := by omega
        have hki' : (j : Int) + 1 < (n : Int) := by omega
        have hj0 : (0 : Int) ≤ (j : Int) := by omega
        have HY := Lib.hid hy
        clear hy hkz hki hk0
        by_cases hxy : x ≤ y
        · have HB := Lib.hid (riseB_bad (pages := pages) HX.out (.inr (.inr ⟨by omega, y, HY.out, hxy⟩)))
          go_wp2
          go_ret2
          exact ⟨.inr ⟨HB.out, rfl⟩, Below.refl _ _⟩
        · have hyx : y < x := by omega
          have HK2 := Lib.hid (HK.out.next HX.out hx1' hx2' (.inr ⟨y, HY.out, hyx⟩))
          clear hxy
          go_wp2
          go_roundw
          case rel => exact ⟨j + 1 + 1, by omega, by go_num, HK2, by first | rfl | trivial⟩
          case measure => simp [intOf]; omega
    · obtain rfl : n = k := by omega
      have HB : Hid (riseB pages l = true) := by
        have h := HK.out
        rw [← HN.out] at h
        exact h.all hp1 hp2
      go_wp2_with (go_at_call 29; refine (HCl.out _ HR.out).mono ?_; rintro e w2 ⟨⟨B2, d2, rfl, o2⟩, b2⟩)
      go_ret2
      refine ⟨.inl ⟨HB.out, w2.heap.size, .slice B2 n d2, rfl, ⟨Blk.new _ _ _, b2.size, ?_, World.ownsRow_nil _ _ _ _⟩⟩, b2.alloc b2.size _⟩
      show (w2.alloc _).ownsRow _ _ 1 (.slice B2 n d2) l.length (flatZ l)
      rw [HN.out]
      exact o2.alloc _
end Go.Proofs.YtdpgeoiehbijlaaGreat
