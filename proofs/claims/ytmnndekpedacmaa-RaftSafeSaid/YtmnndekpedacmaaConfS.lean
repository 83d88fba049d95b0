/-
  What raft.Safe gives: the ids of those that answered are a quorum, or not. Condition: no more than a thousand members.
-/
import Derived.Test.YtmnndekpedacmaaConfQ
namespace Go.Proofs.Ytmnndekpedacmaa
open Go Go.RowKit
attribute [local go_sem] cell_set_if

theorem haveV_take (l at_ : List Int) (r : Int) (k : Nat) (x : Int) (h : l[k]? = some x) : haveV (l.take (k + 1)) at_ r = if r ≤ numAt at_ x then haveV (l.take k) at_ r ++ [x] else haveV (l.take k) at_ r := by
  unfold haveV
  rw [List.take_add_one, h, List.filter_append]
  by_cases hp : r ≤ numAt at_ x <;> simp [hp]
set_option maxRecDepth 100000 in
set_option maxHeartbeats 2000000 in
theorem psafe_any (A B : Option Addr) (n c m d : Nat) (l at_ : List Int) (r : Int) (w : World) (hr : Rd w A (flatZ l)) (hn : l.length = n) (hb : Rd w B (flatZ at_)) (hm : at_.length = m) (h1 : n ≤ 1000) (h2 : m ≤ 1000) :
    Calls Try.prog 23 #[.slice A n c, .slice B m d, .int .i64 r] w fun e w' => e = .returned (.bool (safeV l at_ r)) ∧ Below w.heap.size w w' := by
  obtain ⟨i0, hi0, hz0, hz1, hz2⟩ := info_parts zinfo
  have HR := Lib.hid hr
  have HB := Lib.hid hb
  have HN := Lib.hid hn
  have HM := Lib.hid hm
  have hni : (n : Int) ≤ 1000 := by omega
  clear hr hb hn hm
  go_enter Try.func23, Try.ntmps23
  go_wp2
  go_loopw [7, 9, 10, 13] (fun u7 u9 u10 u13 wr => ∃ k z : Nat, k ≤ n ∧ u13 = .int .i64 k ∧ z ≤ k ∧ Hid ((haveV (l.take k) at_ r).length = z) ∧ wr.ownsRow w.heap.size 3 1 u7 z (flatZ (haveV (l.take k) at_ r)) ∧ Below w.heap.size w wr) (fun _ _ _ u13 _ => n - (intOf u13).toNat)
  case atStart => exact ⟨0, 0, by omega, rfl, Nat.le_refl _, rfl, World.ownsRow_nil _ _ _ _, Below.refl _ _⟩
  case round =>
    obtain ⟨k, z, hk, rfl, hzk, HZ, hO, hW⟩ := hrel
    by_cases hlt : k < n
    · obtain ⟨b1, o1, x, rfl, hb1, hx, q0⟩ := HR.out.num (k := k) (by have := HN.out; omega)
      have d0 := cell_bb hW hb1 q0
      have hki : (k : Int) < (n : Int) := by omega
      have HT := Lib.hid (haveV_take l at_ r k x hx)
      have RN : Rd (wr.alloc (.cells #[.int .i64 x] 3)) (some ⟨wr.heap.size, 0, none⟩) [.int .i64 x] := by
        have := Rd.new wr #[.int .i64 x] 3
        simpa using this
      clear hx q0
      obtain ⟨y, hy⟩ : ∃ y, y = numAt at_ x := ⟨_, rfl⟩
      have HY := Lib.hid hy
      have hcase : (x < 0 ∧ y = 0) ∨ ((0 : Int) ≤ x ∧ (m : Int) ≤ x ∧ y = 0) ∨ (∃ j b2 o2, x = ((j : Nat) : Int) ∧ B = some ⟨b2, o2, none⟩ ∧ b2 < w.heap.size ∧ j < m ∧ w.cell? ⟨b2, o2 + j, none⟩ = some (.int .i64 y)) := by
        by_cases a1 : x < 0
        · exact .inl ⟨a1, by rw [hy]; exact numAt_out (.inl a1)⟩
        by_cases a2 : (m : Int) ≤ x
        · exact .inr (.inl ⟨by omega, a2, by rw [hy]; exact numAt_out (.inr (by rw [HM.out]; exact a2))⟩)
        · obtain ⟨j, rfl⟩ := Int.eq_ofNat_of_zero_le (show 0 ≤ x by omega)
          obtain ⟨b2, o2, y2, e2, hb2, hy2, c2⟩ := HB.out.num (k := j) (by have := HM.out; omega)
          have : y = y2 := by rw [hy]; exact numAt_in rfl (by have := HM.out; omega) hy2
          subst this
          exact .inr (.inr ⟨j, b2, o2, rfl, e2, hb2, by omega, c2⟩)
      rw [← hy] at HT
      clear hy
      rcases hcase with ⟨a1, rfl⟩ | ⟨a1, a2, rfl⟩ | ⟨j, b2, o2, rfl, rfl, hb2, hjm, c2⟩
      · skip
        by_cases hry : r ≤ (0 : Int)
        · have HT2 := HT.out
          rw [if_pos hry] at HT2
          have HT3 := Lib.hid HT2
          clear HT2 HT
          go_wp2_with (first
            | (at_builtin
               refine wpList_app rfl (.tmp 32) (.tmp 34) 23 rfl w.heap.size 3 i0 _ 1 8 Try.underlying23 hi0 hz0 hz1 hz2 rfl (by omega) u7 z _ rfl (hO.alloc _) _ 1 1 _ rfl RN rfl (by simp [Value.oneCell']) (by unfold maxLen; omega) (by omega) (by have := hW.size; simp; omega) ?_
               intro v5 w5 hown5 hg5 hb5 hat5))
          go_roundw
          case rel => exact ⟨k + 1, z + 1, by omega, by go_num, by omega, by rw [HT3.out, List.length_append, HZ.out]; rfl, by rw [HT3.out, flatZ_app]; exact hown5, (hW.alloc hW.size _).trans hb5⟩
          case measure => simp [intOf]; omega
        · have HT2 := HT.out
          rw [if_neg hry] at HT2
          have HT3 := Lib.hid HT2
          have hry' : (0 : Int) < r := by omega
          clear HT2 HT hry
          go_wp2
          go_roundw
          case rel => exact ⟨k + 1, z, by omega, by go_num, by omega, by rw [HT3.out]; exact HZ.out, by rw [HT3.out]; exact hO, hW⟩
          case measure => simp [intOf]; omega
      · skip
        by_cases hry : r ≤ (0 : Int)
        · have HT2 := HT.out
          rw [if_pos hry] at HT2
          have HT3 := Lib.hid HT2
          clear HT2 HT
          go_wp2_with (first
            | (at_builtin
               refine wpList_app rfl (.tmp 32) (.tmp 34) 23 rfl w.heap.size 3 i0 _ 1 8 Try.underlying23 hi0 hz0 hz1 hz2 rfl (by omega) u7 z _ rfl (hO.alloc _) _ 1 1 _ rfl RN rfl (by simp [Value.oneCell']) (by unfold maxLen; omega) (by omega) (by have := hW.size; simp; omega) ?_
               intro v5 w5 hown5 hg5 hb5 hat5))
          go_roundw
          case rel => exact ⟨k + 1, z + 1, by omega, by go_num, by omega, by rw [HT3.out, List.length_append, HZ.out]; rfl, by rw [HT3.out, flatZ_app]; exact hown5, (hW.alloc hW.size _).trans hb5⟩
          case measure => simp [intOf]; omega
        · have HT2 := HT.out
          rw [if_neg hry] at HT2
          have HT3 := Lib.hid HT2
          have hry' : (0 : Int) < r := by omega
          clear HT2 HT hry
          go_wp2
          go_roundw
          case rel => exact ⟨k + 1, z, by omega, by go_num, by omega, by rw [HT3.out]; exact HZ.out, by rw [HT3.out]; exact hO, hW⟩
          case measure => simp [intOf]; omega
      · have c3 := cell_bb hW hb2 c2
        have a1 : (0 : Int) ≤ (j : Int) := by omega
        have a2 : (j : Int) < (m : Int) := by omega
        clear c2
        by_cases hry : r ≤ y
        · have HT2 := HT.out
          rw [if_pos hry] at HT2
          have HT3 := Lib.hid HT2
          clear HT2 HT
          go_wp2_with (first
            | (at_builtin
               refine wpList_app rfl (.tmp 32) (.tmp 34) 23 rfl w.heap.size 3 i0 _ 1 8 Try.underlying23 hi0 hz0 hz1 hz2 rfl (by omega) u7 z _ rfl (hO.alloc _) _ 1 1 _ rfl RN rfl (by simp [Value.oneCell']) (by unfold maxLen; omega) (by omega) (by have := hW.size; simp; omega) ?_
               intro v5 w5 hown5 hg5 hb5 hat5))
          go_roundw
          case rel => exact ⟨k + 1, z + 1, by omega, by go_num, by omega, by rw [HT3.out, List.length_append, HZ.out]; rfl, by rw [HT3.out, flatZ_app]; exact hown5, (hW.alloc hW.size _).trans hb5⟩
          case measure => simp [intOf]; omega
        · have HT2 := HT.out
          rw [if_neg hry] at HT2
          have HT3 := Lib.hid HT2
          have hry' : y < r := by omega
          clear HT2 HT hry
          go_wp2
          go_roundw
          case rel => exact ⟨k + 1, z, by omega, by go_num, by omega, by rw [HT3.out]; exact HZ.out, by rw [HT3.out]; exact hO, hW⟩
          case measure => simp [intOf]; omega
    · obtain rfl : n = k := by omega
      have HT : Hid (l.take n = l) := by unfold Hid; rw [List.take_of_length_le (by have := HN.out; omega)]
      rw [HT.out] at hO HZ
      obtain ⟨A7, c7, rfl, _⟩ := own_form hO
      have hq := cquorum_any A A7 n c z c7 l (haveV l at_ r) wr (HR.out.below hW) HN.out (Rd.of_own hO) HZ.out (by omega) (by omega)
      rw [quor_have] at hq
      have HQ := Lib.hid hq
      clear hq hO
      go_wp2_with (go_at_call 39; refine HQ.out.mono ?_; rintro e w2 ⟨rfl, q2⟩)
      go_ret
      exact ⟨rfl, below_of (q2.below _) hW (Nat.le_refl _)⟩
end Go.Proofs.Ytmnndekpedacmaa
