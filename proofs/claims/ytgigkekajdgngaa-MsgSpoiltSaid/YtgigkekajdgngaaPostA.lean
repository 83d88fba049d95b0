/-
  slices.Min and slices.Max of some ints; a message without entries, laid. Conditions: as the law's first calls have it.
-/
import Derived.Test.YtgigkekajdgngaaIntMore
import Derived.Test.YtgigkekajdgngaaPackAny
import Derived.Test.YtgigkekajdgngaaSumFlip
import Derived.Test.YtgigkekajdgngaaSumSeal
namespace Go.Proofs.Ytgigkekajdgngaa
open Go Go.RowKit
attribute [local go_sem] cell_set_if

set_option maxRecDepth 100000 in
set_option maxHeartbeats 1000000 in
theorem smin_any (b n c : Nat) (l : List Int) (w : World) (hr : Rd w (some ⟨b, 0, none⟩) (flatZ l)) (hn : l.length = n) (h0 : 0 < n) (hm : n ≤ 1000000) :
    Calls Try.prog 14 #[.slice (some ⟨b, 0, none⟩) n c] w fun e w' => (∃ m, e = .returned (.int .i64 m) ∧ m ∈ l ∧ ∀ x ∈ l, m ≤ x) ∧ w' = w := by
  obtain ⟨b1, o1, x0, e1, _, hx0, d0⟩ := hr.num (k := 0) (by omega)
  injection e1 with e1
  injection e1 with e1 e2
  subst e1 e2
  rw [Nat.zero_add] at d0
  have HR := Lib.hid hr
  have HN := Lib.hid hn
  have HX0 := Lib.hid hx0
  have hni : (n : Int) ≤ 1000000 := by omega
  have hn0 : 0 < (n : Int) := by omega
  have hn1 : ¬ (n : Int) < 1 := by omega
  clear hr hn hx0
  go_enter Try.func14, Try.ntmps14
  go_wp2
  go_loopw [3, 4] (fun u3 u4 wr => ∃ (k : Nat) (m : Int), 1 ≤ k ∧ k ≤ n ∧ u4 = .int .i64 k ∧ u3 = .int .i64 m ∧ Hid (m ∈ l.take k ∧ ∀ x ∈ l.take k, m ≤ x) ∧ wr = w) (fun _ u4 _ => n - (intOf u4).toNat)
  case atStart =>
    refine ⟨1, x0, by omega, by omega, rfl, rfl, ?_, rfl⟩
    have e : l.take 1 = [x0] := by
      have := HX0.out
      cases l with
      | nil => cases this
      | cons y ys => simp at this; simp [this]
    unfold Hid
    rw [e]; simp
  case round =>
    obtain ⟨k, m, hk1, hk, rfl, rfl, HM, rfl⟩ := hrel
    by_cases hlt : k < n
    · have hki : (k : Int) < (n : Int) := by omega
      obtain ⟨b2, o2, x, e3, _, hx, d1⟩ := HR.out.num (k := k) (by have := HN.out; omega)
      injection e3 with e3
      injection e3 with e3 e4
      subst e3 e4
      rw [Nat.zero_add] at d1
      have htk : l.take (k + 1) = l.take k ++ [x] := by rw [List.take_add_one, hx]; rfl
      have HNX : Hid (min m x ∈ l.take (k + 1) ∧ ∀ y ∈ l.take (k + 1), min m x ≤ y) := by
        unfold Hid
        rw [htk]
        refine ⟨?_, fun y hy => ?_⟩
        · by_cases h : m ≤ x
          · rw [show min m x = m by omega]; exact List.mem_append_left _ HM.out.1
          · rw [show min m x = x by omega]; simp
        · rcases List.mem_append.1 hy with h | h
          · have := HM.out.2 y h; omega
          · simp at h; omega
      clear hx htk
      go_wp2
      go_roundw
      case rel => exact ⟨k + 1, min m x, by omega, by omega, by go_num, rfl, HNX, by first | rfl | trivial⟩
      case measure => simp [intOf]; omega
    · obtain rfl : n = k := by omega
      have ht : l.take n = l := by rw [← HN.out, List.take_length]
      have HM2 := HM.out
      rw [ht] at HM2
      have HM3 := Lib.hid HM2
      clear ht HM2
      go_wp2
      go_ret
      exact ⟨⟨m, rfl, HM3.out.1, HM3.out.2⟩, rfl⟩
set_option maxRecDepth 100000 in
set_option maxHeartbeats 1000000 in
theorem smax_any (b n c : Nat) (l : List Int) (w : World) (hr : Rd w (some ⟨b, 0, none⟩) (flatZ l)) (hn : l.length = n) (h0 : 0 < n) (hm : n ≤ 1000000) :
    Calls Try.prog 15 #[.slice (some ⟨b, 0, none⟩) n c] w fun e w' => (∃ m, e = .returned (.int .i64 m) ∧ m ∈ l ∧ ∀ x ∈ l, x ≤ m) ∧ w' = w := by
  obtain ⟨b1, o1, x0, e1, _, hx0, d0⟩ := hr.num (k := 0) (by omega)
  injection e1 with e1
  injection e1 with e1 e2
  subst e1 e2
  rw [Nat.zero_add] at d0
  have HR := Lib.hid hr
  have HN := Lib.hid hn
  have HX0 := Lib.hid hx0
  have hni : (n : Int) ≤ 1000000 := by omega
  have hn0 : 0 < (n : Int) := by omega
  have hn1 : ¬ (n : Int) < 1 := by omega
  clear hr hn hx0
  go_enter Try.func15, Try.ntmps15
  go_wp2
  go_loopw [3, 4] (fun u3 u4 wr => ∃ (k : Nat) (m : Int), 1 ≤ k ∧ k ≤ n ∧ u4 = .int .i64 k ∧ u3 = .int .i64 m ∧ Hid (m ∈ l.take k ∧ ∀ x ∈ l.take k, x ≤ m) ∧ wr = w) (fun _ u4 _ => n - (intOf u4).toNat)
  case atStart =>
    refine ⟨1, x0, by omega, by omega, rfl, rfl, ?_, rfl⟩
    have e : l.take 1 = [x0] := by
      have := HX0.out
      cases l with
      | nil => cases this
      | cons y ys => simp at this; simp [this]
    unfold Hid
    rw [e]; simp
  case round =>
    obtain ⟨k, m, hk1, hk, rfl, rfl, HM, rfl⟩ := hrel
    by_cases hlt : k < n
    · have hki : (k : Int) < (n : Int) := by omega
      obtain ⟨b2, o2, x, e3, _, hx, d1⟩ := HR.out.num (k := k) (by have := HN.out; omega)
      injection e3 with e3
      injection e3 with e3 e4
      subst e3 e4
      rw [Nat.zero_add] at d1
      have htk : l.take (k + 1) = l.take k ++ [x] := by rw [List.take_add_one, hx]; rfl
      have HNX : Hid (max m x ∈ l.take (k + 1) ∧ ∀ y ∈ l.take (k + 1), y ≤ max m x) := by
        unfold Hid
        rw [htk]
        refine ⟨?_, fun y hy => ?_⟩
        · by_cases h : x ≤ m
          · rw [show max m x = m by omega]; exact List.mem_append_left _ HM.out.1
          · rw [show max m x = x by omega]; simp
        · rcases List.mem_append.1 hy with h | h
          · have := HM.out.2 y h; omega
          · simp at h; omega
      clear hx htk
      go_wp2
      go_roundw
      case rel => exact ⟨k + 1, max m x, by omega, by omega, by go_num, rfl, HNX, by first | rfl | trivial⟩
      case measure => simp [intOf]; omega
    · obtain rfl : n = k := by omega
      have ht : l.take n = l := by rw [← HN.out, List.take_length]
      have HM2 := HM.out
      rw [ht] at HM2
      have HM3 := Lib.hid HM2
      clear ht HM2
      go_wp2
      go_ret
      exact ⟨⟨m, rfl, HM3.out.1, HM3.out.2⟩, rfl⟩
end Go.Proofs.Ytgigkekajdgngaa
