/-
  The document's Quorum. Conditions: no more than a thousand members, and ids.
-/
import Derived.Test.YtkbfcmkocgkdjaaGreatDoorConfQ
namespace Go.Proofs.YtkbfcmkocgkdjaaGreatDoor
open Go Go.RowKit
attribute [local go_sem] cell_set_if

set_option maxRecDepth 100000 in
set_option maxHeartbeats 1000000 in
theorem in_ints (A : Option Addr) (n c : Nat) (l : List Int) (x : Int) (w : World) (hr : Rd w A (flatZ l)) (hn : l.length = n) (hm : n ≤ 100000) :
    Calls Tryz.prog 35 #[.slice A n c, .int .i64 x] w fun e w' => e = .returned (.bool (decide (x ∈ l))) ∧ w' = w := by
  have HR := Lib.hid hr
  have HN := Lib.hid hn
  have hni : (n : Int) ≤ 100000 := by omega
  clear hr hn
  go_enter Tryz.func35, Tryz.ntmps35
  go_wp2
  go_loopw [5] (fun u5 wr => ∃ k : Nat, k ≤ n ∧ u5 = .int .i64 k ∧ Hid (∀ j : Nat, j < k → l[j]? ≠ some x) ∧ wr = w) (fun u5 _ => n - (intOf u5).toNat)
  case atStart => exact ⟨0, by omega, rfl, fun j hj => by omega, rfl⟩
  case round =>
    obtain ⟨k, hk, rfl, hno, rfl⟩ := hrel
    by_cases hlt : k < n
    · obtain ⟨b1, o1, y, rfl, _, hy, d0⟩ := HR.out.num (k := k) (by have := HN.out; omega)
      have hki : (k : Int) < (n : Int) := by omega
      by_cases hyx : y = x
      · have HD : Hid (decide (x ∈ l) = true) := by unfold Hid; rw [← hyx]; exact decide_eq_true (List.mem_of_getElem? hy)
        have hq : (y == x) = true := by simpa using hyx
        clear hy hyx
        go_wp2
        go_ret
        exact ⟨by (rw [HD.out]) <;> rfl, rfl⟩
      · have HY : Hid (∀ j : Nat, j < k + 1 → l[j]? ≠ some x) := fun j hj => by
          by_cases e : j = k
          · subst e; rw [hy]; intro h; exact hyx (Option.some.inj h)
          · exact hno.out j (by omega)
        have hq : (y == x) = false := by simpa using hyx
        clear hy hyx
        go_wp2
        go_roundw
        case rel => exact ⟨k + 1, by omega, by go_num, HY.out, by first | rfl | trivial⟩
        case measure => simp [intOf]; omega
    · obtain rfl : n = k := by omega
      have HD : Hid (decide (x ∈ l) = false) := by
        unfold Hid
        refine decide_eq_false fun hm => ?_
        obtain ⟨j, hj⟩ := List.mem_iff_getElem?.1 hm
        exact hno.out j (by have := (List.getElem?_eq_some_iff.1 hj).1; have := HN.out; omega) hj
      go_wp2
      go_ret
      exact ⟨by (rw [HD.out]) <;> rfl, rfl⟩
set_option maxRecDepth 100000 in
set_option maxHeartbeats 2000000 in
theorem rquorum_any (A B : Option Addr) (n c m d : Nat) (l ids : List Int) (w : World) (hr : Rd w A (flatZ l)) (hn : l.length = n) (hb : Rd w B (flatZ ids)) (hm : ids.length = m) (h1 : n ≤ 1000) (h2 : m ≤ 1000) :
    Calls Tryz.prog 20 #[.slice A n c, .slice B m d] w fun e w' => e = .returned (.bool (quorV l ids)) ∧ Qt w w' := by
  have HR := Lib.hid hr
  have HB := Lib.hid hb
  have HN := Lib.hid hn
  have HM := Lib.hid hm
  have hni : (n : Int) ≤ 1000 := by omega
  have hc := fun w hr => rright_any A n c l w hr hn (by omega)
  obtain ⟨ok, hok⟩ : ∃ ok, ok = rightV l := ⟨_, rfl⟩
  rw [← hok] at hc
  have HC := Lib.hid hc
  have HOK := Lib.hid hok
  clear hr hb hn hm hc hok
  go_enter Tryz.func20, Tryz.ntmps20
  go_wp2
  go_loopw [5, 6] (fun u5 u6 wr => ∃ k z : Nat, k ≤ n ∧ u6 = .int .i64 k ∧ u5 = .int .i64 z ∧ z ≤ k ∧ Hid ((l.take k).countP (fun x => decide (x ∈ ids)) = z) ∧ wr = w) (fun _ u6 _ => n - (intOf u6).toNat)
  case atStart => exact ⟨0, 0, by omega, rfl, rfl, Nat.le_refl _, rfl, rfl⟩
  case round =>
    obtain ⟨k, z, hk, rfl, rfl, hzk, HZ, rfl⟩ := hrel
    by_cases hlt : k < n
    · obtain ⟨b1, o1, x, rfl, _, hx, d0⟩ := HR.out.num (k := k) (by have := HN.out; omega)
      have hki : (k : Int) < (n : Int) := by omega
      have hct := in_ints B m d ids x wr HB.out HM.out (by omega)
      have hst := cntP_take (fun x => decide (x ∈ ids)) l k x hx
      rw [HZ.out] at hst
      obtain ⟨y, hy⟩ : ∃ y, y = decide (x ∈ ids) := ⟨_, rfl⟩
      simp only [← hy] at hst
      rw [← hy] at hct
      have HCT := Lib.hid hct
      have HST := Lib.hid hst
      clear hct hst hy hx
      cases y
      · have HS2 : Hid ((l.take (k + 1)).countP (fun x => decide (x ∈ ids)) = z) := by unfold Hid; rw [HST.out]; rfl
        clear HST
        go_wp2_with (go_at_call 35; refine HCT.out.mono ?_; rintro e w2 ⟨rfl, hw2⟩; subst hw2)
        go_roundw
        case rel => exact ⟨k + 1, z, by omega, by go_num, rfl, by omega, HS2.out, by first | rfl | trivial⟩
        case measure => simp [intOf]; omega
      · have HS2 : Hid ((l.take (k + 1)).countP (fun x => decide (x ∈ ids)) = z + 1) := by unfold Hid; rw [HST.out]; rfl
        clear HST
        go_wp2_with (go_at_call 35; refine HCT.out.mono ?_; rintro e w2 ⟨rfl, hw2⟩; subst hw2)
        go_roundw
        case rel => exact ⟨k + 1, z + 1, by omega, by go_num, by go_num, by omega, HS2.out, by first | rfl | trivial⟩
        case measure => simp [intOf]; omega
    · obtain rfl : n = k := by omega
      have HF : Hid (quorV l ids = (ok && decide ((n : Int) < 2 * (z : Int)))) := by
        unfold Hid quorV
        have hz := HZ.out
        rw [List.take_of_length_le (by have := HN.out; omega)] at hz
        rw [← HOK.out, hz, HN.out]
        congr 1
        rw [decide_eq_decide]
        omega
      cases ok
      · go_wp2_with (go_at_call 29; refine (HC.out _ HR.out).mono ?_; rintro e w2 ⟨rfl, q2⟩)
        go_ret
        exact ⟨ret_bool (by rw [HF.out]; rfl), q2⟩
      · go_wp2_with (go_at_call 29; refine (HC.out _ HR.out).mono ?_; rintro e w2 ⟨rfl, q2⟩)
        go_ret
        exact ⟨ret_bool (by rw [HF.out]; rfl), q2⟩
end Go.Proofs.YtkbfcmkocgkdjaaGreatDoor
