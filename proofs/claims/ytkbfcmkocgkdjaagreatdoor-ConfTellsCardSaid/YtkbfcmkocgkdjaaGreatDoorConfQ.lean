/-
  Quorums: what conf.Quorum, raft.Safe and the document's Safe give. Condition: no more than a hundred thousand members.
-/
import Derived.Test.YtkbfcmkocgkdjaaGreatDoorConfW
import Derived.Test.YtkbfcmkocgkdjaaGreatDoorConfR
namespace Go.Proofs.YtkbfcmkocgkdjaaGreatDoor
open Go Go.RowKit
attribute [local go_sem] cell_set_if

theorem cntP_take (p : Int → Bool) (l : List Int) (k : Nat) (x : Int) (h : l[k]? = some x) : (l.take (k + 1)).countP p = (l.take k).countP p + if p x = true then 1 else 0 := by
  rw [List.take_add_one, h, List.countP_append]
  cases hp : p x <;> simp [hp]
set_option maxRecDepth 100000 in
set_option maxHeartbeats 2000000 in
theorem cquorum_any (A B : Option Addr) (n c m d : Nat) (l ids : List Int) (w : World) (hr : Rd w A (flatZ l)) (hn : l.length = n) (hb : Rd w B (flatZ ids)) (hm : ids.length = m) (h1 : n ≤ 1000) (h2 : m ≤ 1000) :
    Calls Tryz.prog 19 #[.slice A n c, .slice B m d] w fun e w' => e = .returned (.bool (quorV l ids)) ∧ Qt w w' := by
  have HR := Lib.hid hr
  have HB := Lib.hid hb
  have HN := Lib.hid hn
  have HM := Lib.hid hm
  have hni : (n : Int) ≤ 1000 := by omega
  have hc := cright_any A n c l w hr hn (by omega)
  obtain ⟨ok, hok⟩ : ∃ ok, ok = rightV l := ⟨_, rfl⟩
  rw [← hok] at hc
  have HC := Lib.hid hc
  have HOK := Lib.hid hok
  clear hr hb hn hm hc hok
  cases ok
  · have HF : Hid (quorV l ids = false) := by unfold Hid quorV; rw [← HOK.out]; rfl
    go_enter Tryz.func19, Tryz.ntmps19
    go_wp2_with (go_at_call 26; refine HC.out.mono ?_; rintro e w1 ⟨rfl, q1⟩)
    go_ret
    exact ⟨ret_bool HF.out.symm, q1⟩
  · go_enter Tryz.func19, Tryz.ntmps19
    go_wp2_with (go_at_call 26; refine HC.out.mono ?_; rintro e w1 ⟨rfl, q1⟩)
    go_loopw [5, 7, 13] (fun u5 u7 u13 wr => ∃ k z : Nat, k ≤ n ∧ u13 = .int .i64 k ∧ u5 = .int .i64 z ∧ z ≤ k ∧ Hid ((l.take k).countP (fun x => decide (x ∈ ids)) = z) ∧ Qt w wr) (fun _ _ u13 _ => n - (intOf u13).toNat)
    case atStart => exact ⟨0, 0, by omega, rfl, rfl, Nat.le_refl _, rfl, q1⟩
    case round =>
      obtain ⟨k, z, hk, rfl, rfl, hzk, HZ, hQ⟩ := hrel
      have RR : Rd wr A (flatZ l) := by obtain ⟨m, rfl⟩ := hQ; exact HR.out.drewN m
      have RB : Rd wr B (flatZ ids) := by obtain ⟨m, rfl⟩ := hQ; exact HB.out.drewN m
      by_cases hlt : k < n
      · obtain ⟨b1, o1, x, rfl, _, hx, d0⟩ := RR.num (k := k) (by have := HN.out; omega)
        have HX := Lib.hid hx
        have hki : (k : Int) < (n : Int) := by omega
        have hct := contains_any B m d ids x wr RB HM.out (by omega)
        have hst := cntP_take (fun x => decide (x ∈ ids)) l k x hx
        rw [HZ.out] at hst
        obtain ⟨q, hq⟩ : ∃ q, q = decide (x ∈ ids) := ⟨_, rfl⟩
        simp only [← hq] at hst
        rw [← hq] at hct
        have HCT := Lib.hid hct
        have HST := Lib.hid hst
        clear hct hst hq hx RR RB
        cases q
        · go_wp2_with (go_at_call 40; refine HCT.out.mono ?_; rintro e w2 ⟨rfl, hw2⟩; subst hw2)
          go_roundw
          case rel => exact ⟨k + 1, z, by omega, by go_num, rfl, by omega, HST.out, hQ⟩
          case measure => simp [intOf]; omega
        · go_wp2_with (go_at_call 40; refine HCT.out.mono ?_; rintro e w2 ⟨rfl, hw2⟩; subst hw2)
          go_roundw
          case rel => exact ⟨k + 1, z + 1, by omega, by go_num, by go_num, by omega, HST.out, hQ⟩
          case measure => simp [intOf]; omega
      · obtain rfl : n = k := by omega
        have HF : Hid (quorV l ids = decide ((n : Int) < 2 * (z : Int))) := by
          unfold Hid quorV
          have hz := HZ.out
          rw [List.take_of_length_le (by have := HN.out; omega)] at hz
          rw [← HOK.out, hz, HN.out, Bool.true_and, decide_eq_decide]
          omega
        go_wp2
        go_ret
        exact ⟨ret_bool (by rw [HF.out]), hQ⟩
end Go.Proofs.YtkbfcmkocgkdjaaGreatDoor
