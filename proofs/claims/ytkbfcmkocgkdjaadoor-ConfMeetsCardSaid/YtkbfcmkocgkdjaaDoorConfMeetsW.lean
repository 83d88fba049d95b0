/-
  The walk of the law ConfMeets: for every input it returns true and changes nothing that was there. Condition: the library's own variables are as told.
-/
import Derived.Test.YtkbfcmkocgkdjaaDoorConfAlive
namespace Go.Proofs.YtkbfcmkocgkdjaaDoor
open Go Go.RowKit
attribute [local go_sem] cell_set_if

def meetB (x y : List Int) (i : Nat) : Bool := (x.take i).any fun u => decide (u ∈ y)
def hasB (a x at_ : List Int) (v : Int) (i : Nat) : Bool := (x.take i).any fun u => decide (u ∈ a) && decide (v ≤ numAt at_ u)
theorem any_next {p : Int → Bool} {x : List Int} {i : Nat} {u : Int} (h : x[i]? = some u) : (x.take (i + 1)).any p = ((x.take i).any p || p u) := by
  rw [List.take_add_one, h, List.any_append]; simp
theorem any_eq_mem (y : List Int) (u : Int) : (y.any fun z => u == z) = decide (u ∈ y) := by
  rw [Bool.eq_iff_iff]; simp

set_option maxRecDepth 100000 in
set_option maxHeartbeats 4000000 in
theorem confmeets_walk (A0 A1 A2 A3 A4 : Option Addr) (n0 c0 n1 c1 n2 c2 n3 c3 n4 c4 : Nat) (a b x y at_ : List Int) (w : World) (hp : PowIs w) (hm : MaxIs w)
    (r0 : Rd w A0 (flatZ a)) (e0 : a.length = n0) (r1 : Rd w A1 (flatZ b)) (e1 : b.length = n1) (r2 : Rd w A2 (flatZ x)) (e2 : x.length = n2) (r3 : Rd w A3 (flatZ y)) (e3 : y.length = n3) (r4 : Rd w A4 (flatZ at_)) (e4 : at_.length = n4) :
    Calls Tryd.prog 3 #[.slice A0 n0 c0, .slice A1 n1 c1, .slice A2 n2 c2, .slice A3 n3 c3, .slice A4 n4 c4] w fun e w' => e = .returned (.bool true) ∧ Below w.heap.size w w' := by
  have HA := Lib.hid (alive22_any w hp hm)
  have R0 := Lib.hid r0
  have R1 := Lib.hid r1
  have R2 := Lib.hid r2
  have R3 := Lib.hid r3
  have R4 := Lib.hid r4
  have E0 := Lib.hid e0
  have E1 := Lib.hid e1
  have E2 := Lib.hid e2
  have E3 := Lib.hid e3
  have E4 := Lib.hid e4
  clear hp hm r0 r1 r2 r3 r4 e0 e1 e2 e3 e4
  by_cases hbad : 10 < n0 ∨ 10 < n1 ∨ 10 < n2 ∨ 10 < n3 ∨ 20 < n4
  · have hc : (10 : Int) < (n0 : Int) ∨ ((n0 : Int) ≤ 10 ∧ (10 : Int) < (n1 : Int)) ∨ ((n0 : Int) ≤ 10 ∧ (n1 : Int) ≤ 10 ∧ (10 : Int) < (n2 : Int)) ∨ ((n0 : Int) ≤ 10 ∧ (n1 : Int) ≤ 10 ∧ (n2 : Int) ≤ 10 ∧ (10 : Int) < (n3 : Int)) ∨ ((n0 : Int) ≤ 10 ∧ (n1 : Int) ≤ 10 ∧ (n2 : Int) ≤ 10 ∧ (n3 : Int) ≤ 10 ∧ (20 : Int) < (n4 : Int)) := by omega
    clear hbad
    rcases hc with h1 | ⟨h1, h2⟩ | ⟨h1, h2, h3⟩ | ⟨h1, h2, h3, h4⟩ | ⟨h1, h2, h3, h4, h5⟩
    all_goals
      go_enter Tryd.func3, Tryd.ntmps3
      go_wp2_with (go_at_call 5; refine HA.out.mono ?_; rintro e w1 ⟨rfl, b1⟩)
      go_ret
      exact ⟨rfl, b1⟩
  have hn0 : (n0 : Int) ≤ 10 := by omega
  have hn1 : (n1 : Int) ≤ 10 := by omega
  have hn2 : (n2 : Int) ≤ 10 := by omega
  have hn3 : (n3 : Int) ≤ 10 := by omega
  have hn4 : (n4 : Int) ≤ 20 := by omega
  have d0 : decide ((10 : Int) < (n0 : Int)) = false := decide_eq_false (by omega)
  have d1 : decide ((10 : Int) < (n1 : Int)) = false := decide_eq_false (by omega)
  have d2 : decide ((10 : Int) < (n2 : Int)) = false := decide_eq_false (by omega)
  have d3 : decide ((10 : Int) < (n3 : Int)) = false := decide_eq_false (by omega)
  have d4 : decide ((20 : Int) < (n4 : Int)) = false := decide_eq_false (by omega)
  clear hbad
  obtain ⟨S, hS⟩ : ∃ S, S = stepV a b := ⟨_, rfl⟩
  obtain ⟨P, hP⟩ : ∃ P, P = quorV a x := ⟨_, rfl⟩
  obtain ⟨Q, hQ⟩ : ∃ Q, Q = quorV b y := ⟨_, rfl⟩
  obtain ⟨V, hV⟩ : ∃ V, V = idxV a at_ := ⟨_, rfl⟩
  have HStep : Hid (∀ W, Below w.heap.size w W → Calls Tryd.prog 6 #[.slice A0 n0 c0, .slice A1 n1 c1] W fun e w' => e = .returned (.bool S) ∧ Qt W w') := fun W h => by
    rw [hS]; exact cstep_any A0 A1 n0 c0 n1 c1 a b W (R0.out.below h) E0.out (R1.out.below h) E1.out (by omega) (by omega)
  have HP1 : Hid (∀ W, Below w.heap.size w W → Calls Tryd.prog 7 #[.slice A0 n0 c0, .slice A2 n2 c2] W fun e w' => e = .returned (.bool P) ∧ Qt W w') := fun W h => by
    rw [hP]; exact cquorum_any A0 A2 n0 c0 n2 c2 a x W (R0.out.below h) E0.out (R2.out.below h) E2.out (by omega) (by omega)
  have HQ1 : Hid (∀ W, Below w.heap.size w W → Calls Tryd.prog 7 #[.slice A1 n1 c1, .slice A3 n3 c3] W fun e w' => e = .returned (.bool Q) ∧ Qt W w') := fun W h => by
    rw [hQ]; exact cquorum_any A1 A3 n1 c1 n3 c3 b y W (R1.out.below h) E1.out (R3.out.below h) E3.out (by omega) (by omega)
  have HV1 : Hid (∀ W, Below w.heap.size w W → Calls Tryd.prog 8 #[.slice A0 n0 c0, .slice A4 n4 c4] W fun e w' => e = .returned (.int .i64 V) ∧ Below W.heap.size W w') := fun W h => by
    rw [hV]; exact cindex_any A0 A4 n0 c0 n4 c4 a at_ W (R0.out.below h) E0.out (R4.out.below h) E4.out (by omega) (by omega)
  have HS := Lib.hid hS
  have HP := Lib.hid hP
  have HQ := Lib.hid hQ
  have HV := Lib.hid hV
  clear hS hP hQ hV
  by_cases hno : S = false ∨ P = false ∨ Q = false
  · have hc : S = false ∨ (S = true ∧ P = false) ∨ (S = true ∧ P = true ∧ Q = false) := by
      cases S <;> cases P <;> simp_all
    clear hno
    rcases hc with rfl | ⟨rfl, rfl⟩ | ⟨rfl, rfl, rfl⟩
    all_goals
      go_enter Tryd.func3, Tryd.ntmps3
      go_wp2_with (first
        | (go_at_call 5; refine HA.out.mono ?_; rintro e w1 ⟨rfl, b1⟩)
        | (go_at_call 6; refine (HStep.out _ b1).mono ?_; rintro e w2 ⟨rfl, q2⟩; have b2 := below_of (q2.below _) b1 b1.size)
        | (go_at_call 7; ((with_reducible refine (HP1.out _ b2).mono ?_); rintro e w3 ⟨rfl, q3⟩); have b3 := below_of (q3.below _) b2 b2.size)
        | (go_at_call 7; ((with_reducible refine (HQ1.out _ b3).mono ?_); rintro e w4 ⟨rfl, q4⟩); have b4 := below_of (q4.below _) b3 b3.size))
      go_ret
      first
        | exact ⟨rfl, b4⟩
        | exact ⟨rfl, b3⟩
        | exact ⟨rfl, b2⟩
  obtain ⟨rfl, rfl, rfl⟩ : S = true ∧ P = true ∧ Q = true := by cases S <;> cases P <;> cases Q <;> simp_all
  clear hno
  go_enter Tryd.func3, Tryd.ntmps3
  go_wp2_with (first
    | (go_at_call 5; refine HA.out.mono ?_; rintro e w1 ⟨rfl, b1⟩)
    | (go_at_call 6; refine (HStep.out _ b1).mono ?_; rintro e w2 ⟨rfl, q2⟩; have b2 := below_of (q2.below _) b1 b1.size)
    | (go_at_call 7; ((with_reducible refine (HP1.out _ b2).mono ?_); rintro e w3 ⟨rfl, q3⟩); have b3 := below_of (q3.below _) b2 b2.size)
    | (go_at_call 7; ((with_reducible refine (HQ1.out _ b3).mono ?_); rintro e w4 ⟨rfl, q4⟩); have b4 := below_of (q4.below _) b3 b3.size)
    | (go_at_call 8; refine (HV1.out _ b4).mono ?_; rintro e w5 ⟨rfl, q5⟩; have b5 := below_of q5 b4 b4.size))
  go_loopw [11, 12, 14] (fun u11 u12 u14 wr => ∃ i : Nat, i ≤ n2 ∧ u14 = .int .i64 i ∧ u11 = .bool (meetB x y i) ∧ u12 = .bool (hasB a x at_ V i) ∧ Below w.heap.size w wr) (fun _ _ u14 _ => n2 - (intOf u14).toNat)
  case atStart => exact ⟨0, by omega, rfl, rfl, rfl, b5⟩
  case round =>
    obtain ⟨i, hi, rfl, rfl, rfl, hB⟩ := hrel
    by_cases hlt : i < n2
    · obtain ⟨bx, ox, u, rfl, hbx, hu, q0⟩ := R2.out.num (k := i) (by have := E2.out; omega)
      have hii : (i : Int) < (n2 : Int) := by omega
      have HM := Lib.hid (any_next (p := fun u => decide (u ∈ y)) hu)
      have HH := Lib.hid (any_next (p := fun u => decide (u ∈ a) && decide (V ≤ numAt at_ u)) hu)
      obtain ⟨m0, hm0⟩ : ∃ m0, m0 = meetB x y i := ⟨_, rfl⟩
      obtain ⟨h0, hh0⟩ : ∃ h0, h0 = hasB a x at_ V i := ⟨_, rfl⟩
      rw [← hm0, ← hh0]
      have HM0 := Lib.hid hm0
      have HH0 := Lib.hid hh0
      clear hu hm0 hh0
      go_wp2_with fail
      go_loopw [11, 15] (fun u11 u15 wr => ∃ k : Nat, k ≤ n3 ∧ u15 = .int .i64 k ∧ u11 = .bool (m0 || (y.take k).any fun z => u == z) ∧ Below w.heap.size w wr) (fun _ u15 _ => n3 - (intOf u15).toNat)
      case atStart => exact ⟨0, by omega, rfl, by simp, hB⟩
      case round =>
        clear hB
        obtain ⟨k, hk, rfl, rfl, hB⟩ := hrel
        have k0 := cell_bb hB hbx q0
        by_cases hlt3 : k < n3
        · obtain ⟨by_, oy, z, rfl, hby, hz, p0⟩ := R3.out.num (k := k) (by have := E3.out; omega)
          have g0 := cell_bb hB hby p0
          have hki : (k : Int) < (n3 : Int) := by omega
          have HN := Lib.hid (any_next (p := fun z => u == z) hz)
          obtain ⟨m1, hm1⟩ : ∃ m1, m1 = (m0 || (y.take k).any fun z => u == z) := ⟨_, rfl⟩
          rw [← hm1]
          have HM1 := Lib.hid hm1
          clear hz hm1 p0
          cases m1
          · obtain ⟨q, hq⟩ : ∃ q, q = (u == z) := ⟨_, rfl⟩
            have HR : Hid ((m0 || (y.take (k + 1)).any fun z => u == z) = q) := by unfold Hid; rw [HN.out, ← Bool.or_assoc, ← HM1.out, hq]; rfl
            have hq2 := hq.symm
            clear hq
            go_wp2
            go_quiet (fail)
            go_wp2
            go_roundw
            case rel => exact ⟨k + 1, by omega, by go_num, by rw [HR.out], below_drewN hB _⟩
            case measure => simp [intOf]; omega
          · have HR : Hid ((m0 || (y.take (k + 1)).any fun z => u == z) = true) := by unfold Hid; rw [HN.out, ← Bool.or_assoc, ← HM1.out]; rfl
            go_wp2
            go_quiet (fail)
            go_wp2
            go_roundw
            case rel => exact ⟨k + 1, by omega, by go_num, by rw [HR.out], below_drewN hB _⟩
            case measure => simp [intOf]; omega
        · obtain rfl : n3 = k := by omega
          have HMF : Hid ((m0 || (y.take n3).any fun z => u == z) = meetB x y (i + 1)) := by
            unfold Hid meetB
            rw [HM.out, List.take_of_length_le (by have := E3.out; omega), any_eq_mem, HM0.out]; rfl
          obtain ⟨m2, hm2⟩ : ∃ m2, m2 = (m0 || (y.take n3).any fun z => u == z) := ⟨_, rfl⟩
          rw [← hm2]
          rw [← hm2] at HMF
          obtain ⟨N, hN⟩ : ∃ N, N = numAt at_ u := ⟨_, rfl⟩
          obtain ⟨t, ht⟩ : ∃ t, t = decide (u ∈ a) := ⟨_, rfl⟩
          have HCH : Hid (∀ W, Below w.heap.size w W → Calls Tryd.prog 9 #[.slice A0 n0 c0, .int .i64 u] W fun e w' => e = .returned (.bool t) ∧ w' = W) := fun W h => by
            rw [ht]; exact chas_any A0 n0 c0 a u W (R0.out.below h) E0.out (by omega)
          have HHF : Hid (hasB a x at_ V (i + 1) = (h0 || (t && decide (V ≤ N)))) := by
            unfold Hid hasB
            rw [HH.out, HH0.out, ht, hN]; rfl
          have HN2 := Lib.hid hN
          clear hm2 hN ht HH HM
          have fin : Hid (∀ r : Bool, r = (h0 || (t && decide (V ≤ N))) → Value.bool r = Value.bool (hasB a x at_ V (i + 1))) := fun r hr => by rw [HHF.out, hr]
          clear HHF
          by_cases hin : 0 ≤ u ∧ u < (n4 : Int)
          · obtain ⟨hu0, hu1⟩ := hin
            obtain ⟨j, rfl⟩ : ∃ j : Nat, u = (j : Int) := ⟨u.toNat, (Int.toNat_of_nonneg hu0).symm⟩
            obtain ⟨ba, oa, z, rfl, hba, hz, p0⟩ := R4.out.num (k := j) (by have := E4.out; omega)
            have g0 := cell_bb hB hba p0
            have hNz : N = z := by rw [HN2.out]; exact numAt_in rfl (by have := E4.out; omega) hz
            subst hNz
            clear HN2 hz p0
            cases h0
            · cases t
              · go_wp2_with (go_at_call 9; refine (HCH.out _ hB).mono ?_; rintro e w6 ⟨rfl, hw6⟩; subst hw6)
                go_roundw
                case rel => exact ⟨i + 1, by omega, by go_num, by rw [HMF.out], fin.out _ rfl, hB⟩
                case measure => simp [intOf]; omega
              · go_wp2_with (go_at_call 9; refine (HCH.out _ hB).mono ?_; rintro e w6 ⟨rfl, hw6⟩; subst hw6)
                go_roundw
                case rel => exact ⟨i + 1, by omega, by go_num, by rw [HMF.out], fin.out _ rfl, hB⟩
                case measure => simp [intOf]; omega
            · go_wp2
              go_roundw
              case rel => exact ⟨i + 1, by omega, by go_num, by rw [HMF.out], fin.out _ rfl, hB⟩
              case measure => simp [intOf]; omega
          · have hNz : N = 0 := by rw [HN2.out]; exact numAt_out (by have := E4.out; omega)
            subst hNz
            have hc : u < 0 ∨ (0 ≤ u ∧ (n4 : Int) ≤ u) := by omega
            clear HN2 hin
            rcases hc with hu0 | ⟨hu0, hu1⟩
            all_goals
              cases h0
              · cases t
                · go_wp2_with (go_at_call 9; refine (HCH.out _ hB).mono ?_; rintro e w6 ⟨rfl, hw6⟩; subst hw6)
                  go_roundw
                  case rel => exact ⟨i + 1, by omega, by go_num, by rw [HMF.out], fin.out _ rfl, hB⟩
                  case measure => simp [intOf]; omega
                · go_wp2_with (go_at_call 9; refine (HCH.out _ hB).mono ?_; rintro e w6 ⟨rfl, hw6⟩; subst hw6)
                  go_roundw
                  case rel => exact ⟨i + 1, by omega, by go_num, by rw [HMF.out], fin.out _ rfl, hB⟩
                  case measure => simp [intOf]; omega
              · go_wp2
                go_roundw
                case rel => exact ⟨i + 1, by omega, by go_num, by rw [HMF.out], fin.out _ rfl, hB⟩
                case measure => simp [intOf]; omega
    · obtain rfl : n2 = i := by omega
      have hmt : meetB x y n2 = true := by
        obtain ⟨z, hz1, hz2⟩ := meets_law HS.out.symm HP.out.symm HQ.out.symm
        unfold meetB
        rw [List.take_of_length_le (by have := E2.out; omega), List.any_eq_true]
        exact ⟨z, hz1, by simpa using hz2⟩
      have hht : hasB a x at_ V n2 = true := by
        obtain ⟨z, hz1, hz2, hz3⟩ := has_law (at_ := at_) HP.out.symm
        unfold hasB
        rw [List.take_of_length_le (by have := E2.out; omega), List.any_eq_true]
        exact ⟨z, hz1, by rw [HV.out]; simp [hz2, hz3]⟩
      rw [hmt, hht]
      clear hmt hht
      go_wp2
      go_ret
      exact ⟨rfl, hB⟩
end Go.Proofs.YtkbfcmkocgkdjaaDoor
