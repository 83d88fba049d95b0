/-
  What pack.Number and the document's Number give of a text. Condition: texts of no more than a hundred bytes.
-/
import Derived.Test.YtkbfcmkocgkdjaaGreatDoorPackNumP
namespace Go.Proofs.YtkbfcmkocgkdjaaGreatDoor
open Go Go.RowKit

theorem toList45 : (⟨#[45]⟩ : ByteArray).toList = [45] := by rw [Lib.toList_data]
theorem take1_eq (s : ByteArray) : ((s.extract 0 1).toList == ([45] : List UInt8)) = decide ((bts s).head? = some 45) := by
  rw [← toList45, str_beq, bts_extract]
  rw [decide_eq_decide]
  show ((bts s).take 1).drop 0 = [45] ↔ _
  cases bts s <;> simp
theorem hasdash_any (s : ByteArray) (w : World) :
    Calls Tryz.prog 131 #[.string s, .string ⟨#[45]⟩] w fun e w' => e = .returned (.bool (decide ((bts s).head? = some 45))) ∧ w' = w := by
  by_cases h : 1 ≤ s.size
  · have h1 : (1 : Int) ≤ (s.size : Int) := by omega
    have hE := take1_eq s
    obtain ⟨b, hb⟩ : ∃ b, b = decide ((bts s).head? = some 45) := ⟨_, rfl⟩
    rw [← hb] at hE ⊢
    clear hb
    go_enter Tryz.func131, Tryz.ntmps131
    go_wp2
    go_ret
    exact ⟨rfl, rfl⟩
  · have h1 : (s.size : Int) < 1 := by omega
    have h0 : (bts s) = [] := List.length_eq_zero_iff.1 (by rw [bts_len]; omega)
    rw [h0]
    clear h0
    go_enter Tryz.func131, Tryz.ntmps131
    go_wp2
    go_ret
    exact ⟨rfl, rfl⟩
/-- What is behind the dash, and whether there is one. -/
theorem cutdash_any (s D : ByteArray) (below : Bool) (w : World) (hb : below = decide ((bts s).head? = some 45)) (hD : D = if below = true then s.extract 1 s.size else s) :
    Calls Tryz.prog 83 #[.string s, .string ⟨#[45]⟩] w fun e w' => e = .returned (.tuple #[.string D, .bool below]) ∧ w' = w := by
  have HP : ∀ w, Calls Tryz.prog 131 #[.string s, .string ⟨#[45]⟩] w fun e w' => e = .returned (.bool below) ∧ w' = w := fun w => by rw [hb]; exact hasdash_any s w
  have HI : ∀ w, Calls Tryz.prog 111 #[.string s, .string ⟨#[45]⟩] w fun e w' => e = .returned (.tuple #[.string D, .bool below]) ∧ w' = w := fun w => by
    cases below
    · subst hD
      clear hb
      go_enter Tryz.func111, Tryz.ntmps111
      go_wp2_with (go_at_call 131; refine (HP _).mono ?_; rintro e w1 ⟨rfl, hw1⟩; subst hw1)
      go_ret2
      exact ⟨rfl, rfl⟩
    · have h1 : 1 ≤ s.size := by
        rcases Nat.eq_zero_or_pos s.size with h | h
        · have h0 : (bts s) = [] := List.length_eq_zero_iff.1 (by rw [bts_len]; omega)
          rw [h0] at hb; simp at hb
        · omega
      have h2 : (1 : Int) ≤ (s.size : Int) := by omega
      rw [if_pos rfl] at hD
      have HD := Lib.hid hD
      clear hb hD
      go_enter Tryz.func111, Tryz.ntmps111
      go_wp2_with (go_at_call 131; refine (HP _).mono ?_; rintro e w1 ⟨rfl, hw1⟩; subst hw1)
      go_ret2
      exact ⟨by rw [HD.out]; rfl, rfl⟩
  have HH := Lib.hid HI
  clear HP HI hb hD
  go_enter Tryz.func83, Tryz.ntmps83
  go_wp2_with (go_at_call 111; refine (HH.out _).mono ?_; rintro e w1 ⟨rfl, hw1⟩; subst hw1)
  go_ret2
  exact ⟨rfl, rfl⟩
theorem fineD_bad {D : ByteArray} {below : Bool} (h : fineD (bts D) below = false) : numD (bts D) below = (0, 1) := by
  unfold numD; rw [if_neg (by rw [h]; simp)]
theorem byte_at_ (D : ByteArray) (k : Nat) (h : k < D.size) : (bts D)[k]? = some D[k] := by
  rw [List.getElem?_eq_getElem (by rw [bts_len]; exact h)]; rfl
theorem head_at (D : ByteArray) (h : 0 < D.size) : (bts D).head? = some D[0] := by
  rw [List.head?_eq_getElem?]; exact byte_at_ D 0 h
/-- A byte that is no digit: no number. -/
theorem numD_not {l : List UInt8} {below : Bool} {k : Nat} {b : UInt8} (h : l[k]? = some b) (hb : isDig b = false) : numD l below = (0, 1) := by
  unfold numD
  rw [if_neg]
  rintro ⟨_, h2⟩
  have := List.all_eq_true.1 h2 b (List.mem_of_getElem? h)
  rw [hb] at this; cases this
set_option maxHeartbeats 1000000 in
theorem number_of (s D : ByteArray) (below : Bool) (w : World) (hcut : ∀ w, Calls Tryz.prog 83 #[.string s, .string ⟨#[45]⟩] w fun e w' => e = .returned (.tuple #[.string D, .bool below]) ∧ w' = w) (hl : D.size ≤ 1000) :
    Calls Tryz.prog 32 #[.string s] w fun e w' => e = .returned (.tuple #[.int .i64 (numD (bts D) below).1, .int .i64 (numD (bts D) below).2]) ∧ w' = w := by
  have HC := Lib.hid hcut
  clear hcut
  have hEq : (D.toList == ([] : List UInt8)) = decide (D.size = 0) := by
    rw [Lib.toList_data, show D.data.toList = bts D from rfl, ← bts_len D]
    cases bts D <;> simp
  by_cases h0 : D.size = 0
  · have hE : (D.toList == ([] : List UInt8)) = true := by rw [hEq]; simpa using h0
    have HB : Hid (numD (bts D) below = (0, 1)) := fineD_bad (by unfold fineD; rw [bts_len, decide_eq_false (by omega)]; simp)
    clear hEq h0
    go_enter Tryz.func32, Tryz.ntmps32
    go_wp2_with (go_at_call 83; refine (HC.out _).mono ?_; rintro e w1 ⟨rfl, hw1⟩; subst hw1)
    go_ret2
    exact ⟨by (rw [HB.out]) <;> rfl, rfl⟩
  have hE : (D.toList == ([] : List UInt8)) = false := by rw [hEq]; simpa using h0
  clear hEq
  by_cases h18 : 18 < D.size
  · have h18' : (18 : Int) < (D.size : Int) := by omega
    have HB : Hid (numD (bts D) below = (0, 1)) := fineD_bad (by unfold fineD; rw [bts_len, decide_eq_false (show ¬ D.size ≤ 18 by omega)]; simp)
    clear h0
    go_enter Tryz.func32, Tryz.ntmps32
    go_wp2_with (go_at_call 83; refine (HC.out _).mono ?_; rintro e w1 ⟨rfl, hw1⟩; subst hw1)
    go_ret2
    exact ⟨by (rw [HB.out]) <;> rfl, rfl⟩
  have h18' : (D.size : Int) ≤ 18 := by omega
  have hpos : 0 < D.size := by omega
  have hposi : (0 : Int) < (D.size : Int) := by omega
  have hfine : fineD (bts D) below = !((D[0].toNat == 48) && (decide (1 < D.size) || below)) := by
    unfold fineD
    rw [bts_len, decide_eq_true (show 1 ≤ D.size by omega), decide_eq_true (show D.size ≤ 18 by omega), head_at D hpos]
    have : ((some D[0] : Option UInt8) == some 48) = (D[0].toNat == 48) := by
      rw [Bool.eq_iff_iff]; simp [← UInt8.toNat_inj]
    rw [this]; simp
  by_cases hbad : fineD (bts D) below = false
  · have HB := Lib.hid (fineD_bad hbad)
    rw [hbad] at hfine
    have h48 : D[0].toNat = 48 ∧ (1 < D.size ∨ below = true) := by
      have : ((D[0].toNat == 48) && (decide (1 < D.size) || below)) = true := by
        cases h : ((D[0].toNat == 48) && (decide (1 < D.size) || below))
        · rw [h] at hfine; simp at hfine
        · rfl
      simpa using this
    obtain ⟨h48a, h48b⟩ := h48
    have h48c : ((D[0].toNat : Int) == 48) = true := by simp; omega
    rcases h48b with h1 | h1
    · have h1' : (1 : Int) < (D.size : Int) := by omega
      clear hfine h48a h1 hbad h0
      go_enter Tryz.func32, Tryz.ntmps32
      go_wp2_with (go_at_call 83; refine (HC.out _).mono ?_; rintro e w1 ⟨rfl, hw1⟩; subst hw1)
      go_ret2
      exact ⟨by (rw [HB.out]) <;> rfl, rfl⟩
    · subst h1
      clear hfine h48a hbad h0
      go_enter Tryz.func32, Tryz.ntmps32
      go_wp2_with (go_at_call 83; refine (HC.out _).mono ?_; rintro e w1 ⟨rfl, hw1⟩; subst hw1)
      all_goals
        go_ret2
        exact ⟨by (rw [HB.out]) <;> rfl, rfl⟩
  have hgood : fineD (bts D) below = true := by simpa using hbad
  have h48 : ((D[0].toNat : Int) == 48) = false ∨ (((D[0].toNat : Int) == 48) = true ∧ (D.size : Int) ≤ 1 ∧ below = false) := by
    rw [hgood] at hfine
    have : ((D[0].toNat == 48) && (decide (1 < D.size) || below)) = false := by
      cases h : ((D[0].toNat == 48) && (decide (1 < D.size) || below))
      · rfl
      · rw [h] at hfine; simp at hfine
    rw [Bool.and_eq_false_iff] at this
    rcases this with h | h
    · left; simp at h ⊢; omega
    · by_cases h4 : D[0].toNat = 48
      · right; simp at h; exact ⟨by simp; omega, by omega, h.2⟩
      · left; simp; omega
  have HG := Lib.hid hgood
  clear hfine hbad hgood h0
  rcases h48 with h48 | ⟨h48, h48a, rfl⟩
  all_goals
    go_enter Tryz.func32, Tryz.ntmps32
    go_wp2_with (go_at_call 83; refine (HC.out _).mono ?_; rintro e w1 ⟨rfl, hw1⟩; subst hw1)
    go_loop [6, 7, 35] (fun u6 u7 u35 => ∃ k : Nat, k ≤ D.size ∧ u35 = .int .i64 k ∧ u6 = .int .i64 (digL 0 ((bts D).take k)) ∧ ((bts D).take k).all isDig = true) (fun _ _ u35 => D.size - (intOf u35).toNat)
    case atStart => exact ⟨0, by omega, rfl, rfl, rfl⟩
    case round =>
      obtain ⟨k, hk, rfl, rfl, hA⟩ := hrel
      by_cases hlt : k < D.size
      · have hki : (k : Int) < (D.size : Int) := by omega
        obtain ⟨z, hz⟩ : ∃ z, z = digL 0 ((bts D).take k) := ⟨_, rfl⟩
        have hzb := digL_small ((bts D).take k) hA (by rw [List.length_take]; omega)
        rw [← hz] at hzb ⊢
        have HZ := Lib.hid hz
        have HA := Lib.hid hA
        have hB := byte_at_ D k hlt
        have hb256 : D[k].toNat < 256 := D[k].toNat_lt
        have HB := Lib.hid hB
        clear hz hA hB
        by_cases hd1 : D[k].toNat < 48
        · have hc1 : (D[k].toNat : Int) < 48 := by omega
          have HX : Hid (∀ bl, numD (bts D) bl = (0, 1)) := fun bl => numD_not HB.out (by unfold isDig; rw [decide_eq_false (by omega)]; rfl)
          clear hd1
          go_wp2
          go_ret2
          exact ⟨by (rw [HX.out]) <;> rfl, rfl⟩
        · have hc1 : (48 : Int) ≤ (D[k].toNat : Int) := by omega
          by_cases hd2 : 57 < D[k].toNat
          · have hc2 : (57 : Int) < (D[k].toNat : Int) := by omega
            have HX : Hid (∀ bl, numD (bts D) bl = (0, 1)) := fun bl => numD_not HB.out (by unfold isDig; rw [decide_eq_false (show ¬ D[k].toNat ≤ 57 by omega)]; simp)
            clear hd1 hd2
            go_wp2
            go_ret2
            exact ⟨by (rw [HX.out]) <;> rfl, rfl⟩
          · have hc2 : (D[k].toNat : Int) ≤ 57 := by omega
            have HDG : Hid (isDig D[k] = true) := by unfold Hid isDig; rw [decide_eq_true (show 48 ≤ D[k].toNat by omega), decide_eq_true (show D[k].toNat ≤ 57 by omega)]; rfl
            clear hd1 hd2
            go_wp2
            go_round
            case rel => exact ⟨k + 1, by omega, by go_num, by rw [digL_take HB.out, ← HZ.out], all_take HB.out HA.out HDG.out⟩
            case measure => simp [intOf]; omega
      · obtain rfl : k = D.size := by omega
        have hT : (bts D).take D.size = bts D := List.take_of_length_le (by rw [bts_len]; exact Nat.le_refl _)
        rw [hT] at hA ⊢
        obtain ⟨z, hz⟩ : ∃ z, z = digL 0 (bts D) := ⟨_, rfl⟩
        have hzb := digL_bd (bts D) hA 0 (by omega)
        have h10 : (10 : Int) ^ (bts D).length ≤ 10 ^ 18 := by have := Nat.pow_le_pow_right (n := 10) (by omega) (show (bts D).length ≤ 18 by rw [bts_len]; omega); exact_mod_cast this
        have hz0 : 0 ≤ z ∧ z ≤ 1000000000000000000 := by rw [hz]; omega
        have HX : Hid (∀ bl : Bool, fineD (bts D) bl = true → numD (bts D) bl = (if bl then -z else z, 0)) := fun bl hb => by unfold numD; rw [if_pos ⟨hb, hA⟩, hz]
        rw [← hz]
        clear hz hzb h10 hA hT hlt hk
        try cases below
        all_goals
          go_wp2
          go_ret2
          exact ⟨by (rw [HX.out _ HG.out]) <;> rfl, rfl⟩
end Go.Proofs.YtkbfcmkocgkdjaaGreatDoor
