/-
  What the document's Number gives of a text. Condition: texts of no more than a thousand bytes.
-/
import Derived.Test.YtkenhcgdnbgnpaaDoorPackNumW
namespace Go.Proofs.YtkenhcgdnbgnpaaDoor
open Go Go.RowKit

theorem dash_cases (s D : ByteArray) (below : Bool) (hb : below = decide ((bts s).head? = some 45)) (hD : D = if below = true then s.extract 1 s.size else s) :
    (∃ h : 0 < s.size, ((s[0].toNat : Int) == 45) = true ∧ s.extract 1 s.size = D ∧ (D.size : Int) < (s.size : Int) ∧ below = true) ∨ (∃ h : 0 < s.size, ((s[0].toNat : Int) == 45) = false ∧ D = s ∧ below = false) ∨ (s.size = 0 ∧ D = s ∧ below = false) := by
  rcases Nat.eq_zero_or_pos s.size with h | h
  · have h0 : (bts s) = [] := List.length_eq_zero_iff.1 (by rw [bts_len]; omega)
    rw [h0] at hb
    have hb' : below = false := by rw [hb]; rfl
    subst hb'
    exact .inr (.inr ⟨h, by simpa using hD, rfl⟩)
  · rw [head_at s h] at hb
    by_cases h45 : s[0].toNat = 45
    · have : s[0] = 45 := UInt8.toNat_inj.1 h45
      have hb' : below = true := by rw [hb, this]; rfl
      rw [hb', if_pos rfl] at hD
      refine .inl ⟨h, by simp; omega, hD.symm, ?_, hb'⟩
      rw [hD, ByteArray.size_extract]; omega
    · have : ¬ s[0] = 45 := fun e => h45 (by rw [e]; rfl)
      have hb' : below = false := by rw [hb]; simp [this]
      rw [hb', if_neg (by simp)] at hD
      exact .inr (.inl ⟨h, by simp; omega, hD, hb'⟩)
theorem zero48 (s : ByteArray) : (s.toList == ([48] : List UInt8)) = decide (bts s = [48]) := by
  have h : (⟨#[48]⟩ : ByteArray).toList = [48] := by rw [Lib.toList_data]
  have h2 := str_beq s ⟨#[48]⟩
  rw [h] at h2
  exact h2
theorem zero_no (s : ByteArray) (h : 0 < s.size) (h2 : s[0].toNat ≠ 48 ∨ s.size ≠ 1) : (s.toList == ([48] : List UInt8)) = false := by
  rw [zero48, decide_eq_false_iff_not]
  intro e
  have h3 := bts_len s
  rw [e] at h3
  have h4 := head_at s h
  rw [e] at h4
  injection h4 with h4
  rcases h2 with h2 | h2
  · exact h2 (by rw [← h4]; rfl)
  · exact h2 h3.symm
theorem zero_yes (s : ByteArray) (h : 0 < s.size) (h1 : s[0].toNat = 48) (h2 : s.size = 1) : (s.toList == ([48] : List UInt8)) = true := by
  rw [zero48, decide_eq_true_iff]
  have h3 := bts_len s
  have h4 := byte_at_ s 0 h
  apply List.ext_getElem?
  intro i
  rcases i with _ | i
  · rw [h4]; exact congrArg some (UInt8.toNat_inj.1 h1)
  · rw [List.getElem?_eq_none (by omega), List.getElem?_eq_none (by simp)]
set_option maxHeartbeats 1000000 in
theorem rnum_dash (s D : ByteArray) (w : World) (hl : D.size ≤ 1000) (hp : 0 < s.size) (hdash : ((s[0].toNat : Int) == 45) = true) (hDD : s.extract 1 s.size = D) (hDs : (D.size : Int) < (s.size : Int)) :
    Calls Tryd.prog 6 #[.string s] w fun e w' => e = .returned (.tuple #[.int .i64 (numD (bts D) true).1, .int .i64 (numD (bts D) true).2]) ∧ w' = w := by
  have hpi : (0 : Int) < (s.size : Int) := by omega
  have hDl : (D.size : Int) ≤ 1000 := by omega
  by_cases h0 : D.size = 0
  · have HB : Hid (numD (bts D) true = (0, 1)) := fineD_bad (by unfold fineD; rw [bts_len, decide_eq_false (by omega)]; simp)
    have h0' : (D.size : Int) < 1 := by omega
    clear h0
    go_enter Tryd.func6, Tryd.ntmps6
    go_wp2
    go_ret2
    exact ⟨by (rw [HB.out]) <;> rfl, rfl⟩
  by_cases h18 : 18 < D.size
  · have h18' : (18 : Int) < (D.size : Int) := by omega
    have HB : Hid (numD (bts D) true = (0, 1)) := fineD_bad (by unfold fineD; rw [bts_len, decide_eq_false (show ¬ D.size ≤ 18 by omega)]; simp)
    clear h0
    go_enter Tryd.func6, Tryd.ntmps6
    go_wp2
    go_ret2
    exact ⟨by (rw [HB.out]) <;> rfl, rfl⟩
  have h18' : (D.size : Int) ≤ 18 := by omega
  have hpos : 0 < D.size := by omega
  have hposi : (1 : Int) ≤ (D.size : Int) := by omega
  have hfine : fineD (bts D) true = !((D[0].toNat == 48) && (decide (1 < D.size) || true)) := by
    unfold fineD
    rw [bts_len, decide_eq_true (show 1 ≤ D.size by omega), decide_eq_true (show D.size ≤ 18 by omega), head_at D hpos]
    have : ((some D[0] : Option UInt8) == some 48) = (D[0].toNat == 48) := by
      rw [Bool.eq_iff_iff]; simp [← UInt8.toNat_inj]
    rw [this]; simp
  by_cases hbad : fineD (bts D) true = false
  · have HB := Lib.hid (fineD_bad hbad)
    rw [hbad] at hfine
    have h48 : ((D[0].toNat == 48) && (decide (1 < D.size) || true)) = true := by
      cases h : ((D[0].toNat == 48) && (decide (1 < D.size) || true))
      · rw [h] at hfine; simp at hfine
      · rfl
    have h48a : D[0].toNat = 48 := by simp at h48; first | exact h48.1 | exact h48
    have h48c : ((D[0].toNat : Int) == 48) = true := by simp; omega
    have hz : (s.toList == ([48] : List UInt8)) = false := zero_no s hp (.inl (by simp at hdash; omega))
    clear hfine h48a hbad h0 h48
    go_enter Tryd.func6, Tryd.ntmps6
    go_wp2
    go_ret2
    exact ⟨by (rw [HB.out]) <;> rfl, rfl⟩
  have hgood : fineD (bts D) true = true := by simpa using hbad
  have h48 : ((D[0].toNat : Int) == 48) = false ∨ (((D[0].toNat : Int) == 48) = true ∧ (s.toList == ([48] : List UInt8)) = true) := by
    rw [hgood] at hfine
    have : ((D[0].toNat == 48) && (decide (1 < D.size) || true)) = false := by
      cases h : ((D[0].toNat == 48) && (decide (1 < D.size) || true))
      · rfl
      · rw [h] at hfine; simp at hfine
    by_cases h4 : D[0].toNat = 48
    · right
      rw [show (D[0].toNat == 48) = true by simpa using h4] at this; simp at this
    · left; simp; omega
  have HG := Lib.hid hgood
  clear hfine hbad hgood h0
  rcases h48 with h48 | ⟨h48, hz⟩
  all_goals
    go_enter Tryd.func6, Tryd.ntmps6
    go_wp2
    go_loop [5, 6] (fun u5 u6 => ∃ k : Nat, k ≤ D.size ∧ u6 = .int .i64 k ∧ u5 = .int .i64 (digL 0 ((bts D).take k)) ∧ ((bts D).take k).all isDig = true) (fun _ u6 => D.size - (intOf u6).toNat)
    case atStart => exact ⟨0, by omega, rfl, rfl, rfl⟩
    case round =>
      obtain ⟨k, hk, rfl, rfl, hA⟩ := hrel
      by_cases hlt : k < D.size
      · have hki : (k : Int) < (D.size : Int) := by omega
        obtain ⟨z, hz2⟩ : ∃ z, z = digL 0 ((bts D).take k) := ⟨_, rfl⟩
        have hzb := digL_small ((bts D).take k) hA (by rw [List.length_take]; omega)
        rw [← hz2] at hzb ⊢
        have HZ := Lib.hid hz2
        have HA := Lib.hid hA
        have hB := byte_at_ D k hlt
        have hb256 : D[k].toNat < 256 := D[k].toNat_lt
        have HB := Lib.hid hB
        clear hz2 hA hB
        by_cases hd1 : D[k].toNat < 48
        · have hc1 : (D[k].toNat : Int) < 48 := by omega
          have HX : Hid (numD (bts D) true = (0, 1)) := numD_not HB.out (by unfold isDig; rw [decide_eq_false (by omega)]; rfl)
          clear hd1
          go_wp2
          go_ret2
          exact ⟨by (rw [HX.out]) <;> rfl, rfl⟩
        · have hc1 : (48 : Int) ≤ (D[k].toNat : Int) := by omega
          by_cases hd2 : 57 < D[k].toNat
          · have hc2 : (57 : Int) < (D[k].toNat : Int) := by omega
            have HX : Hid (numD (bts D) true = (0, 1)) := numD_not HB.out (by unfold isDig; rw [decide_eq_false (show ¬ D[k].toNat ≤ 57 by omega)]; simp)
            clear hd1 hd2
            go_wp2
            go_ret2
            exact ⟨by (rw [HX.out]) <;> rfl, rfl⟩
          · have hc2 : (D[k].toNat : Int) ≤ 57 := by omega
            have HDG : Hid (isDig D[k] = true) := by unfold Hid isDig; rw [decide_eq_true (show 48 ≤ D[k].toNat by omega), decide_eq_true (show D[k].toNat ≤ 57 by omega)]; rfl
            clear hd1 hd2
            go_wp2
            go_round
            case rel => exact ⟨k + 1, by omega, by go_num, by rw [digL_take HB.out, ← HZ.out]; go_num, all_take HB.out HA.out HDG.out⟩
            case measure => simp [intOf]; omega
      · obtain rfl : k = D.size := by omega
        have hT : (bts D).take D.size = bts D := List.take_of_length_le (by rw [bts_len]; exact Nat.le_refl _)
        rw [hT] at hA ⊢
        obtain ⟨z, hz2⟩ : ∃ z, z = digL 0 (bts D) := ⟨_, rfl⟩
        have hzb := digL_bd (bts D) hA 0 (by omega)
        have h10 : (10 : Int) ^ (bts D).length ≤ 10 ^ 18 := by have := Nat.pow_le_pow_right (n := 10) (by omega) (show (bts D).length ≤ 18 by rw [bts_len]; omega); exact_mod_cast this
        have hz0 : 0 ≤ z ∧ z ≤ 1000000000000000000 := by rw [hz2]; omega
        have HX : Hid (numD (bts D) true = (if true then -z else z, 0)) := by unfold Hid numD; rw [if_pos ⟨HG.out, hA⟩, hz2]
        rw [← hz2]
        clear hz2 hzb h10 hA hT hlt hk
        go_wp2
        go_ret2
        exact ⟨by (rw [HX.out]) <;> rfl, rfl⟩
set_option maxHeartbeats 1000000 in
theorem rnum_plain (s : ByteArray) (w : World) (hl : s.size ≤ 1000) (hp : 0 < s.size) (hdash : ((s[0].toNat : Int) == 45) = false) :
    Calls Tryd.prog 6 #[.string s] w fun e w' => e = .returned (.tuple #[.int .i64 (numD (bts s) false).1, .int .i64 (numD (bts s) false).2]) ∧ w' = w := by
  have hpi : (0 : Int) < (s.size : Int) := by omega
  have hDl : (s.size : Int) ≤ 1000 := by omega
  by_cases h0 : s.size = 0
  · have HB : Hid (numD (bts s) false = (0, 1)) := fineD_bad (by unfold fineD; rw [bts_len, decide_eq_false (by omega)]; simp)
    have h0' : (s.size : Int) < 1 := by omega
    clear h0
    go_enter Tryd.func6, Tryd.ntmps6
    go_wp2
    go_ret2
    exact ⟨by (rw [HB.out]) <;> rfl, rfl⟩
  by_cases h18 : 18 < s.size
  · have h18' : (18 : Int) < (s.size : Int) := by omega
    have HB : Hid (numD (bts s) false = (0, 1)) := fineD_bad (by unfold fineD; rw [bts_len, decide_eq_false (show ¬ s.size ≤ 18 by omega)]; simp)
    clear h0
    go_enter Tryd.func6, Tryd.ntmps6
    go_wp2
    go_ret2
    exact ⟨by (rw [HB.out]) <;> rfl, rfl⟩
  have h18' : (s.size : Int) ≤ 18 := by omega
  have hpos : 0 < s.size := by omega
  have hposi : (1 : Int) ≤ (s.size : Int) := by omega
  have hfine : fineD (bts s) false = !((s[0].toNat == 48) && (decide (1 < s.size) || false)) := by
    unfold fineD
    rw [bts_len, decide_eq_true (show 1 ≤ s.size by omega), decide_eq_true (show s.size ≤ 18 by omega), head_at s hpos]
    have : ((some s[0] : Option UInt8) == some 48) = (s[0].toNat == 48) := by
      rw [Bool.eq_iff_iff]; simp [← UInt8.toNat_inj]
    rw [this]; simp
  by_cases hbad : fineD (bts s) false = false
  · have HB := Lib.hid (fineD_bad hbad)
    rw [hbad] at hfine
    have h48 : ((s[0].toNat == 48) && (decide (1 < s.size) || false)) = true := by
      cases h : ((s[0].toNat == 48) && (decide (1 < s.size) || false))
      · rw [h] at hfine; simp at hfine
      · rfl
    have h48a : s[0].toNat = 48 := by simp at h48; first | exact h48.1 | exact h48
    have h48c : ((s[0].toNat : Int) == 48) = true := by simp; omega
    have hz : (s.toList == ([48] : List UInt8)) = false := zero_no s hp (.inr (by simp at h48; omega))
    clear hfine h48a hbad h0 h48
    go_enter Tryd.func6, Tryd.ntmps6
    go_wp2
    go_ret2
    exact ⟨by (rw [HB.out]) <;> rfl, rfl⟩
  have hgood : fineD (bts s) false = true := by simpa using hbad
  have h48 : ((s[0].toNat : Int) == 48) = false ∨ (((s[0].toNat : Int) == 48) = true ∧ (s.toList == ([48] : List UInt8)) = true) := by
    rw [hgood] at hfine
    have : ((s[0].toNat == 48) && (decide (1 < s.size) || false)) = false := by
      cases h : ((s[0].toNat == 48) && (decide (1 < s.size) || false))
      · rfl
      · rw [h] at hfine; simp at hfine
    by_cases h4 : s[0].toNat = 48
    · right
      rw [show (s[0].toNat == 48) = true by simpa using h4] at this; simp at this
      exact ⟨by simp; omega, zero_yes s hp h4 (by omega)⟩
    · left; simp; omega
  have HG := Lib.hid hgood
  clear hfine hbad hgood h0
  rcases h48 with h48 | ⟨h48, hz⟩
  all_goals
    go_enter Tryd.func6, Tryd.ntmps6
    go_wp2
    go_loop [5, 6] (fun u5 u6 => ∃ k : Nat, k ≤ s.size ∧ u6 = .int .i64 k ∧ u5 = .int .i64 (digL 0 ((bts s).take k)) ∧ ((bts s).take k).all isDig = true) (fun _ u6 => s.size - (intOf u6).toNat)
    case atStart => exact ⟨0, by omega, rfl, rfl, rfl⟩
    case round =>
      obtain ⟨k, hk, rfl, rfl, hA⟩ := hrel
      by_cases hlt : k < s.size
      · have hki : (k : Int) < (s.size : Int) := by omega
        obtain ⟨z, hz2⟩ : ∃ z, z = digL 0 ((bts s).take k) := ⟨_, rfl⟩
        have hzb := digL_small ((bts s).take k) hA (by rw [List.length_take]; omega)
        rw [← hz2] at hzb ⊢
        have HZ := Lib.hid hz2
        have HA := Lib.hid hA
        have hB := byte_at_ s k hlt
        have hb256 : s[k].toNat < 256 := s[k].toNat_lt
        have HB := Lib.hid hB
        clear hz2 hA hB
        by_cases hd1 : s[k].toNat < 48
        · have hc1 : (s[k].toNat : Int) < 48 := by omega
          have HX : Hid (numD (bts s) false = (0, 1)) := numD_not HB.out (by unfold isDig; rw [decide_eq_false (by omega)]; rfl)
          clear hd1
          go_wp2
          go_ret2
          exact ⟨by (rw [HX.out]) <;> rfl, rfl⟩
        · have hc1 : (48 : Int) ≤ (s[k].toNat : Int) := by omega
          by_cases hd2 : 57 < s[k].toNat
          · have hc2 : (57 : Int) < (s[k].toNat : Int) := by omega
            have HX : Hid (numD (bts s) false = (0, 1)) := numD_not HB.out (by unfold isDig; rw [decide_eq_false (show ¬ s[k].toNat ≤ 57 by omega)]; simp)
            clear hd1 hd2
            go_wp2
            go_ret2
            exact ⟨by (rw [HX.out]) <;> rfl, rfl⟩
          · have hc2 : (s[k].toNat : Int) ≤ 57 := by omega
            have HDG : Hid (isDig s[k] = true) := by unfold Hid isDig; rw [decide_eq_true (show 48 ≤ s[k].toNat by omega), decide_eq_true (show s[k].toNat ≤ 57 by omega)]; rfl
            clear hd1 hd2
            go_wp2
            go_round
            case rel => exact ⟨k + 1, by omega, by go_num, by rw [digL_take HB.out, ← HZ.out]; go_num, all_take HB.out HA.out HDG.out⟩
            case measure => simp [intOf]; omega
      · obtain rfl : k = s.size := by omega
        have hT : (bts s).take s.size = bts s := List.take_of_length_le (by rw [bts_len]; exact Nat.le_refl _)
        rw [hT] at hA ⊢
        obtain ⟨z, hz2⟩ : ∃ z, z = digL 0 (bts s) := ⟨_, rfl⟩
        have hzb := digL_bd (bts s) hA 0 (by omega)
        have h10 : (10 : Int) ^ (bts s).length ≤ 10 ^ 18 := by have := Nat.pow_le_pow_right (n := 10) (by omega) (show (bts s).length ≤ 18 by rw [bts_len]; omega); exact_mod_cast this
        have hz0 : 0 ≤ z ∧ z ≤ 1000000000000000000 := by rw [hz2]; omega
        have HX : Hid (numD (bts s) false = (if false then -z else z, 0)) := by unfold Hid numD; rw [if_pos ⟨HG.out, hA⟩, hz2]
        rw [← hz2]
        clear hz2 hzb h10 hA hT hlt hk
        go_wp2
        go_ret2
        exact ⟨by (rw [HX.out]) <;> rfl, rfl⟩
theorem rnumber_of (s D : ByteArray) (below : Bool) (w : World) (hb : below = decide ((bts s).head? = some 45)) (hD : D = if below = true then s.extract 1 s.size else s) (hl : s.size ≤ 1000) :
    Calls Tryd.prog 6 #[.string s] w fun e w' => e = .returned (.tuple #[.int .i64 (numD (bts D) below).1, .int .i64 (numD (bts D) below).2]) ∧ w' = w := by
  rcases dash_cases s D below hb hD with ⟨hp, hdash, hDD, hDs, rfl⟩ | ⟨hp, hdash, rfl, rfl⟩ | ⟨h0, rfl, rfl⟩
  · exact rnum_dash s D w (by omega) hp hdash hDD hDs
  · exact rnum_plain _ w hl hp hdash
  · have HB : Hid (numD (bts D) false = (0, 1)) := fineD_bad (by unfold fineD; rw [bts_len, decide_eq_false (by omega)]; simp)
    have h0' : (D.size : Int) < 1 := by omega
    have h0'' : (D.size : Int) ≤ 0 := by omega
    clear hb hD h0
    go_enter Tryd.func6, Tryd.ntmps6
    go_wp2
    go_ret2
    exact ⟨by (rw [HB.out]) <;> rfl, rfl⟩
end Go.Proofs.YtkenhcgdnbgnpaaDoor
