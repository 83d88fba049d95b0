/-
  What the helpers of the statements give over lists of texts: Room, Short, SameTexts, LentTexts, StaysTexts. Conditions: lengths below 2^47 where memory is made.
-/
import Derived.Test.YtgigkekajdgngaaGreatRows
import Derived.Test.YtgigkekajdgngaaGreatMtOne
namespace Go.Proofs.YtgigkekajdgngaaGreat
open Go Go.RowKit

/-- How much is left of n behind these. -/
def roomL : Int → List Int → Int
  | n, [] => n
  | n, z :: zs => if n < 0 ∨ n < z then -1 else roomL (n - z) zs
theorem roomL_le (n : Int) (zs : List Int) (hz : ∀ z ∈ zs, 0 ≤ z) (hn : -1 ≤ n) : -1 ≤ roomL n zs ∧ roomL n zs ≤ n := by
  induction zs generalizing n with
  | nil => simp [roomL]; omega
  | cons z zs ih =>
    simp only [roomL]
    have := hz z (by simp)
    split
    · omega
    · have := ih (n - z) (fun y hy => hz y (by simp [hy])) (by omega)
      omega

theorem drop_at {α : Type} (l : List α) (k : Nat) (x : α) (h : l[k]? = some x) : l.drop k = x :: l.drop (k + 1) := by
  obtain ⟨hk, rfl⟩ := List.getElem?_eq_some_iff.1 h
  exact List.drop_eq_getElem_cons hk

set_option maxHeartbeats 1000000 in
theorem room_any (n : Int) (A : Option Addr) (m c : Nat) (zs : List Int) (w : World) (hr : Rd w A (zs.map (Value.int .i64))) (hm : zs.length = m) (hmax : m ≤ 1000)
    (hn : -1000000000000 ≤ n ∧ n ≤ 1000000000000) (hz : ∀ z ∈ zs, 0 ≤ z ∧ z ≤ 9223372036854775807) :
    Calls Tryz.prog 18 #[.int .i64 n, .slice A m c] w fun e w' => e = .returned (.int .i64 (roomL n zs)) ∧ w' = w := by
  have HZ := Lib.hid hz
  have HR := Lib.hid hr
  clear hz hr
  go_enter Tryz.func18, Tryz.ntmps18
  go_wp2
  go_loop [0, 5] (fun u0 u5 => ∃ (k : Nat) (q : Int), k ≤ m ∧ u5 = .int .i64 k ∧ u0 = .int .i64 q ∧ Hid (roomL n zs = roomL q (zs.drop k)) ∧ -1000000000000 ≤ q ∧ q ≤ 1000000000000) (fun _ u5 => m - (intOf u5).toNat)
  case atStart => exact ⟨0, n, by omega, rfl, rfl, rfl, hn.1, hn.2⟩
  case round =>
    obtain ⟨k, q, hk, rfl, rfl, hq, hq1, hq2⟩ := hrel
    by_cases hlt : k < m
    · obtain ⟨z, hzk⟩ : ∃ z, zs[k]? = some z := ⟨zs[k]'(by omega), List.getElem?_eq_getElem _⟩
      obtain ⟨ad, rfl, hcell⟩ := HR.out.at_ (k := k) (x := .int .i64 z) (by simp [hzk])
      have hz0 := HZ.out z (List.mem_of_getElem? hzk)
      have HD := Lib.hid (drop_at zs k z hzk)
      clear hzk
      by_cases h1 : q < 0
      · have HF : Hid (roomL n zs = -1) := by unfold Hid; rw [hq.out, HD.out]; simp only [roomL]; rw [if_pos (.inl h1)]
        go_wp2
        go_ret
        exact ⟨by rw [HF.out]; rfl, rfl⟩
      · by_cases h2 : q < z
        · have HF : Hid (roomL n zs = -1) := by unfold Hid; rw [hq.out, HD.out]; simp only [roomL]; rw [if_pos (.inr h2)]
          go_wp2
          go_ret
          exact ⟨by rw [HF.out]; rfl, rfl⟩
        · have HF : Hid (roomL n zs = roomL (q - z) (zs.drop (k + 1))) := by unfold Hid; rw [hq.out, HD.out]; simp only [roomL]; rw [if_neg (by omega)]
          go_wp2
          go_round
          case rel => exact ⟨k + 1, q - z, by omega, by go_num, rfl, HF, by omega, by omega⟩
          case measure => simp [intOf]; omega
    · obtain rfl : k = m := by omega
      have HF : Hid (roomL n zs = q) := by unfold Hid; rw [hq.out, List.drop_eq_nil_of_le (by omega)]; rfl
      go_wp2
      go_ret
      exact ⟨by rw [HF.out]; rfl, rfl⟩

/-- Are there at most m texts, of at most n bytes in all? -/
def shortT (n : Int) : List ByteArray → Bool
  | [] => decide (0 ≤ n)
  | s :: ss => if 0 ≤ n then shortT (roomL n [(s.size : Int)]) ss else false

theorem shortT_sum (n : Int) (ss : List ByteArray) (h : shortT n ss = true) : (((ss.map (·.size)).sum : Nat) : Int) ≤ n ∧ 0 ≤ n := by
  induction ss generalizing n with
  | nil => simp [shortT] at h; simp; omega
  | cons s ss ih =>
    simp only [shortT] at h
    split at h
    · rename_i hn
      simp only [roomL] at h
      split at h
      · have := ih (-1) h; omega
      · have := ih _ h; simp at this ⊢; omega
    · cases h

theorem take_succ_eq {α : Type} {l m : List α} {k : Nat} {x : α} (h : l.take k = m.take k) (hl : l[k]? = some x) (hm : m[k]? = some x) : l.take (k + 1) = m.take (k + 1) := by
  rw [List.take_add_one, List.take_add_one, h, hl, hm]

set_option maxHeartbeats 1000000 in
theorem sametexts_any (A B : Option Addr) (m n c d : Nat) (ss tt : List ByteArray) (w : World) (ha : Rd w A (ss.map .string)) (hb : Rd w B (tt.map .string)) (hm : ss.length = m) (hn : tt.length = n) (hmax : m ≤ maxLen) :
    Calls Tryz.prog 109 #[.slice A m c, .slice B n d] w fun e w' => e = .returned (.bool (decide (ss = tt))) ∧ Below w.heap.size w w' := by
  unfold maxLen at hmax
  obtain ⟨r, hrr⟩ : ∃ r, r = decide (ss = tt) := ⟨_, rfl⟩
  rw [← hrr]
  by_cases hmn : m = n
  · have HA := Lib.hid ha
    have HB := Lib.hid hb
    have HN := Lib.hid hn
    have HRR := Lib.hid hrr
    subst hmn
    clear ha hb hn hrr
    have h1 : ((m : Int) != (m : Int)) = false := by simp
    go_enter Tryz.func109, Tryz.ntmps109
    go_wp2
    go_loopw [5] (fun u5 wr => ∃ (k : Nat), k ≤ m ∧ u5 = .int .i64 k ∧ Hid (ss.take k = tt.take k) ∧ Below w.heap.size w wr) (fun u5 _ => m - (intOf u5).toNat)
    case atStart => exact ⟨0, by omega, rfl, rfl, Below.refl _ _⟩
    case round =>
      obtain ⟨k, hk, rfl, ht, hbl⟩ := hrel
      by_cases hlt : k < m
      · obtain ⟨s, hsk⟩ : ∃ s, ss[k]? = some s := ⟨ss[k]'(by omega), List.getElem?_eq_getElem _⟩
        obtain ⟨t, htk⟩ : ∃ t, tt[k]? = some t := ⟨tt[k]'(by have := HN.out; omega), List.getElem?_eq_getElem _⟩
        obtain ⟨ad, rfl, hc1⟩ := (HA.out.below hbl).at_ (k := k) (x := .string s) (by simp [hsk])
        obtain ⟨bd, rfl, hc2⟩ := (HB.out.below hbl).at_ (k := k) (x := .string t) (by simp [htk])
        have hki : (k : Int) < (m : Int) := by omega
        have HS := Lib.hid hsk
        have HT := Lib.hid htk
        clear hsk htk
        by_cases hst : s = t
        · subst hst
          have hq1 : (s.toList == s.toList) = true := by simp
          go_wp2
          go_quiet (fail)
          go_wp2
          go_roundw
          case rel => exact ⟨k + 1, by omega, by go_num, take_succ_eq ht.out HS.out HT.out, below_drewN hbl _⟩
          case measure => simp [intOf]; omega
        · have hq1 : (s.toList == t.toList) = false := by rw [str_beq, decide_eq_false_iff_not]; exact fun h => hst (bts_inj h)
          have HE : Hid (r = false) := by
            unfold Hid; rw [HRR.out, decide_eq_false_iff_not]; intro h
            have h2 := HS.out; rw [h, HT.out] at h2; exact hst (Option.some.inj h2).symm
          go_wp2
          go_quiet (fail)
          go_wp2
          go_ret
          exact ⟨ret_bool HE.out.symm, below_drewN hbl _⟩
      · obtain rfl : k = m := by omega
        have HE : Hid (r = true) := by
          unfold Hid; rw [HRR.out, decide_eq_true_iff]
          have := ht.out; rwa [List.take_of_length_le (by omega), List.take_of_length_le (by have := HN.out; omega)] at this
        go_wp2
        go_ret
        exact ⟨ret_bool HE.out.symm, hbl⟩
  · have h1 : ((m : Int) != (n : Int)) = true := by simp; omega
    have HE : Hid (r = false) := by
      unfold Hid; rw [hrr, decide_eq_false_iff_not]; intro h; rw [h] at hm; omega
    clear hrr ha hb hm hn
    go_enter Tryz.func109, Tryz.ntmps109
    go_wp2
    go_ret
    exact ⟨ret_bool HE.out.symm, Below.refl _ _⟩

/-- The word behind what was lent. -/
def markB : ByteArray := ⟨#[109, 97, 114, 107]⟩
theorem strinfo : (Tryz.prog.info? 9).map (fun i => (i.zero, i.size, i.bytes)) = some (some (.string ⟨#[]⟩), 1, 16) := by kernel_rfl
theorem one_strs (ss : List ByteArray) : ∀ u ∈ ss.map Value.string, u.oneCell' = true := by
  intro u hu; simp at hu; obtain ⟨b, _, rfl⟩ := hu; rfl

end Go.Proofs.YtgigkekajdgngaaGreat
