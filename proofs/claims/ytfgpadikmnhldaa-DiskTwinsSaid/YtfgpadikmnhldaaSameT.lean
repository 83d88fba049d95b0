/-
  Are two texts' lists the same? Condition: lengths that memory holds.
-/
import Derived.Test.YtfgpadikmnhldaaRows
import Derived.Test.YtfgpadikmnhldaaOne
namespace Go.Proofs.Ytfgpadikmnhldaa
open Go Go.RowKit
theorem take_succ_eq {α : Type} {l m : List α} {k : Nat} {x : α} (h : l.take k = m.take k) (hl : l[k]? = some x) (hm : m[k]? = some x) : l.take (k + 1) = m.take (k + 1) := by
  rw [List.take_add_one, List.take_add_one, h, hl, hm]

set_option maxHeartbeats 1000000 in
theorem sametexts_any (A B : Option Addr) (m n c d : Nat) (ss tt : List ByteArray) (w : World) (ha : Rd w A (ss.map .string)) (hb : Rd w B (tt.map .string)) (hm : ss.length = m) (hn : tt.length = n) (hmax : m ≤ maxLen) :
    Calls Try.prog 12 #[.slice A m c, .slice B n d] w fun e w' => e = .returned (.bool (decide (ss = tt))) ∧ Below w.heap.size w w' := by
  unfold maxLen at hmax
  obtain ⟨r, hrr⟩ : ∃ r, r = decide (ss = tt) := ⟨_, rfl⟩
  rw [← hrr]
  by_cases hmn : m = n
  · have HA := Lib.hid ha
    have HB := Lib.hid hb
    have HN := Lib.hid hn
    have HRR := Lib.hid hrr
    subst hmn
    clear ha hb hn hrr
    have h1 : ((m : Int) != (m : Int)) = false := by simp
    go_enter Try.func12, Try.ntmps12
    go_wp2
    go_loopw [5] (fun u5 wr => ∃ (k : Nat), k ≤ m ∧ u5 = .int .i64 k ∧ Hid (ss.take k = tt.take k) ∧ Below w.heap.size w wr) (fun u5 _ => m - (intOf u5).toNat)
    case atStart => exact ⟨0, by omega, rfl, rfl, Below.refl _ _⟩
    case round =>
      obtain ⟨k, hk, rfl, ht, hbl⟩ := hrel
      by_cases hlt : k < m
      · obtain ⟨s, hsk⟩ : ∃ s, ss[k]? = some s := ⟨ss[k]'(by omega), List.getElem?_eq_getElem _⟩
        obtain ⟨t, htk⟩ : ∃ t, tt[k]? = some t := ⟨tt[k]'(by have := HN.out; omega), List.getElem?_eq_getElem _⟩
        obtain ⟨ad, rfl, hc1⟩ := (HA.out.below hbl).at_ (k := k) (x := .string s) (by simp [hsk])
        obtain ⟨bd, rfl, hc2⟩ := (HB.out.below hbl).at_ (k := k) (x := .string t) (by simp [htk])
        have hki : (k : Int) < (m : Int) := by omega
        have HS := Lib.hid hsk
        have HT := Lib.hid htk
        clear hsk htk
        by_cases hst : s = t
        · subst hst
          have hq1 : (s.toList == s.toList) = true := by simp
          go_wp2
          go_quiet (fail)
          go_wp2
          go_roundw
          case rel => exact ⟨k + 1, by omega, by go_num, take_succ_eq ht.out HS.out HT.out, below_drewN hbl _⟩
          case measure => simp [intOf]; omega
        · have hq1 : (s.toList == t.toList) = false := by rw [str_beq, decide_eq_false_iff_not]; exact fun h => hst (bts_inj h)
          have HE : Hid (r = false) := by
            unfold Hid; rw [HRR.out, decide_eq_false_iff_not]; intro h
            have h2 := HS.out; rw [h, HT.out] at h2; exact hst (Option.some.inj h2).symm
          go_wp2
          go_quiet (fail)
          go_wp2
          go_ret
          exact ⟨ret_bool HE.out.symm, below_drewN hbl _⟩
      · obtain rfl : k = m := by omega
        have HE : Hid (r = true) := by
          unfold Hid; rw [HRR.out, decide_eq_true_iff]
          have := ht.out; rwa [List.take_of_length_le (by omega), List.take_of_length_le (by have := HN.out; omega)] at this
        go_wp2
        go_ret
        exact ⟨ret_bool HE.out.symm, hbl⟩
  · have h1 : ((m : Int) != (n : Int)) = true := by simp; omega
    have HE : Hid (r = false) := by
      unfold Hid; rw [hrr, decide_eq_false_iff_not]; intro h; rw [h] at hm; omega
    clear hrr ha hb hm hn
    go_enter Try.func12, Try.ntmps12
    go_wp2
    go_ret
    exact ⟨ret_bool HE.out.symm, Below.refl _ _⟩
end Go.Proofs.Ytfgpadikmnhldaa
