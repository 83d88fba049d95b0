/-
  What Short gives over lists of texts (as in BookTexts, with names of its own). Condition: the room is no more than 10^12.
-/
import Derived.Test.YtldkhhipfoeckaaRows
import Derived.Test.YtldkhhipfoeckaaBase
namespace Go.Proofs.Ytldkhhipfoeckaa.Txt
open Go Go.RowKit

/-- How much is left of n behind these. -/
def roomL : Int → List Int → Int
  | n, [] => n
  | n, z :: zs => if n < 0 ∨ n < z then -1 else roomL (n - z) zs
theorem roomL_le (n : Int) (zs : List Int) (hz : ∀ z ∈ zs, 0 ≤ z) (hn : -1 ≤ n) : -1 ≤ roomL n zs ∧ roomL n zs ≤ n := by
  induction zs generalizing n with
  | nil => simp [roomL]; omega
  | cons z zs ih =>
    simp only [roomL]
    have := hz z (by simp)
    split
    · omega
    · have := ih (n - z) (fun y hy => hz y (by simp [hy])) (by omega)
      omega

theorem drop_at {α : Type} (l : List α) (k : Nat) (x : α) (h : l[k]? = some x) : l.drop k = x :: l.drop (k + 1) := by
  obtain ⟨hk, rfl⟩ := List.getElem?_eq_some_iff.1 h
  exact List.drop_eq_getElem_cons hk

set_option maxHeartbeats 1000000 in
theorem room_any (n : Int) (A : Option Addr) (m c : Nat) (zs : List Int) (w : World) (hr : Rd w A (zs.map (Value.int .i64))) (hm : zs.length = m) (hmax : m ≤ 1000)
    (hn : -1000000000000 ≤ n ∧ n ≤ 1000000000000) (hz : ∀ z ∈ zs, 0 ≤ z ∧ z ≤ 9223372036854775807) :
    Calls Try.prog 116 #[.int .i64 n, .slice A m c] w fun e w' => e = .returned (.int .i64 (roomL n zs)) ∧ w' = w := by
  have HZ := Lib.hid hz
  have HR := Lib.hid hr
  clear hz hr
  go_enter Try.func116, Try.ntmps116
  go_wp2
  go_loop [0, 5] (fun u0 u5 => ∃ (k : Nat) (q : Int), k ≤ m ∧ u5 = .int .i64 k ∧ u0 = .int .i64 q ∧ Hid (roomL n zs = roomL q (zs.drop k)) ∧ -1000000000000 ≤ q ∧ q ≤ 1000000000000) (fun _ u5 => m - (intOf u5).toNat)
  case atStart => exact ⟨0, n, by omega, rfl, rfl, rfl, hn.1, hn.2⟩
  case round =>
    obtain ⟨k, q, hk, rfl, rfl, hq, hq1, hq2⟩ := hrel
    by_cases hlt : k < m
    · obtain ⟨z, hzk⟩ : ∃ z, zs[k]? = some z := ⟨zs[k]'(by omega), List.getElem?_eq_getElem _⟩
      obtain ⟨ad, rfl, hcell⟩ := HR.out.at_ (k := k) (x := .int .i64 z) (by simp [hzk])
      have hz0 := HZ.out z (List.mem_of_getElem? hzk)
      have HD := Lib.hid (drop_at zs k z hzk)
      clear hzk
      by_cases h1 : q < 0
      · have HF : Hid (roomL n zs = -1) := by unfold Hid; rw [hq.out, HD.out]; simp only [roomL]; rw [if_pos (.inl h1)]
        go_wp2
        go_ret
        exact ⟨by rw [HF.out]; rfl, rfl⟩
      · by_cases h2 : q < z
        · have HF : Hid (roomL n zs = -1) := by unfold Hid; rw [hq.out, HD.out]; simp only [roomL]; rw [if_pos (.inr h2)]
          go_wp2
          go_ret
          exact ⟨by rw [HF.out]; rfl, rfl⟩
        · have HF : Hid (roomL n zs = roomL (q - z) (zs.drop (k + 1))) := by unfold Hid; rw [hq.out, HD.out]; simp only [roomL]; rw [if_neg (by omega)]
          go_wp2
          go_round
          case rel => exact ⟨k + 1, q - z, by omega, by go_num, rfl, HF, by omega, by omega⟩
          case measure => simp [intOf]; omega
    · obtain rfl : k = m := by omega
      have HF : Hid (roomL n zs = q) := by unfold Hid; rw [hq.out, List.drop_eq_nil_of_le (by omega)]; rfl
      go_wp2
      go_ret
      exact ⟨by rw [HF.out]; rfl, rfl⟩

/-- Are there at most m texts, of at most n bytes in all? -/
def shortT (n : Int) : List ByteArray → Bool
  | [] => decide (0 ≤ n)
  | s :: ss => if 0 ≤ n then shortT (roomL n [(s.size : Int)]) ss else false

theorem shortT_sum (n : Int) (ss : List ByteArray) (h : shortT n ss = true) : (((ss.map (·.size)).sum : Nat) : Int) ≤ n ∧ 0 ≤ n := by
  induction ss generalizing n with
  | nil => simp [shortT] at h; simp; omega
  | cons s ss ih =>
    simp only [shortT] at h
    split at h
    · rename_i hn
      simp only [roomL] at h
      split at h
      · have := ih (-1) h; omega
      · have := ih _ h; simp at this ⊢; omega
    · cases h

set_option maxHeartbeats 1000000 in
theorem short_any (m n : Int) (A : Option Addr) (k c : Nat) (ss : List ByteArray) (w : World) (hr : Rd w A (ss.map .string)) (hk : ss.length = k) (hs : ∀ s ∈ ss, s.size ≤ maxLen)
    (hmm : 0 ≤ m ∧ m ≤ 1000000) (hn : 0 ≤ n ∧ n ≤ 1000000000000) :
    Calls Try.prog 65 #[.int .i64 m, .int .i64 n, .slice A k c] w fun e w' => e = .returned (.bool (decide ((ss.length : Int) ≤ m) && shortT n ss)) ∧ Below w.heap.size w w' := by
  obtain ⟨r, hrr⟩ : ∃ r, r = (decide ((ss.length : Int) ≤ m) && shortT n ss) := ⟨_, rfl⟩
  rw [← hrr]
  by_cases hkm : m < (k : Int)
  · have HF : Hid (r = false) := by unfold Hid; rw [hrr, hk]; simp; intro h; omega
    clear hrr
    go_enter Try.func65, Try.ntmps65
    go_wp2
    go_ret
    exact ⟨ret_bool HF.out.symm, Below.refl _ _⟩
  · have HF : Hid (r = shortT n ss) := by
      unfold Hid; rw [hrr, hk, show decide ((k : Int) ≤ m) = true by simp; omega]; simp
    have HR := Lib.hid hr
    have HS := Lib.hid hs
    clear hr hs hrr
    go_enter Try.func65, Try.ntmps65
    go_wp2
    go_loopw [1, 7] (fun u1 u7 wr => ∃ (j : Nat) (q : Int), j ≤ k ∧ u7 = .int .i64 j ∧ u1 = .int .i64 q ∧ Hid (shortT n ss = shortT q (ss.drop j)) ∧ -1 ≤ q ∧ q ≤ 1000000000000 ∧ Below w.heap.size w wr) (fun _ u7 _ => k - (intOf u7).toNat)
    case atStart => exact ⟨0, n, by omega, rfl, rfl, rfl, by omega, hn.2, Below.refl _ _⟩
    case round =>
      obtain ⟨j, q, hj, rfl, rfl, hq, hq1, hq2, hb⟩ := hrel
      by_cases hlt : j < k
      · obtain ⟨s, hsk⟩ : ∃ s, ss[j]? = some s := ⟨ss[j]'(by omega), List.getElem?_eq_getElem _⟩
        obtain ⟨ad, rfl, hcell⟩ := (HR.out.below hb).at_ (k := j) (x := .string s) (by simp [hsk])
        have hsz := HS.out s (List.mem_of_getElem? hsk)
        unfold maxLen at hsz
        have HD := Lib.hid (drop_at ss j s hsk)
        clear hsk
        by_cases h1 : q < 0
        · have HG : Hid (r = false) := by unfold Hid; rw [HF.out, hq.out, HD.out]; simp only [shortT]; rw [if_neg (by omega)]
          go_wp2
          go_ret
          exact ⟨ret_bool (by rw [HG.out]; simp; omega), hb⟩
        · have hb2 := hb.alloc hb.size (.cells #[.int .i64 (s.size : Int)] 3)
          have HG : Hid (shortT q (ss.drop j) = shortT (roomL q [(s.size : Int)]) (ss.drop (j + 1))) := by unfold Hid; rw [HD.out]; simp only [shortT]; rw [if_pos (by omega)]
          have hle := roomL_le q [(s.size : Int)] (by simp) (by omega)
          go_wp2_with (go_at_call 116; refine (room_any q _ 1 _ [(s.size : Int)] _ (Rd.one _ _ _) rfl (by omega) (by omega) (by intro z hz; simp at hz; omega)).mono ?_; rintro e w2 ⟨rfl, rfl⟩)
          go_roundw
          case rel => exact ⟨j + 1, _, by omega, by go_num, rfl, hq.out.trans HG.out, hle.1, by omega, hb2⟩
          case measure => simp [intOf]; omega
      · obtain rfl : j = k := by omega
        have HG : Hid (r = decide (0 ≤ q)) := by unfold Hid; rw [HF.out, hq.out, List.drop_eq_nil_of_le (by omega)]; rfl
        by_cases h1 : q < 0
        · go_wp2
          go_ret
          exact ⟨ret_bool HG.out.symm, hb⟩
        · have HE : Hid (r = true) := by unfold Hid; rw [HG.out]; simp; omega
          go_wp2
          go_ret
          exact ⟨ret_bool HE.out.symm, hb⟩

end Go.Proofs.Ytldkhhipfoeckaa.Txt
