/-
  What the helpers of the statements give over lists of texts: Room, Short, SameTexts, LentTexts, StaysTexts. Conditions: lengths below 2^47 where memory is made.
-/
import Derived.Test.YtcgjhdokkdpamaaRows
import Derived.Test.YtcgjhdokkdpamaaBase
namespace Go.Proofs.Ytcgjhdokkdpamaa
open Go Go.RowKit

/-- How much is left of n behind these. -/
def roomL : Int → List Int → Int
  | n, [] => n
  | n, z :: zs => if n < 0 ∨ n < z then -1 else roomL (n - z) zs
theorem roomL_le (n : Int) (zs : List Int) (hz : ∀ z ∈ zs, 0 ≤ z) (hn : -1 ≤ n) : -1 ≤ roomL n zs ∧ roomL n zs ≤ n := by
  induction zs generalizing n with
  | nil => simp [roomL]; omega
  | cons z zs ih =>
    simp only [roomL]
    have := hz z (by simp)
    split
    · omega
    · have := ih (n - z) (fun y hy => hz y (by simp [hy])) (by omega)
      omega

theorem drop_at {α : Type} (l : List α) (k : Nat) (x : α) (h : l[k]? = some x) : l.drop k = x :: l.drop (k + 1) := by
  obtain ⟨hk, rfl⟩ := List.getElem?_eq_some_iff.1 h
  exact List.drop_eq_getElem_cons hk

set_option maxHeartbeats 1000000 in
theorem room_any (n : Int) (A : Option Addr) (m c : Nat) (zs : List Int) (w : World) (hr : Rd w A (zs.map (Value.int .i64))) (hm : zs.length = m) (hmax : m ≤ 1000)
    (hn : -1000000000000 ≤ n ∧ n ≤ 1000000000000) (hz : ∀ z ∈ zs, 0 ≤ z ∧ z ≤ 9223372036854775807) :
    Calls Try.prog 18 #[.int .i64 n, .slice A m c] w fun e w' => e = .returned (.int .i64 (roomL n zs)) ∧ w' = w := by
  have HZ := Lib.hid hz
  have HR := Lib.hid hr
  clear hz hr
  go_enter Try.func18, Try.ntmps18
  go_wp2
  go_loop [0, 5] (fun u0 u5 => ∃ (k : Nat) (q : Int), k ≤ m ∧ u5 = .int .i64 k ∧ u0 = .int .i64 q ∧ Hid (roomL n zs = roomL q (zs.drop k)) ∧ -1000000000000 ≤ q ∧ q ≤ 1000000000000) (fun _ u5 => m - (intOf u5).toNat)
  case atStart => exact ⟨0, n, by omega, rfl, rfl, rfl, hn.1, hn.2⟩
  case round =>
    obtain ⟨k, q, hk, rfl, rfl, hq, hq1, hq2⟩ := hrel
    by_cases hlt : k < m
    · obtain ⟨z, hzk⟩ : ∃ z, zs[k]? = some z := ⟨zs[k]'(by omega), List.getElem?_eq_getElem _⟩
      obtain ⟨ad, rfl, hcell⟩ := HR.out.at_ (k := k) (x := .int .i64 z) (by simp [hzk])
      have hz0 := HZ.out z (List.mem_of_getElem? hzk)
      have HD := Lib.hid (drop_at zs k z hzk)
      clear hzk
      by_cases h1 : q < 0
      · have HF : Hid (roomL n zs = -1) := by unfold Hid; rw [hq.out, HD.out]; simp only [roomL]; rw [if_pos (.inl h1)]
        go_wp2
        go_ret
        exact ⟨by rw [HF.out]; rfl, rfl⟩
      · by_cases h2 : q < z
        · have HF : Hid (roomL n zs = -1) := by unfold Hid; rw [hq.out, HD.out]; simp only [roomL]; rw [if_pos (.inr h2)]
          go_wp2
          go_ret
          exact ⟨by rw [HF.out]; rfl, rfl⟩
        · have HF : Hid (roomL n zs = roomL (q - z) (zs.drop (k + 1))) := by unfold Hid; rw [hq.out, HD.out]; simp only [roomL]; rw [if_neg (by omega)]
          go_wp2
          go_round
          case rel => exact ⟨k + 1, q - z, by omega, by go_num, rfl, HF, by omega, by omega⟩
          case measure => simp [intOf]; omega
    · obtain rfl : k = m := by omega
      have HF : Hid (roomL n zs = q) := by unfold Hid; rw [hq.out, List.drop_eq_nil_of_le (by omega)]; rfl
      go_wp2
      go_ret
      exact ⟨by rw [HF.out]; rfl, rfl⟩

/-- Are there at most m texts, of at most n bytes in all? -/
def shortT (n : Int) : List ByteArray → Bool
  | [] => decide (0 ≤ n)
  | s :: ss => if 0 ≤ n then shortT (roomL n [(s.size : Int)]) ss else false

theorem shortT_sum (n : Int) (ss : List ByteArray) (h : shortT n ss = true) : (((ss.map (·.size)).sum : Nat) : Int) ≤ n ∧ 0 ≤ n := by
  induction ss generalizing n with
  | nil => simp [shortT] at h; simp; omega
  | cons s ss ih =>
    simp only [shortT] at h
    split at h
    · rename_i hn
      simp only [roomL] at h
      split at h
      · have := ih (-1) h; omega
      · have := ih _ h; simp at this ⊢; omega
    · cases h

set_option maxHeartbeats 1000000 in
theorem short_any (m n : Int) (A : Option Addr) (k c : Nat) (ss : List ByteArray) (w : World) (hr : Rd w A (ss.map .string)) (hk : ss.length = k) (hs : ∀ s ∈ ss, s.size ≤ maxLen)
    (hmm : 0 ≤ m ∧ m ≤ 1000000) (hn : 0 ≤ n ∧ n ≤ 1000000000000) :
    Calls Try.prog 10 #[.int .i64 m, .int .i64 n, .slice A k c] w fun e w' => e = .returned (.bool (decide ((ss.length : Int) ≤ m) && shortT n ss)) ∧ Below w.heap.size w w' := by
  obtain ⟨r, hrr⟩ : ∃ r, r = (decide ((ss.length : Int) ≤ m) && shortT n ss) := ⟨_, rfl⟩
  rw [← hrr]
  by_cases hkm : m < (k : Int)
  · have HF : Hid (r = false) := by unfold Hid; rw [hrr, hk]; simp; intro h; omega
    clear hrr
    go_enter Try.func10, Try.ntmps10
    go_wp2
    go_ret
    exact ⟨ret_bool HF.out.symm, Below.refl _ _⟩
  · have HF : Hid (r = shortT n ss) := by
      unfold Hid; rw [hrr, hk, show decide ((k : Int) ≤ m) = true by simp; omega]; simp
    have HR := Lib.hid hr
    have HS := Lib.hid hs
    clear hr hs hrr
    go_enter Try.func10, Try.ntmps10
    go_wp2
    go_loopw [1, 7] (fun u1 u7 wr => ∃ (j : Nat) (q : Int), j ≤ k ∧ u7 = .int .i64 j ∧ u1 = .int .i64 q ∧ Hid (shortT n ss = shortT q (ss.drop j)) ∧ -1 ≤ q ∧ q ≤ 1000000000000 ∧ Below w.heap.size w wr) (fun _ u7 _ => k - (intOf u7).toNat)
    case atStart => exact ⟨0, n, by omega, rfl, rfl, rfl, by omega, hn.2, Below.refl _ _⟩
    case round =>
      obtain ⟨j, q, hj, rfl, rfl, hq, hq1, hq2, hb⟩ := hrel
      by_cases hlt : j < k
      · obtain ⟨s, hsk⟩ : ∃ s, ss[j]? = some s := ⟨ss[j]'(by omega), List.getElem?_eq_getElem _⟩
        obtain ⟨ad, rfl, hcell⟩ := (HR.out.below hb).at_ (k := j) (x := .string s) (by simp [hsk])
        have hsz := HS.out s (List.mem_of_getElem? hsk)
        unfold maxLen at hsz
        have HD := Lib.hid (drop_at ss j s hsk)
        clear hsk
        by_cases h1 : q < 0
        · have HG : Hid (r = false) := by unfold Hid; rw [HF.out, hq.out, HD.out]; simp only [shortT]; rw [if_neg (by omega)]
          go_wp2
          go_ret
          exact ⟨ret_bool (by rw [HG.out]; simp; omega), hb⟩
        · have hb2 := hb.alloc hb.size (.cells #[.int .i64 (s.size : Int)] 3)
          have HG : Hid (shortT q (ss.drop j) = shortT (roomL q [(s.size : Int)]) (ss.drop (j + 1))) := by unfold Hid; rw [HD.out]; simp only [shortT]; rw [if_pos (by omega)]
          have hle := roomL_le q [(s.size : Int)] (by simp) (by omega)
          go_wp2_with (go_at_call 18; refine (room_any q _ 1 _ [(s.size : Int)] _ (Rd.one _ _ _) rfl (by omega) (by omega) (by intro z hz; simp at hz; omega)).mono ?_; rintro e w2 ⟨rfl, rfl⟩)
          go_roundw
          case rel => exact ⟨j + 1, _, by omega, by go_num, rfl, hq.out.trans HG.out, hle.1, by omega, hb2⟩
          case measure => simp [intOf]; omega
      · obtain rfl : j = k := by omega
        have HG : Hid (r = decide (0 ≤ q)) := by unfold Hid; rw [HF.out, hq.out, List.drop_eq_nil_of_le (by omega)]; rfl
        by_cases h1 : q < 0
        · go_wp2
          go_ret
          exact ⟨ret_bool HG.out.symm, hb⟩
        · have HE : Hid (r = true) := by unfold Hid; rw [HG.out]; simp; omega
          go_wp2
          go_ret
          exact ⟨ret_bool HE.out.symm, hb⟩

theorem take_succ_eq {α : Type} {l m : List α} {k : Nat} {x : α} (h : l.take k = m.take k) (hl : l[k]? = some x) (hm : m[k]? = some x) : l.take (k + 1) = m.take (k + 1) := by
  rw [List.take_add_one, List.take_add_one, h, hl, hm]

set_option maxHeartbeats 1000000 in
theorem sametexts_any (A B : Option Addr) (m n c d : Nat) (ss tt : List ByteArray) (w : World) (ha : Rd w A (ss.map .string)) (hb : Rd w B (tt.map .string)) (hm : ss.length = m) (hn : tt.length = n) (hmax : m ≤ maxLen) :
    Calls Try.prog 21 #[.slice A m c, .slice B n d] w fun e w' => e = .returned (.bool (decide (ss = tt))) ∧ Below w.heap.size w w' := by
  unfold maxLen at hmax
  obtain ⟨r, hrr⟩ : ∃ r, r = decide (ss = tt) := ⟨_, rfl⟩
  rw [← hrr]
  by_cases hmn : m = n
  · have HA := Lib.hid ha
    have HB := Lib.hid hb
    have HN := Lib.hid hn
    have HRR := Lib.hid hrr
    subst hmn
    clear ha hb hn hrr
    have h1 : ((m : Int) != (m : Int)) = false := by simp
    go_enter Try.func21, Try.ntmps21
    go_wp2
    go_loopw [5] (fun u5 wr => ∃ (k : Nat), k ≤ m ∧ u5 = .int .i64 k ∧ Hid (ss.take k = tt.take k) ∧ Below w.heap.size w wr) (fun u5 _ => m - (intOf u5).toNat)
    case atStart => exact ⟨0, by omega, rfl, rfl, Below.refl _ _⟩
    case round =>
      obtain ⟨k, hk, rfl, ht, hbl⟩ := hrel
      by_cases hlt : k < m
      · obtain ⟨s, hsk⟩ : ∃ s, ss[k]? = some s := ⟨ss[k]'(by omega), List.getElem?_eq_getElem _⟩
        obtain ⟨t, htk⟩ : ∃ t, tt[k]? = some t := ⟨tt[k]'(by have := HN.out; omega), List.getElem?_eq_getElem _⟩
        obtain ⟨ad, rfl, hc1⟩ := (HA.out.below hbl).at_ (k := k) (x := .string s) (by simp [hsk])
        obtain ⟨bd, rfl, hc2⟩ := (HB.out.below hbl).at_ (k := k) (x := .string t) (by simp [htk])
        have hki : (k : Int) < (m : Int) := by omega
        have HS := Lib.hid hsk
        have HT := Lib.hid htk
        clear hsk htk
        by_cases hst : s = t
        · subst hst
          have hq1 : (s.toList == s.toList) = true := by simp
          go_wp2
          go_quiet (fail)
          go_wp2
          go_roundw
          case rel => exact ⟨k + 1, by omega, by go_num, take_succ_eq ht.out HS.out HT.out, below_drewN hbl _⟩
          case measure => simp [intOf]; omega
        · have hq1 : (s.toList == t.toList) = false := by rw [str_beq, decide_eq_false_iff_not]; exact fun h => hst (bts_inj h)
          have HE : Hid (r = false) := by
            unfold Hid; rw [HRR.out, decide_eq_false_iff_not]; intro h
            have h2 := HS.out; rw [h, HT.out] at h2; exact hst (Option.some.inj h2).symm
          go_wp2
          go_quiet (fail)
          go_wp2
          go_ret
          exact ⟨ret_bool HE.out.symm, below_drewN hbl _⟩
      · obtain rfl : k = m := by omega
        have HE : Hid (r = true) := by
          unfold Hid; rw [HRR.out, decide_eq_true_iff]
          have := ht.out; rwa [List.take_of_length_le (by omega), List.take_of_length_le (by have := HN.out; omega)] at this
        go_wp2
        go_ret
        exact ⟨ret_bool HE.out.symm, hbl⟩
  · have h1 : ((m : Int) != (n : Int)) = true := by simp; omega
    have HE : Hid (r = false) := by
      unfold Hid; rw [hrr, decide_eq_false_iff_not]; intro h; rw [h] at hm; omega
    clear hrr ha hb hm hn
    go_enter Try.func21, Try.ntmps21
    go_wp2
    go_ret
    exact ⟨ret_bool HE.out.symm, Below.refl _ _⟩

/-- The word behind what was lent. -/
def markB : ByteArray := ⟨#[109, 97, 114, 107]⟩
theorem strinfo : (Try.prog.info? 9).map (fun i => (i.zero, i.size, i.bytes)) = some (some (.string ⟨#[]⟩), 1, 16) := by kernel_rfl
theorem one_strs (ss : List ByteArray) : ∀ u ∈ ss.map Value.string, u.oneCell' = true := by
  intro u hu; simp at hu; obtain ⟨b, _, rfl⟩ := hu; rfl

theorem own_form {w : World} {base : Nat} {e : TypeId} {size n : Nat} {v : Value} {xs : List Value} (h : w.ownsRow base e size v n xs) : ∃ A c, v = .slice A n c ∧ n ≤ c := by
  rcases h.2 with ⟨rfl, rfl⟩ | ⟨g, cap, cur, rfl, _, _, h, _⟩
  · exact ⟨_, _, rfl, Nat.le_refl _⟩
  · exact ⟨_, _, rfl, h⟩

theorem copytexts_any (A : Option Addr) (m c : Nat) (ss : List ByteArray) (w : World) (ha : Rd w A (ss.map .string)) (hm : ss.length = m) (hmax : m ≤ 1000000) :
    Calls Try.prog 19 #[.slice A m c] w fun e w' => ∃ v, e = .returned v ∧ w'.ownsRow w.heap.size 9 1 v m (ss.map .string) ∧ Below w.heap.size w w' := by
  obtain ⟨i0, hi0, hz0, hz1, hz2⟩ := info_parts strinfo
  have HR := Lib.hid ha
  have HM := Lib.hid hm
  clear ha hm
  go_enter Try.func19, Try.ntmps19
  go_wp2_with (first
    | (at_builtin
       refine wpList_app rfl (.const (.slice none 0 0)) (.tmp 3) _ rfl w.heap.size 9 i0 _ 1 16 Try.underlying27 hi0 hz0 hz1 hz2 rfl (by omega) (.slice none 0 0) 0 [] rfl (World.ownsRow_nil _ _ _ _) A m c (ss.map .string) rfl HR.out (by simp [HM.out]) (one_strs ss) (by unfold maxLen; omega) (by omega) (Nat.le_refl _) ?_
       intro v1 w1 hown1 hg1 hb1 hat1))
  go_ret
  exact ⟨v1, rfl, by simpa using hown1, hb1⟩

theorem lenttexts_any (A : Option Addr) (m c : Nat) (ss : List ByteArray) (w : World) (ha : Rd w A (ss.map .string)) (hm : ss.length = m) (hmax : m ≤ 1000000) :
    Calls Try.prog 11 #[.slice A m c] w fun e w' => ∃ B d, e = .returned (.slice B m d) ∧ m + 1 ≤ d ∧ Rd w' B ((ss ++ [markB]).map .string) ∧ Below w.heap.size w w' := by
  obtain ⟨i0, hi0, hz0, hz1, hz2⟩ := info_parts strinfo
  have HM := Lib.hid hm
  go_enter Try.func11, Try.ntmps11
  clear hm
  go_wp2_with (first
    | (go_at_call 19; refine (copytexts_any A m c ss _ ha HM.out hmax).mono ?_; rintro e w1 ⟨v, rfl, hown, hb1⟩)
    | (at_builtin
       refine wpList_app rfl (.tmp 4) (.tmp 5) _ rfl w.heap.size 9 i0 _ 1 16 Try.underlying27 hi0 hz0 hz1 hz2 rfl (by omega) v m _ rfl (hown.alloc _) _ 1 1 [.string markB] rfl (Rd.one _ _ _) rfl (one_str _) (by unfold maxLen; omega) (by omega) (by have := hb1.size; simp; omega) ?_
       intro v2 w2 hown2 hg2 hb2 hat2
       obtain ⟨B, d, rfl, hmd⟩ := own_form hown2
       have hmd' : (m : Int) ≤ (d : Int) := by omega))
  go_ret
  exact ⟨B, d, rfl, hmd, by have := Rd.of_own hown2; simpa using this, below_of hb2 (hb1.alloc hb1.size _) (by omega)⟩

set_option maxHeartbeats 1000000 in
theorem staystexts_any (A B : Option Addr) (m c d : Nat) (ss : List ByteArray) (w : World) (ha : Rd w A (ss.map .string)) (hm : ss.length = m) (hmax : m ≤ 1000000) (hd : m + 1 ≤ d)
    (hB : Rd w B ((ss ++ [markB]).map .string)) :
    Calls Try.prog 14 #[.slice B m d, .slice A m c] w fun e w' => e = .returned (.bool true) ∧ Below w.heap.size w w' := by
  have hb1 : Rd w B (ss.map .string) := by have := hB.take m; simpa [← hm] using this
  obtain ⟨ad, rfl, hcell⟩ := hB.at_ (k := m) (x := .string markB) (by simp [← hm])
  have hs := sametexts_any (some ad) A m m d c ss ss w hb1 ha hm hm (by unfold maxLen; omega)
  have HS := Lib.hid hs
  have hd' : (m : Int) + 1 ≤ (d : Int) := by omega
  have hmm : (markB.toList == ByteArray.toList ⟨#[109, 97, 114, 107]⟩) = true := by rw [str_beq]; decide
  have hbl := block_lt_of_cell hcell
  clear ha hB hb1 hs
  go_enter Try.func14, Try.ntmps14
  go_wp2_with (first
    | (go_at_call 21; refine HS.out.mono ?_; rintro e w1 ⟨rfl, hb1⟩; have hcell1 : w1.cell? (ad.add m) = some (.string markB) := (hb1.cell hbl).trans hcell))
  go_ret
  exact ⟨ret_bool (by rw [ByteArray.toList_eq]; decide), hb1⟩
end Go.Proofs.Ytcgjhdokkdpamaa
