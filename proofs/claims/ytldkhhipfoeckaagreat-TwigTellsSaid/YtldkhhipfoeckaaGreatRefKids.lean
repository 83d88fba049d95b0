/-
  What the document's SizeKids, LayKids and ReadKids give: the same as the program's own. Conditions: no more children than a million; no more than a million bytes.
-/
import Derived.Test.YtldkhhipfoeckaaGreatKidRead
import Derived.Test.YtldkhhipfoeckaaGreatRefGet
namespace Go.Proofs.YtldkhhipfoeckaaGreat
open Go Go.RowKit
attribute [local go_sem] cell_set_if

set_option maxRecDepth 100000 in
set_option maxHeartbeats 1000000 in
theorem rsizeK_any (A : Option Addr) (n c : Nat) (ks : List Kd) (w : World) (hr : Rd w A (flatK ks)) (hn : ks.length = n) (hs : sumK ks ≤ 1099511627776) :
    Calls Tryz.prog 31 #[.slice A n c] w fun e w' => e = .returned (.int .i64 (1 + sumK ks)) ∧ Below w.heap.size w w' := by
  have HR := Lib.hid hr
  have HN := Lib.hid hn
  have HS := Lib.hid hs
  have HT : Hid (ks.take n = ks) := List.take_of_length_le (by omega)
  have hnn : (n : Int) ≤ 1099511627776 := by have := sumK_len ks; omega
  clear hr hn hs
  go_enter Tryz.func31, Tryz.ntmps31
  go_wp2
  go_loopw [3, 4] (fun u3 u4 wr => ∃ k : Nat, k ≤ n ∧ u4 = .int .i64 k ∧ u3 = .int .i64 (1 + sumK (ks.take k)) ∧ Below w.heap.size w wr) (fun _ u4 _ => n - (intOf u4).toNat)
  case atStart => exact ⟨0, by omega, rfl, rfl, Below.refl _ _⟩
  case round =>
    obtain ⟨k, hk, rfl, rfl, hB⟩ := hrel
    by_cases hlt : k < n
    · obtain ⟨bb, o, x, rfl, hbb, hx, d0, d1⟩ := HR.out.kid (k := k) (by have := HN.out; omega)
      have c0 := cell_bb hB hbb d0
      have c1 := cell_bb hB hbb d1
      have hst := Lib.hid (sumK_take ks k x hx)
      have hl1 := sumK_le ks (k + 1)
      rw [hst.out] at hl1
      have hs := HS.out
      have hki : (k : Int) < (n : Int) := by omega
      have e0 : (sumK (ks.take k) : Int) + (4 + (x.key.size : Int)) ≤ 1099511627776 := by omega
      generalize hq : sumK (ks.take k) = q at *
      have e1 : (0 : Int) ≤ (q : Int) := by omega
      have e2 : (0 : Int) ≤ (x.key.size : Int) := by omega
      have s1 : IntKind.i64.wrap ((1 : Int) + (q : Int) + 4) = (1 : Int) + (q : Int) + 4 := IntWalk.i64_in _ (by omega)
      have s2 : IntKind.i64.wrap ((1 : Int) + (q : Int) + 4 + (x.key.size : Int)) = (1 : Int) + (q : Int) + 4 + (x.key.size : Int) := IntWalk.i64_in _ (by omega)
      have HQ := Lib.hid hq
      clear hq d0 d1 hx hl1 hs
      go_wp2
      first
        | (go_quiet (fail)
           go_wp2
           go_roundw
           case rel => exact ⟨k + 1, by omega, by go_num, by rw [hst.out]; congr 1; omega, below_drewN hB _⟩
           case measure => simp [intOf]; omega)
        | (go_roundw
           case rel => exact ⟨k + 1, by omega, by go_num, by rw [hst.out]; congr 1; omega, hB⟩
           case measure => simp [intOf]; omega)
    · obtain rfl : k = n := by omega
      go_wp2
      go_ret
      exact ⟨by rw [HT.out]; rfl, hB⟩

theorem getRaw_err {n : Int} {s : PS} (h : s.2 ≠ 0) : getRaw n s = ([], s) := by unfold getRaw; rw [if_neg h]
theorem getNum_err {n : Nat} {s : PS} (h : s.2 ≠ 0) : (getNum n s).2 = s := by unfold getNum; rw [getRaw_err h]
theorem getText_err {s : PS} (h : s.2 ≠ 0) : (getText s).2 = s := by
  unfold getText
  have h1 := getNum_err (n := 2) h
  generalize getNum 2 s = r at h1 ⊢
  obtain ⟨a, r⟩ := r
  simp only at h1
  subst h1
  show (getRaw a r).2 = r
  rw [getRaw_err h]
theorem getKs_err {s : PS} {k m : Nat} (h : (getKs s k).2.2 ≠ 0) (hkm : k ≤ m) : (getKs s m).2 = (getKs s k).2 := by
  induction m with
  | zero => obtain rfl : k = 0 := by omega
            rfl
  | succ m ih =>
    by_cases hc : k = m + 1
    · subst hc; rfl
    · have e := ih (by omega)
      show (getText (getNum 2 (getKs s m).2).2).2 = _
      rw [e, getNum_err h, getText_err h]
theorem endG_err (s : PS) : (endG s).2 = 0 → s.2 = 0 := by
  unfold endG
  split
  · intro h; cases h
  · exact id
/-- What is refused. -/
def argK (ks : List Kd) : Prop := ks = [] ∨ ¬ RightK ks
theorem not_arg {ks : List Kd} (h : ¬ argK ks) : RightK ks := Classical.byContradiction fun h2 => h (.inr h2)
theorem rrK_yes (A : Option Addr) (n c : Nat) (ks : List Kd) (w : World) (hr : Rd w A (flatK ks)) (hn : ks.length = n) (hm : n ≤ 1000000) (h : ¬ argK ks) :
    Calls Tryz.prog 94 #[.slice A n c] w fun e w' => e = .returned (.bool true) ∧ Below w.heap.size w w' :=
  (rkright_any A n c ks w hr hn hm).mono fun e w' ⟨⟨b, he, hb⟩, hB⟩ => ⟨by rw [he, hb.2 ⟨not_arg h, fun e => h (.inl e)⟩], hB⟩
theorem rrK_no (A : Option Addr) (n c : Nat) (ks : List Kd) (w : World) (hr : Rd w A (flatK ks)) (hn : ks.length = n) (hm : n ≤ 1000000) (h : argK ks) :
    Calls Tryz.prog 94 #[.slice A n c] w fun e w' => e = .returned (.bool false) ∧ Below w.heap.size w w' :=
  (rkright_any A n c ks w hr hn hm).mono fun e w' ⟨⟨b, he, hb⟩, hB⟩ => ⟨by
    cases b
    · exact he
    · obtain ⟨h1, h2⟩ := hb.1 rfl
      rcases h with h | h
      · exact absurd h h2
      · exact absurd h1 h, hB⟩
/-- A text's form. -/
theorem rtext_as (t : ByteArray) (w : World) (h : t.size ≤ 65535) : ∃ T : ByteArray, bts T = lowB t.size 2 ++ bts t ∧ T.size = 2 + t.size := ⟨bs (lowB t.size 2 ++ bts t), rfl, by rw [bs_size, List.length_append, lowB_len, bts_len]⟩
theorem rtext_is (t T : ByteArray) (w : World) (h : t.size ≤ 65535) (hT : bts T = lowB t.size 2 ++ bts t) :
    Calls Tryz.prog 46 #[.string t] w fun e w' => e = .returned (.tuple #[.string T, .bool true]) ∧ Below w.heap.size w w' :=
  (rtext_yes t w h).mono fun e w' ⟨⟨T', hT', he⟩, hB⟩ => ⟨by rw [he, bts_inj (hT.trans hT'.symm)], hB⟩
theorem low_str (v n : Nat) : ∃ T : ByteArray, lowB v n = bts T ∧ T.size = n := ⟨bs (lowB v n), rfl, by rw [bs_size, lowB_len]⟩

set_option maxRecDepth 100000 in
set_option maxHeartbeats 2000000 in
theorem rlayK_ok (A : Option Addr) (n c : Nat) (ks : List Kd) (w : World) (hr : Rd w A (flatK ks)) (hn : ks.length = n) (h0 : ¬ argK ks) (hs : 1 + sumK ks ≤ 232) (h255 : n ≤ 255) :
    Calls Tryz.prog 25 #[.slice A n c] w fun e w' => e = .returned (.tuple #[.string (bs (layL10 ks)), .int .i64 0]) ∧ Below w.heap.size w w' := by
  have hRK := not_arg h0
  have HRt := Lib.hid fun w hr => rrK_yes A n c ks w hr hn (by omega) h0
  have HSz := Lib.hid fun w hr => rsizeK_any A n c ks w hr hn (by omega)
  have HT : Hid (ks.take n = ks) := List.take_of_length_le (by omega)
  obtain ⟨T1, hT1, hT1s⟩ := low_str n 1
  have hL1 : ∀ w, Calls Tryz.prog 45 #[.int .u64 n, .int .i64 1] w fun e w' => e = .returned (.string T1) ∧ Below w.heap.size w w' := fun w => low_as (n := 1) (by omega) (by omega) hT1
  have HL1 := Lib.hid hL1
  have HT1 := Lib.hid hT1
  have HR := Lib.hid hr
  have HN := Lib.hid hn
  have HRK := Lib.hid hRK
  have HSS := Lib.hid hs
  have hz1 : (1 : Int) + (sumK ks : Int) ≤ 232 := by omega
  have hz2 : (n : Int) ≤ 255 := by omega
  have hLAY : layL10 ks = lowB n 1 ++ kidsB ks := by unfold layL10; rw [hn]
  have HLAY := Lib.hid hLAY
  have hbd : ∀ k, (kidsB (ks.take k)).length ≤ 231 := fun k => by rw [kidsB_len]; have := sumK_le ks k; omega
  have HBD := Lib.hid hbd
  have HT1s := Lib.hid hT1s
  clear hbd
  generalize sumK ks = z at *
  clear hr hn hL1 hT1 hT1s hRK h0 hs hLAY
  go_enter Tryz.func25, Tryz.ntmps25
  go_wp2_with (first
    | (go_at_call 94; refine (HRt.out _ HR.out).mono ?_; rintro e w1 ⟨rfl, b1⟩)
    | (go_at_call 31; refine (HSz.out _ (HR.out.below b1)).mono ?_; rintro e w2 ⟨rfl, b2⟩; have B2 := below_of b2 b1 b1.size)
    | (go_at_call 45; refine (HL1.out _).mono ?_; rintro e w3 ⟨rfl, b3⟩; have B3 := below_of b3 B2 B2.size))
  go_loopw [4, 5] (fun u4 u5 wr => ∃ (k : Nat) (S : ByteArray), k ≤ n ∧ u5 = .int .i64 k ∧ u4 = .string S ∧ bts S = lowB n 1 ++ kidsB (ks.take k) ∧ Below w.heap.size w wr) (fun _ u5 _ => n - (intOf u5).toNat)
  case atStart => exact ⟨0, T1, by omega, rfl, rfl, by rw [← HT1.out]; simp [kidsB], B3⟩
  case round =>
    obtain ⟨k, S, hk, rfl, rfl, hS, hB⟩ := hrel
    have HSt := Lib.hid hS
    have hSs : S.size ≤ 232 := by
      have h1 := HBD.out k
      have h2 := congrArg List.length hS
      rw [bts_len, List.length_append, lowB_len] at h2
      omega
    clear hS
    by_cases hlt : k < n
    · obtain ⟨bb, o, x, rfl, hbb, hx, d0, d1⟩ := HR.out.kid (k := k) (by have := HN.out; omega)
      have hok := HRK.out.ok k x hx
      have hkk : x.key.size ≤ 32 ∧ 2 ≤ x.page ∧ x.page < 4000 := by unfold okK at hok; simp at hok; omega
      have c0 := cell_bb hB hbb d0
      obtain ⟨pg, hpg⟩ := Int.eq_ofNat_of_zero_le (a := x.page) (by omega)
      have c1 := cell_bb hB hbb d1
      rw [hpg] at c1
      obtain ⟨T, hT, hTs⟩ := rtext_as x.key w (by omega)
      obtain ⟨L, hL, hLs⟩ := low_str pg 2
      have hTx := fun w => rtext_is x.key T w (by omega) hT
      have hLw : ∀ w, Calls Tryz.prog 45 #[.int .u64 pg, .int .i64 2] w fun e w' => e = .returned (.string L) ∧ Below w.heap.size w w' := fun w => low_as (n := 2) (by omega) (by omega) hL
      have hst : bts (S ++ L ++ T) = lowB n 1 ++ kidsB (ks.take (k + 1)) := by
        rw [bts_append, bts_append, HSt.out, kidsB_take ks k x hx, ← hL, hT, List.append_assoc, List.append_assoc]
        unfold kidB
        rw [hpg, Int.toNat_natCast]
      have g1 : ¬ (9223372036854775807 < S.size + L.size) := by omega
      have g2 : ¬ (9223372036854775807 < S.size + L.size + T.size) := by omega
      have hpgi : (pg : Int) < 4000 := by omega
      have hpg0 : (0 : Int) ≤ (pg : Int) := by omega
      have HST := Lib.hid hst
      have HTx := Lib.hid hTx
      have HLw := Lib.hid hLw
      have hki : (k : Int) < (n : Int) := by omega
      clear hst hTx hLw hT hTs hL hLs hpg hx hok hkk d0 d1 hSs
      go_wp2_with (first
        | (go_at_call 46; refine (HTx.out _).mono ?_; rintro e w4 ⟨rfl, b4⟩; have B4 := below_of b4 hB hB.size; have c04 := cell_b b4 c0; have c14 := cell_b b4 c1)
        | (go_at_call 45; refine (HLw.out _).mono ?_; rintro e w5 ⟨rfl, b5⟩; have B5 := below_of b5 B4 B4.size))
      go_roundw
      case rel => exact ⟨k + 1, S ++ L ++ T, by omega, by go_num, rfl, HST.out, B5⟩
      case measure => simp [intOf]; omega
    · obtain rfl : k = n := by omega
      have hfin : bs (layL10 ks) = S := by rw [HLAY.out, ← bs_bts S, HSt.out, HT.out]
      have HFIN := Lib.hid hfin
      clear hfin
      go_wp2
      go_ret2
      exact ⟨by rw [HFIN.out]; rfl, hB⟩
set_option maxRecDepth 100000 in
theorem rlayK_any (A : Option Addr) (n c : Nat) (ks : List Kd) (w : World) (hr : Rd w A (flatK ks)) (hn : ks.length = n) (hs : sumK ks ≤ 1099511627776) (hm : n ≤ 1000000) :
    Calls Tryz.prog 25 #[.slice A n c] w fun e w' => e = .returned (.tuple #[.string (layR ks).1, .int .i64 (layR ks).2]) ∧ Below w.heap.size w w' := by
  by_cases hR : argK ks
  · rw [layR_arg hR]
    have HRt := Lib.hid fun w hr => rrK_no A n c ks w hr hn hm hR
    have HR := Lib.hid hr
    clear hr hn hs hm hR
    go_enter Tryz.func25, Tryz.ntmps25
    go_wp2_with (go_at_call 94; refine (HRt.out _ HR.out).mono ?_; rintro e w1 ⟨rfl, b1⟩)
    go_ret2
    exact ⟨rfl, b1⟩
  · by_cases hl : 232 < 1 + sumK ks ∨ 255 < ks.length
    · rw [layR_long hR hl]
      have HRt := Lib.hid fun w hr => rrK_yes A n c ks w hr hn hm hR
      have HSz := Lib.hid fun w hr => rsizeK_any A n c ks w hr hn hs
      have HR := Lib.hid hr
      have hcs : (232 : Int) < 1 + (sumK ks : Int) ∨ ((1 : Int) + (sumK ks : Int) ≤ 232 ∧ (255 : Int) < (n : Int)) := by omega
      generalize sumK ks = z at *
      clear hr hn hs hm hR hl
      rcases hcs with h | ⟨h, h'⟩
      all_goals
        go_enter Tryz.func25, Tryz.ntmps25
        go_wp2_with (first
          | (go_at_call 94; refine (HRt.out _ HR.out).mono ?_; rintro e w1 ⟨rfl, b1⟩)
          | (go_at_call 31; refine (HSz.out _ (HR.out.below b1)).mono ?_; rintro e w2 ⟨rfl, b2⟩; have B2 := below_of b2 b1 b1.size))
        go_ret2
        exact ⟨rfl, B2⟩
    · rw [layR_ok hR hl]
      exact rlayK_ok A n c ks w hr hn hR (by omega) (by omega)
end Go.Proofs.YtldkhhipfoeckaaGreat
