/-
  What the document's SizeItems, LayItems and ReadItems give: the same as the program's own. Conditions: no more items than a million; no more than a million bytes.
-/
import Derived.Test.YtldkhhipfoeckaaGreatItemRead
import Derived.Test.YtldkhhipfoeckaaGreatRefGet
namespace Go.Proofs.YtldkhhipfoeckaaGreat
open Go Go.RowKit
attribute [local go_sem] cell_set_if

set_option maxRecDepth 100000 in
set_option maxHeartbeats 1000000 in
theorem rsizeI_any (A : Option Addr) (n c : Nat) (ks : List Im) (w : World) (hr : Rd w A (flatI ks)) (hn : ks.length = n) (hs : sumI ks ≤ 1099511627776) :
    Calls Tryz.prog 16 #[.slice A n c] w fun e w' => e = .returned (.int .i64 (1 + sumI ks)) ∧ Below w.heap.size w w' := by
  have HR := Lib.hid hr
  have HN := Lib.hid hn
  have HS := Lib.hid hs
  have HT : Hid (ks.take n = ks) := List.take_of_length_le (by omega)
  have hnn : (n : Int) ≤ 1099511627776 := by have := sumI_len ks; omega
  clear hr hn hs
  go_enter Tryz.func16, Tryz.ntmps16
  go_wp2
  go_loopw [3, 4] (fun u3 u4 wr => ∃ k : Nat, k ≤ n ∧ u4 = .int .i64 k ∧ u3 = .int .i64 (1 + sumI (ks.take k)) ∧ Below w.heap.size w wr) (fun _ u4 _ => n - (intOf u4).toNat)
  case atStart => exact ⟨0, by omega, rfl, rfl, Below.refl _ _⟩
  case round =>
    obtain ⟨k, hk, rfl, rfl, hB⟩ := hrel
    by_cases hlt : k < n
    · obtain ⟨bb, o, x, rfl, hbb, hx, d0, d1, d2⟩ := HR.out.item (k := k) (by have := HN.out; omega)
      have c0 := cell_bb hB hbb d0
      have c1 := cell_bb hB hbb d1
      have hst := Lib.hid (sumI_take ks k x hx)
      have hl1 := sumI_le ks (k + 1)
      rw [hst.out] at hl1
      have hs := HS.out
      have hki : (k : Int) < (n : Int) := by omega
      have e0 : (sumI (ks.take k) : Int) + (5 + (x.key.size : Int) + (x.val.size : Int)) ≤ 1099511627776 := by omega
      generalize hq : sumI (ks.take k) = q at *
      have e1 : (0 : Int) ≤ (q : Int) := by omega
      have e2 : (0 : Int) ≤ (x.key.size : Int) := by omega
      have e3 : (0 : Int) ≤ (x.val.size : Int) := by omega
      have s1 : IntKind.i64.wrap ((1 : Int) + (q : Int) + 5) = (1 : Int) + (q : Int) + 5 := IntWalk.i64_in _ (by omega)
      have s2 : IntKind.i64.wrap ((1 : Int) + (q : Int) + 5 + (x.key.size : Int)) = (1 : Int) + (q : Int) + 5 + (x.key.size : Int) := IntWalk.i64_in _ (by omega)
      have s3 : IntKind.i64.wrap ((1 : Int) + (q : Int) + 5 + (x.key.size : Int) + (x.val.size : Int)) = (1 : Int) + (q : Int) + 5 + (x.key.size : Int) + (x.val.size : Int) := IntWalk.i64_in _ (by omega)
      have HQ := Lib.hid hq
      clear hq d0 d1 hx hl1 hs
      go_wp2
      first
        | (go_quiet (fail)
           go_wp2
           go_roundw
           case rel => exact ⟨k + 1, by omega, by go_num, by rw [hst.out]; congr 1; omega, below_drewN hB _⟩
           case measure => simp [intOf]; omega)
        | (go_roundw
           case rel => exact ⟨k + 1, by omega, by go_num, by rw [hst.out]; congr 1; omega, hB⟩
           case measure => simp [intOf]; omega)
    · obtain rfl : k = n := by omega
      go_wp2
      go_ret
      exact ⟨by rw [HT.out]; rfl, hB⟩

theorem getRaw_err {n : Int} {s : PS} (h : s.2 ≠ 0) : getRaw n s = ([], s) := by unfold getRaw; rw [if_neg h]
theorem getNum_err {n : Nat} {s : PS} (h : s.2 ≠ 0) : (getNum n s).2 = s := by unfold getNum; rw [getRaw_err h]
theorem getText_err {s : PS} (h : s.2 ≠ 0) : (getText s).2 = s := by
  unfold getText
  have h1 := getNum_err (n := 2) h
  generalize getNum 2 s = r at h1 ⊢
  obtain ⟨a, r⟩ := r
  simp only at h1
  subst h1
  show (getRaw a r).2 = r
  rw [getRaw_err h]
theorem getIs_err {s : PS} {k m : Nat} (h : (getIs s k).2.2 ≠ 0) (hkm : k ≤ m) : (getIs s m).2 = (getIs s k).2 := by
  induction m with
  | zero => obtain rfl : k = 0 := by omega
            rfl
  | succ m ih =>
    by_cases hc : k = m + 1
    · subst hc; rfl
    · have e := ih (by omega)
      show (getText (getText (getNum 1 (getIs s m).2).2).2).2 = _
      rw [e, getNum_err h, getText_err h, getText_err h]
theorem endG_err (s : PS) : (endG s).2 = 0 → s.2 = 0 := by
  unfold endG
  split
  · intro h; cases h
  · exact id
/-- What is refused. -/
def argI (ks : List Im) : Prop := ¬ RightI ks
theorem not_arg {ks : List Im} (h : ¬ argI ks) : RightI ks := Classical.byContradiction fun h2 => h h2
theorem rrI_yes (A : Option Addr) (n c : Nat) (ks : List Im) (w : World) (hr : Rd w A (flatI ks)) (hn : ks.length = n) (hm : n ≤ 1000000) (h : ¬ argI ks) :
    Calls Tryz.prog 35 #[.slice A n c] w fun e w' => e = .returned (.bool true) ∧ Below w.heap.size w w' :=
  (riright_any A n c ks w hr hn hm).mono fun e w' ⟨⟨b, he, hb⟩, hB⟩ => ⟨by rw [he, hb.2 (not_arg h)], hB⟩
theorem rrI_no (A : Option Addr) (n c : Nat) (ks : List Im) (w : World) (hr : Rd w A (flatI ks)) (hn : ks.length = n) (hm : n ≤ 1000000) (h : argI ks) :
    Calls Tryz.prog 35 #[.slice A n c] w fun e w' => e = .returned (.bool false) ∧ Below w.heap.size w w' :=
  (riright_any A n c ks w hr hn hm).mono fun e w' ⟨⟨b, he, hb⟩, hB⟩ => ⟨by
    cases b
    · exact he
    · exact absurd (hb.1 rfl) h, hB⟩
/-- A text's form. -/
theorem rtext_as (t : ByteArray) (w : World) (h : t.size ≤ 65535) : ∃ T : ByteArray, bts T = lowB t.size 2 ++ bts t ∧ T.size = 2 + t.size := ⟨bs (lowB t.size 2 ++ bts t), rfl, by rw [bs_size, List.length_append, lowB_len, bts_len]⟩
theorem rtext_is (t T : ByteArray) (w : World) (h : t.size ≤ 65535) (hT : bts T = lowB t.size 2 ++ bts t) :
    Calls Tryz.prog 46 #[.string t] w fun e w' => e = .returned (.tuple #[.string T, .bool true]) ∧ Below w.heap.size w w' :=
  (rtext_yes t w h).mono fun e w' ⟨⟨T', hT', he⟩, hB⟩ => ⟨by rw [he, bts_inj (hT.trans hT'.symm)], hB⟩
theorem low_str (v n : Nat) : ∃ T : ByteArray, lowB v n = bts T ∧ T.size = n := ⟨bs (lowB v n), rfl, by rw [bs_size, lowB_len]⟩

set_option maxRecDepth 100000 in
set_option maxHeartbeats 2000000 in
theorem rlayI_ok (A : Option Addr) (n c : Nat) (ks : List Im) (w : World) (hr : Rd w A (flatI ks)) (hn : ks.length = n) (h0 : ¬ argI ks) (hs : 1 + sumI ks ≤ 232) (h255 : n ≤ 255) :
    Calls Tryz.prog 10 #[.slice A n c] w fun e w' => e = .returned (.tuple #[.string (bs (layL9 ks)), .int .i64 0]) ∧ Below w.heap.size w w' := by
  have hRK := not_arg h0
  have HRt := Lib.hid fun w hr => rrI_yes A n c ks w hr hn (by omega) h0
  have HSz := Lib.hid fun w hr => rsizeI_any A n c ks w hr hn (by omega)
  have HT : Hid (ks.take n = ks) := List.take_of_length_le (by omega)
  obtain ⟨T1, hT1, hT1s⟩ := low_str n 1
  have hL1 : ∀ w, Calls Tryz.prog 45 #[.int .u64 n, .int .i64 1] w fun e w' => e = .returned (.string T1) ∧ Below w.heap.size w w' := fun w => low_as (n := 1) (by omega) (by omega) hT1
  have HL1 := Lib.hid hL1
  have HT1 := Lib.hid hT1
  have HR := Lib.hid hr
  have HN := Lib.hid hn
  have HRK := Lib.hid hRK
  have HSS := Lib.hid hs
  have hz1 : (1 : Int) + (sumI ks : Int) ≤ 232 := by omega
  have hz2 : (n : Int) ≤ 255 := by omega
  have hLAY : layL9 ks = lowB n 1 ++ itemsB ks := by unfold layL9; rw [hn]
  have HLAY := Lib.hid hLAY
  have hbd : ∀ k, (itemsB (ks.take k)).length ≤ 231 := fun k => by rw [itemsB_len]; have := sumI_le ks k; omega
  have HBD := Lib.hid hbd
  have HT1s := Lib.hid hT1s
  clear hbd
  generalize sumI ks = z at *
  clear hr hn hL1 hT1 hT1s hRK h0 hs hLAY
  go_enter Tryz.func10, Tryz.ntmps10
  go_wp2_with (first
    | (go_at_call 35; refine (HRt.out _ HR.out).mono ?_; rintro e w1 ⟨rfl, b1⟩)
    | (go_at_call 16; refine (HSz.out _ (HR.out.below b1)).mono ?_; rintro e w2 ⟨rfl, b2⟩; have B2 := below_of b2 b1 b1.size)
    | (go_at_call 45; refine (HL1.out _).mono ?_; rintro e w3 ⟨rfl, b3⟩; have B3 := below_of b3 B2 B2.size))
  go_loopw [4, 5] (fun u4 u5 wr => ∃ (k : Nat) (S : ByteArray), k ≤ n ∧ u5 = .int .i64 k ∧ u4 = .string S ∧ bts S = lowB n 1 ++ itemsB (ks.take k) ∧ Below w.heap.size w wr) (fun _ u5 _ => n - (intOf u5).toNat)
  case atStart => exact ⟨0, T1, by omega, rfl, rfl, by rw [← HT1.out]; simp [itemsB], B3⟩
  case round =>
    obtain ⟨k, S, hk, rfl, rfl, hS, hB⟩ := hrel
    have HSt := Lib.hid hS
    have hSs : S.size ≤ 232 := by
      have h1 := HBD.out k
      have h2 := congrArg List.length hS
      rw [bts_len, List.length_append, lowB_len] at h2
      omega
    clear hS
    by_cases hlt : k < n
    · obtain ⟨bb, o, x, rfl, hbb, hx, d0, d1, d2⟩ := HR.out.item (k := k) (by have := HN.out; omega)
      have hok := HRK.out.ok k x hx
      have hkk : x.key.size ≤ 32 ∧ 0 ≤ x.kind ∧ x.kind ≤ 2 ∧ x.val.size ≤ 96 := by unfold okI at hok; simp at hok; omega
      have c0 := cell_bb hB hbb d0
      have c1 := cell_bb hB hbb d1
      obtain ⟨pg, hpg⟩ := Int.eq_ofNat_of_zero_le (a := x.kind) (by omega)
      have c2 := cell_bb hB hbb d2
      rw [hpg] at c2
      obtain ⟨T, hT, hTs⟩ := rtext_as x.key w (by omega)
      obtain ⟨U, hU, hUs⟩ := rtext_as x.val w (by omega)
      obtain ⟨L, hL, hLs⟩ := low_str pg 1
      have hTx := fun w => rtext_is x.key T w (by omega) hT
      have hUx := fun w => rtext_is x.val U w (by omega) hU
      have hLw : ∀ w, Calls Tryz.prog 45 #[.int .u64 pg, .int .i64 1] w fun e w' => e = .returned (.string L) ∧ Below w.heap.size w w' := fun w => low_as (n := 1) (by omega) (by omega) hL
      have hst : bts (S ++ L ++ T ++ U) = lowB n 1 ++ itemsB (ks.take (k + 1)) := by
        rw [bts_append, bts_append, bts_append, HSt.out, itemsB_take ks k x hx, ← hL, hT, hU]
        unfold itemB
        rw [hpg, Int.toNat_natCast]
        simp [List.append_assoc]
      have g1 : ¬ (9223372036854775807 < S.size + L.size) := by omega
      have g2 : ¬ (9223372036854775807 < S.size + L.size + T.size) := by omega
      have g3 : ¬ (9223372036854775807 < S.size + L.size + T.size + U.size) := by omega
      have hpgi : (pg : Int) < 4000 := by omega
      have hpg0 : (0 : Int) ≤ (pg : Int) := by omega
      have HST := Lib.hid hst
      have HTx := Lib.hid hTx
      have HUx := Lib.hid hUx
      have HLw := Lib.hid hLw
      have hki : (k : Int) < (n : Int) := by omega
      clear hst hTx hUx hLw hT hTs hU hUs hL hLs hpg hx hok hkk d0 d1 d2 hSs
      go_wp2_with (first
        | (go_at_call 46; ((with_reducible refine (HTx.out _).mono ?_); rintro e w4 ⟨rfl, b4⟩; have B4 := below_of b4 hB hB.size; have c04 := cell_b b4 c0; have c14 := cell_b b4 c1; have c24 := cell_b b4 c2))
        | (go_at_call 46; ((with_reducible refine (HUx.out _).mono ?_); rintro e w6 ⟨rfl, b6⟩; have B6 := below_of b6 B4 B4.size; have c26 := cell_b b6 c24))
        | (go_at_call 45; refine (HLw.out _).mono ?_; rintro e w5 ⟨rfl, b5⟩; have B5 := below_of b5 B6 B6.size))
      go_roundw
      case rel => exact ⟨k + 1, S ++ L ++ T ++ U, by omega, by go_num, rfl, HST.out, B5⟩
      case measure => simp [intOf]; omega
    · obtain rfl : k = n := by omega
      have hfin : bs (layL9 ks) = S := by rw [HLAY.out, ← bs_bts S, HSt.out, HT.out]
      have HFIN := Lib.hid hfin
      clear hfin
      go_wp2
      go_ret2
      exact ⟨by rw [HFIN.out]; rfl, hB⟩
set_option maxRecDepth 100000 in
theorem rlayI_any (A : Option Addr) (n c : Nat) (ks : List Im) (w : World) (hr : Rd w A (flatI ks)) (hn : ks.length = n) (hs : sumI ks ≤ 1099511627776) (hm : n ≤ 1000000) :
    Calls Tryz.prog 10 #[.slice A n c] w fun e w' => e = .returned (.tuple #[.string (layS ks).1, .int .i64 (layS ks).2]) ∧ Below w.heap.size w w' := by
  by_cases hR : argI ks
  · rw [layS_arg hR]
    have HRt := Lib.hid fun w hr => rrI_no A n c ks w hr hn hm hR
    have HR := Lib.hid hr
    clear hr hn hs hm hR
    go_enter Tryz.func10, Tryz.ntmps10
    go_wp2_with (go_at_call 35; refine (HRt.out _ HR.out).mono ?_; rintro e w1 ⟨rfl, b1⟩)
    go_ret2
    exact ⟨rfl, b1⟩
  · by_cases hl : 232 < 1 + sumI ks ∨ 255 < ks.length
    · rw [layS_long (not_arg hR) hl]
      have HRt := Lib.hid fun w hr => rrI_yes A n c ks w hr hn hm hR
      have HSz := Lib.hid fun w hr => rsizeI_any A n c ks w hr hn hs
      have HR := Lib.hid hr
      have hcs : (232 : Int) < 1 + (sumI ks : Int) ∨ ((1 : Int) + (sumI ks : Int) ≤ 232 ∧ (255 : Int) < (n : Int)) := by omega
      generalize sumI ks = z at *
      clear hr hn hs hm hR hl
      rcases hcs with h | ⟨h, h'⟩
      all_goals
        go_enter Tryz.func10, Tryz.ntmps10
        go_wp2_with (first
          | (go_at_call 35; refine (HRt.out _ HR.out).mono ?_; rintro e w1 ⟨rfl, b1⟩)
          | (go_at_call 16; refine (HSz.out _ (HR.out.below b1)).mono ?_; rintro e w2 ⟨rfl, b2⟩; have B2 := below_of b2 b1 b1.size))
        go_ret2
        exact ⟨rfl, B2⟩
    · rw [layS_ok (not_arg hR) hl]
      exact rlayI_ok A n c ks w hr hn hR (by omega) (by omega)
end Go.Proofs.YtldkhhipfoeckaaGreat
