/-
  The walk of the law PackShort. Condition: the library's table of powers of ten is as its text lays it.
-/
import Derived.Test.YtobflgpaijdcaaaDoorPackBackW
namespace Go.Proofs.YtobflgpaijdcaaaDoor
open Go Go.RowKit

theorem getNum_bad (n : Nat) (l : List UInt8) (e : Int) (h : e ≠ 0) : getNum n (l, e) = (0, (l, e)) := by
  unfold getNum getRaw; simp only [if_neg h]; rfl
theorem getRaw_bad (n : Int) (l : List UInt8) (e : Int) (h : e ≠ 0) : getRaw n (l, e) = ([], (l, e)) := by
  unfold getRaw; simp only [if_neg h]
theorem getText_bad (l : List UInt8) (e : Int) (h : e ≠ 0) : getText (l, e) = ([], (l, e)) := by
  unfold getText; rw [getNum_bad 2 l e h]; exact getRaw_bad _ l e h
theorem getRaw_few (n : Nat) (l : List UInt8) (h : l.length < n) : getRaw (n : Int) (l, 0) = ([], (l, 5)) := by
  unfold getRaw; simp only [if_true]; rw [if_neg (by omega), if_pos (by omega)]
theorem getNum_few (n : Nat) (l : List UInt8) (h : l.length < n) : getNum n (l, 0) = (0, (l, 5)) := by
  unfold getNum; rw [getRaw_few n l h]; rfl

theorem short_plain (a b : Int) (s : List UInt8) (a0 : 0 ≤ a) (a1 : a ≤ 255) (b0 : -9223372036854775808 ≤ b) (b1 : b ≤ 9223372036854775807) (hs : s.length ≤ 500) (k : Nat) (hk : k ≤ 11 + s.length) :
    ∃ u t v s1 s2 s3, getNum 1 ((lowB a.toNat 1 ++ (lowB s.length 2 ++ (s ++ lowB (u64 b) 8))).take k, 0) = (u, s1) ∧ getText s1 = (t, s2) ∧ getNum 8 s2 = (v, s3) ∧ s1.1.length ≤ 1000 ∧ s2.1.length ≤ 1000 ∧
      (k = 11 + s.length → u = a ∧ t = s ∧ v = b ∧ s3 = ([], 0)) ∧ (k < 11 + s.length → s3.2 = 5 ∧ v = 0 ∧ (k = 0 ∨ u = a) ∧ (k < 3 + s.length ∨ t = s)) := by
  have g1 := fun r => getNum_low 1 a.toNat r (by omega) (by omega) (by omega)
  rw [Int.toNat_of_nonneg a0] at g1
  have g2 := fun r => getNum_low 2 s.length r (by omega) (by omega) (by omega)
  have g4 := fun r => getNum_int b r b0 b1
  have hl1 := lowB_len a.toNat 1
  have hl2 := lowB_len s.length 2
  have hl4 := lowB_len (u64 b) 8
  generalize lowB a.toNat 1 = x1 at *
  generalize lowB s.length 2 = x2 at *
  generalize lowB (u64 b) 8 = x4 at *
  rcases Nat.eq_zero_or_pos k with rfl | hk0
  · exact ⟨0, [], 0, ([], 5), ([], 5), ([], 5), getNum_few 1 [] (by decide), getText_bad [] 5 (by decide), getNum_bad 8 [] 5 (by decide), by simp, by simp, fun h => by omega, fun _ => ⟨rfl, rfl, .inl rfl, .inl (by omega)⟩⟩
  · have e1 : (x1 ++ (x2 ++ (s ++ x4))).take k = x1 ++ (x2 ++ (s ++ x4)).take (k - 1) := by rw [List.take_append, List.take_of_length_le (by omega), hl1]
    rw [e1, g1]
    by_cases h3 : k < 3
    · have hlen : ((x2 ++ (s ++ x4)).take (k - 1)).length < 2 := by rw [List.length_take]; omega
      refine ⟨a, [], 0, _, ((x2 ++ (s ++ x4)).take (k - 1), 5), ((x2 ++ (s ++ x4)).take (k - 1), 5), rfl, ?_, getNum_bad 8 _ 5 (by decide), ?_, ?_, fun h => by omega, fun _ => ⟨rfl, rfl, .inr rfl, .inl (by omega)⟩⟩
      · unfold getText; rw [getNum_few 2 _ hlen]; exact getRaw_bad _ _ 5 (by decide)
      · dsimp only; omega
      · dsimp only; omega
    · have e2 : (x2 ++ (s ++ x4)).take (k - 1) = x2 ++ (s ++ x4).take (k - 3) := by rw [List.take_append, List.take_of_length_le (by omega), hl2, show k - 1 - 2 = k - 3 by omega]
      rw [e2]
      have hT : getText (x2 ++ (s ++ x4).take (k - 3), 0) = getRaw (s.length : Int) ((s ++ x4).take (k - 3), 0) := by unfold getText; rw [g2]
      by_cases h4 : k < 3 + s.length
      · have hlen : ((s ++ x4).take (k - 3)).length < s.length := by rw [List.length_take]; omega
        refine ⟨a, [], 0, _, ((s ++ x4).take (k - 3), 5), ((s ++ x4).take (k - 3), 5), rfl, by rw [hT]; exact getRaw_few _ _ hlen, getNum_bad 8 _ 5 (by decide), ?_, ?_, fun h => by omega, fun _ => ⟨rfl, rfl, .inr rfl, .inl h4⟩⟩
        · dsimp only; rw [List.length_append]; omega
        · dsimp only; omega
      · have e3 : (s ++ x4).take (k - 3) = s ++ x4.take (k - 3 - s.length) := by rw [List.take_append, List.take_of_length_le (by omega)]
        rw [e3] at hT ⊢
        rw [getRaw_app] at hT
        by_cases h5 : k = 11 + s.length
        · have e4 : x4.take (k - 3 - s.length) = x4 := List.take_of_length_le (by omega)
          rw [e4] at hT ⊢
          have g5 := g4 []
          rw [List.append_nil] at g5
          refine ⟨a, s, b, _, (x4, 0), ([], 0), rfl, hT, g5, ?_, ?_, fun _ => ⟨rfl, rfl, rfl, rfl⟩, fun h => by omega⟩
          · dsimp only; simp [hl2, hl4]; omega
          · dsimp only; omega
        · have hlen : (x4.take (k - 3 - s.length)).length < 8 := by rw [List.length_take]; omega
          refine ⟨a, s, 0, _, (x4.take (k - 3 - s.length), 0), (x4.take (k - 3 - s.length), 5), rfl, hT, getNum_few 8 _ hlen, ?_, ?_, fun h => by omega, fun _ => ⟨rfl, rfl, .inr rfl, .inr rfl⟩⟩
          · dsimp only; simp [hl2]; omega
          · dsimp only; omega

theorem short_bad (a b : Int) (s : ByteArray) (cut : Int) (w : World) (ht : PowIs w) (hc : ¬ (s.size ≤ 500 ∧ 0 ≤ a ∧ a ≤ 255 ∧ 0 ≤ cut)) :
    Calls Tryd.prog 4 #[.int .i64 a, .int .i64 b, .string s, .int .i64 cut] w fun e w' => e = .returned (.bool true) ∧ Below w.heap.size w w' := by
  have hcs : (500 < (s.size : Int)) ∨ ((s.size : Int) ≤ 500 ∧ a < 0) ∨ ((s.size : Int) ≤ 500 ∧ 0 ≤ a ∧ 255 < a) ∨ ((s.size : Int) ≤ 500 ∧ 0 ≤ a ∧ a ≤ 255 ∧ cut < 0) := by omega
  clear hc
  rcases hcs with h | ⟨h0, h⟩ | ⟨h0, h1, h⟩ | ⟨h0, h1, h2, h⟩
  all_goals
    go_enter Tryd.func4, Tryd.ntmps4
    go_wp2_with (go_at_call 13; refine (alive1_any _ ht).mono ?_; rintro e wa ⟨rfl, ba⟩)
    go_ret
    exact ⟨rfl, ba⟩

set_option maxRecDepth 100000 in
set_option maxHeartbeats 2000000 in
theorem short_good (a b : Int) (s : ByteArray) (cut : Int) (w : World) (ht : PowIs w) (hs : (s.size : Int) ≤ 500) (a0 : 0 ≤ a) (a1 : a ≤ 255) (hcut : 0 ≤ cut) (b0 : -9223372036854775808 ≤ b) (b1 : b ≤ 9223372036854775807) :
    Calls Tryd.prog 4 #[.int .i64 a, .int .i64 b, .string s, .int .i64 cut] w fun e w' => e = .returned (.bool true) ∧ Below w.heap.size w w' := by
  have hbs := bts_len s
  have q1 := putSmall_ok 1 a [] a0 (by omega)
  have q2 := fun l => putText_ok (bts s) l (by omega)
  have q4 : ∀ l, putInt b (l, 0) = (l ++ lowB (u64 b) 8, 0) := fun l => by unfold putInt; simp only [if_true]
  obtain ⟨X, hX⟩ : ∃ X, X = bs (lowB a.toNat 1 ++ (lowB (bts s).length 2 ++ (bts s ++ lowB (u64 b) 8))) := ⟨_, rfl⟩
  have hXb : bts X = lowB a.toNat 1 ++ (lowB (bts s).length 2 ++ (bts s ++ lowB (u64 b) 8)) := by rw [hX]; rfl
  have hXn : X.size = 11 + s.size := by rw [← bts_len, hXb]; simp [lowB_len]; omega
  obtain ⟨k, hk⟩ := Int.eq_ofNat_of_zero_le (Int.emod_nonneg cut (by omega : ((X.size : Int) + 1) ≠ 0))
  have hk2 : k ≤ 11 + s.size := by have := Int.emod_lt_of_pos cut (by omega : 0 < (X.size : Int) + 1); omega
  obtain ⟨u, T, v, s1, s2, s3, r1, r2, r3, l1, l2, hall, hfew⟩ := short_plain a b (bts s) a0 a1 b0 b1 (by omega) k (by omega)
  rw [← hXb] at r1
  rw [hbs] at hall hfew
  obtain ⟨t, hTt⟩ : ∃ t, T = bts t := ⟨bs T, rfl⟩
  subst hTt
  have hX2 : ((X.size : Int)) = 11 + s.size := by omega
  have E1 := Lib.hid q1
  have E2 := Lib.hid (q2 ([] ++ lowB a.toNat 1))
  have E4 : Hid (putInt b ([] ++ lowB a.toNat 1 ++ (lowB (bts s).length 2 ++ bts s), 0) = (bts X, 0)) := by unfold Hid; rw [q4, hXb]; simp
  have E6 : Hid (endP (bts X, 0) = (bts X, 0)) := by unfold Hid endP; simp only [if_true]
  have L1 : Hid (([] ++ lowB a.toNat 1 : List UInt8).length ≤ 4) := by unfold Hid; simp [lowB_len]
  have L2 : Hid (([] ++ lowB a.toNat 1 ++ (lowB (bts s).length 2 ++ bts s)).length ≤ 2000) := by unfold Hid; simp [lowB_len]; omega
  have R1 : Hid (getNum 1 (bts (X.extract 0 k), 0) = (u, s1)) := by unfold Hid; rw [bts_extract]; exact r1
  have LX : Hid ((bts (X.extract 0 k)).length ≤ 1000) := by unfold Hid; rw [bts_extract]; simp [bts_len]; omega
  have R2 := Lib.hid r2
  have R3 := Lib.hid r3
  have M1 := Lib.hid l1
  have M2 := Lib.hid l2
  have HX2 := Lib.hid hX2
  have hXle : (X.size : Int) ≤ 600 := by omega
  have hkX : (k : Int) ≤ (X.size : Int) := by omega
  clear hX hXb hXn q1 q2 q4 r1 r2 r3 l1 l2 hX2
  have HT := Lib.hid ht
  clear ht
  by_cases hkN : k = 11 + s.size
  · obtain ⟨hu, htt, hv, hs3⟩ := hall hkN
    have htt' : t = s := bts_inj htt
    subst hu hv hs3 htt'
    have hkX2 : ((k : Int) == (X.size : Int)) = true := by have := HX2.out; simp; omega
    have hkX3 : (k == X.size) = true := by have := HX2.out; simp; omega
    clear hall hfew htt hbs hkN hk2
    go_enter Tryd.func4, Tryd.ntmps4
    go_wp2_with (first
      | (go_at_call 13; refine (alive1_any _ HT.out).mono ?_; rintro e wa ⟨rfl, ba⟩; have P0 := new_put wa; have B0 : Below w.heap.size w (wa.alloc (.cells #[.slice none 0 0, .int .i64 0] 42)) := ba.alloc ba.size _)
      | (go_at_call 29; refine (ps_as (pbyte_s _ _ _ _ _ P0 (by decide)) E1.out).mono ?_; rintro e w1 ⟨rfl, P1, d1⟩; have B1 := B0.trans (d1.mono ba.size))
      | (go_at_call 30; refine (ps_as (ptext_s _ _ _ _ _ P1 (by have := L1.out; dsimp only; omega)) E2.out).mono ?_; rintro e w2 ⟨rfl, P2, d2⟩; have B2 := B1.trans (d2.mono ba.size))
      | (go_at_call 31; refine (ps_as (pint_s _ _ _ _ _ P2 (by have := L2.out; dsimp only; omega)) E4.out).mono ?_; rintro e w4 ⟨rfl, P4, d4⟩; have B4 := B2.trans (d4.mono ba.size))
      | (go_at_call 32; refine (end_as (pend_s _ _ _ _ P4) E6.out).mono ?_; rintro e w6 ⟨rfl, n6, h6⟩; have B6 : Below w.heap.size w w6 := h6 ▸ below_drewN B4 n6; clear h6)
      | (go_at_call 14; refine (from_s (X.extract 0 k) _).mono ?_; rintro e w7 ⟨rfl, G7, b7⟩; have B7 := below_of b7 B6 B6.size; have hg := B6.size)
      | (go_at_call 15; refine (gn_as (gbyte_s _ _ _ G7 (by have := LX.out; dsimp only; omega)) R1.out).mono ?_; rintro e w8 ⟨rfl, G8, f8⟩; have B8 := below_frm B7 f8 (Nat.le_refl _) (fun i hi => by unfold at1 at hi; omega))
      | (go_at_call 20; refine (gt_as (gtext_s _ _ _ G8 (by have := M1.out; omega)) R2.out).mono ?_; rintro e w9 ⟨rfl, G9, f9⟩; have B9 := below_frm B8 f9 (Nat.le_refl _) (fun i hi => by unfold at1 at hi; omega))
      | (go_at_call 19; refine (gn_as (gint_s _ _ _ G9 (by have := M2.out; omega)) R3.out).mono ?_; rintro e wc ⟨rfl, Gc, fc⟩; have Bc := below_frm B9 fc (Nat.le_refl _) (fun i hi => by unfold at1 at hi; omega))
      | (go_at_call 27; refine (a_gend _ _ Gc).mono ?_; rintro e wf ⟨rfl, Gf, ff⟩; have Bf := below_frm Bc ff (Nat.le_refl _) (fun i hi => by unfold at1 at hi; omega)))
    go_ret
    exact ⟨rfl, Bf⟩
  · obtain ⟨h5, hv, hu, htt⟩ := hfew (by omega)
    subst hv
    have hkX2 : ((k : Int) == (X.size : Int)) = false := by have := HX2.out; simp; omega
    have hkX3 : (k == X.size) = false := by have := HX2.out; simp; omega
    have e5 : endG s3 = s3 := by unfold endG; rw [if_neg (by rw [h5]; simp)]
    have e6 : leftP s3 = 0 := by unfold leftP; rw [if_neg (by rw [h5]; simp)]
    have HE : Hid (∀ w g, GetS w g s3 → Calls Tryd.prog 27 #[ptr g] w fun e w' => e = .returned (.int .i64 5) ∧ GetS w' g s3 ∧ Frm (at1 g) w w') := by
      unfold Hid; intro w g h; have := gend_s g s3 w h; rw [e5, h5] at this; exact this
    have HB : Hid (∀ w g, GetS w g s3 → Calls Tryd.prog 26 #[ptr g] w fun e w' => e = .returned (.int .i64 5) ∧ w' = w) := by
      unfold Hid; intro w g h; have := gbad_s g s3 w h; rw [h5] at this; exact this
    have HL : Hid (∀ w g, GetS w g s3 → Calls Tryd.prog 24 #[ptr g] w fun e w' => e = .returned (.int .i64 0) ∧ w' = w) := by
      unfold Hid; intro w g h; have := gleft_s g s3 w h; rw [e6] at this; exact this
    clear e5 e6 h5 hall hfew
    have hu' : (k = 0) ∨ (0 < k ∧ u = a) := by rcases hu with h | h <;> omega
    have ht' : (k < 3 + s.size) ∨ (3 + s.size ≤ k ∧ t = s) := by
      by_cases h : k < 3 + s.size
      · exact .inl h
      · rcases htt with h' | h'
        · exact absurd h' h
        · exact .inr ⟨by omega, bts_inj h'⟩
    clear hu htt
    have hall : (((k : Int) == 0) = true ∧ (k : Int) < 3 + s.size) ∨ (((k : Int) == 0) = false ∧ u = a ∧ (k : Int) < 3 + s.size) ∨ (((k : Int) == 0) = false ∧ u = a ∧ (3 + s.size : Int) ≤ k ∧ t = s) := by
      rcases hu' with h | ⟨h, h'⟩
      · left; refine ⟨by simp; omega, by omega⟩
      · rcases ht' with h2 | ⟨h2, h3⟩
        · right; left; refine ⟨by simp; omega, h', by omega⟩
        · right; right; refine ⟨by simp; omega, h', by omega, h3⟩
    clear hu' ht' hk2 hkN hbs
    rcases hall with ⟨hk0, ht'⟩ | ⟨hk0, rfl, ht'⟩ | ⟨hk0, rfl, ht', rfl⟩
    all_goals first
      | (go_enter Tryd.func4, Tryd.ntmps4
         go_wp2_with (first
           | (go_at_call 13; refine (alive1_any _ HT.out).mono ?_; rintro e wa ⟨rfl, ba⟩; have P0 := new_put wa; have B0 : Below w.heap.size w (wa.alloc (.cells #[.slice none 0 0, .int .i64 0] 42)) := ba.alloc ba.size _)
           | (go_at_call 29; refine (ps_as (pbyte_s _ _ _ _ _ P0 (by decide)) E1.out).mono ?_; rintro e w1 ⟨rfl, P1, d1⟩; have B1 := B0.trans (d1.mono ba.size))
           | (go_at_call 30; refine (ps_as (ptext_s _ _ _ _ _ P1 (by have := L1.out; dsimp only; omega)) E2.out).mono ?_; rintro e w2 ⟨rfl, P2, d2⟩; have B2 := B1.trans (d2.mono ba.size))
           | (go_at_call 31; refine (ps_as (pint_s _ _ _ _ _ P2 (by have := L2.out; dsimp only; omega)) E4.out).mono ?_; rintro e w4 ⟨rfl, P4, d4⟩; have B4 := B2.trans (d4.mono ba.size))
           | (go_at_call 32; refine (end_as (pend_s _ _ _ _ P4) E6.out).mono ?_; rintro e w6 ⟨rfl, n6, h6⟩; have B6 : Below w.heap.size w w6 := h6 ▸ below_drewN B4 n6; clear h6)
           | (go_at_call 14; refine (from_s (X.extract 0 k) _).mono ?_; rintro e w7 ⟨rfl, G7, b7⟩; have B7 := below_of b7 B6 B6.size; have hg := B6.size)
           | (go_at_call 15; refine (gn_as (gbyte_s _ _ _ G7 (by have := LX.out; dsimp only; omega)) R1.out).mono ?_; rintro e w8 ⟨rfl, G8, f8⟩; have B8 := below_frm B7 f8 (Nat.le_refl _) (fun i hi => by unfold at1 at hi; omega))
           | (go_at_call 20; refine (gt_as (gtext_s _ _ _ G8 (by have := M1.out; omega)) R2.out).mono ?_; rintro e w9 ⟨rfl, G9, f9⟩; have B9 := below_frm B8 f9 (Nat.le_refl _) (fun i hi => by unfold at1 at hi; omega))
           | (go_at_call 19; refine (gn_as (gint_s _ _ _ G9 (by have := M2.out; omega)) R3.out).mono ?_; rintro e wc ⟨rfl, Gc, fc⟩; have Bc := below_frm B9 fc (Nat.le_refl _) (fun i hi => by unfold at1 at hi; omega))
           | (go_at_call 26; refine (HB.out _ _ Gc).mono ?_; rintro e we ⟨rfl, hwe⟩; subst hwe)
           | (go_at_call 24; refine (HL.out _ _ Gf).mono ?_; rintro e we ⟨rfl, hwe⟩; subst hwe)
           | (go_at_call 27; refine (HE.out _ _ Gc).mono ?_; rintro e wf ⟨rfl, Gf, ff⟩; have Bf := below_frm Bc ff (Nat.le_refl _) (fun i hi => by unfold at1 at hi; omega)))
         go_ret
         exact ⟨rfl, Bf⟩)

theorem packshort_walk (a b : Int) (s : ByteArray) (cut : Int) (w : World) (ht : PowIs w) (b0 : -9223372036854775808 ≤ b) (b1 : b ≤ 9223372036854775807) :
    Calls Tryd.prog 4 #[.int .i64 a, .int .i64 b, .string s, .int .i64 cut] w fun e w' => e = .returned (.bool true) ∧ Below w.heap.size w w' := by
  by_cases hc : s.size ≤ 500 ∧ 0 ≤ a ∧ a ≤ 255 ∧ 0 ≤ cut
  · obtain ⟨h1, h2, h3, h4⟩ := hc
    exact short_good a b s cut w ht (by omega) h2 h3 h4 b0 b1
  · exact short_bad a b s cut w ht hc
end Go.Proofs.YtobflgpaijdcaaaDoor
