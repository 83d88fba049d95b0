/-
  The walks of the laws PackBack and PackShort. Condition: the library's table of powers of ten is as its text lays it.
-/
import Derived.Test.YtobflgpaijdcaaaDoorPackAlive
namespace Go.Proofs.YtobflgpaijdcaaaDoor
open Go Go.RowKit

theorem ps_as {f : FuncId} {args : Array Value} {w : World} {base g : Nat} {r : Ending} {s s' : PS} (h : Calls Tryd.prog f args w fun e w' => e = r ∧ PutS base w' g s ∧ Below base w w') (e : s = s') :
    Calls Tryd.prog f args w fun e w' => e = r ∧ PutS base w' g s' ∧ Below base w w' := e ▸ h
theorem gn_as {f : FuncId} {args : Array Value} {w : World} {g : Nat} {x : Int × PS} {n : Int} {s' : PS} (h : Calls Tryd.prog f args w fun e w' => e = .returned (.int .i64 x.1) ∧ GetS w' g x.2 ∧ Frm (at1 g) w w') (e : x = (n, s')) :
    Calls Tryd.prog f args w fun e w' => e = .returned (.int .i64 n) ∧ GetS w' g s' ∧ Frm (at1 g) w w' := by subst e; exact h
theorem gt_as {f : FuncId} {args : Array Value} {w : World} {g : Nat} {x : List UInt8 × PS} {T : ByteArray} {s' : PS} (h : Calls Tryd.prog f args w fun e w' => e = .returned (str x.1) ∧ GetS w' g x.2 ∧ Frm (at1 g) w w') (e : x = (bts T, s')) :
    Calls Tryd.prog f args w fun e w' => e = .returned (.string T) ∧ GetS w' g s' ∧ Frm (at1 g) w w' := by
  subst e
  have : str (bts T) = .string T := by rw [show str (bts T) = .string (bs (bts T)) from rfl, bs_bts]
  rw [← this]; exact h
theorem end_as {f : FuncId} {args : Array Value} {w : World} {s : PS} {T : ByteArray} {x : Int} (h : Calls Tryd.prog f args w fun e w' => e = .returned (.tuple #[str (endP s).1, .int .i64 (endP s).2]) ∧ ∃ n, w' = w.drewN n) (e : endP s = (bts T, x)) :
    Calls Tryd.prog f args w fun e w' => e = .returned (.tuple #[.string T, .int .i64 x]) ∧ ∃ n, w' = w.drewN n := by
  rw [e] at h
  have : str (bts T) = .string T := by rw [show str (bts T) = .string (bs (bts T)) from rfl, bs_bts]
  rw [← this]; exact h

theorem sgn_u64 (v : Int) (h0 : -9223372036854775808 ≤ v) (h1 : v ≤ 9223372036854775807) : sgn64 (u64 v) = v := by unfold sgn64 u64; split <;> omega
theorem sgn_small (v : Nat) (h : v < 9223372036854775808) : sgn64 v = v := by unfold sgn64; rw [if_pos h]
/-- A number is read as it was put. -/
theorem getNum_low (n v : Nat) (r : List UInt8) (_hn : n ≤ 7) (hv : v < 256 ^ n) (hv2 : v < 9223372036854775808) : getNum n (lowB v n ++ r, 0) = ((v : Int), (r, 0)) := by
  have hl := lowB_len v n
  unfold getNum getRaw
  simp only [if_true, List.length_append, hl]
  rw [if_neg (by omega), if_neg (by omega), Int.toNat_natCast, List.take_left' hl, List.drop_left' hl, num_lowB_lt hv, sgn_small v hv2]
theorem getNum_int (v : Int) (r : List UInt8) (h0 : -9223372036854775808 ≤ v) (h1 : v ≤ 9223372036854775807) : getNum 8 (lowB (u64 v) 8 ++ r, 0) = (v, (r, 0)) := by
  have hl := lowB_len (u64 v) 8
  have hu := u64_lt v
  unfold getNum getRaw
  simp only [if_true, List.length_append, hl]
  rw [if_neg (by omega), if_neg (by omega), show ((8 : Nat) : Int).toNat = 8 by rfl, List.take_left' hl, List.drop_left' hl, num_lowB_lt (Nat.lt_of_lt_of_eq hu (by decide)), sgn_u64 v h0 h1]
theorem getRaw_app (t r : List UInt8) : getRaw (t.length : Int) (t ++ r, 0) = (t, (r, 0)) := by
  unfold getRaw
  simp only [if_true, List.length_append]
  rw [if_neg (by omega), if_neg (by omega), Int.toNat_natCast, List.take_left' rfl, List.drop_left' rfl]
theorem getText_app (t r : List UInt8) (h : t.length < 65536) : getText (lowB t.length 2 ++ (t ++ r), 0) = (t, (r, 0)) := by
  unfold getText
  rw [getNum_low 2 t.length (t ++ r) (by omega) (by omega) (by omega)]
  exact getRaw_app t r
theorem putSmall_ok (n : Nat) (v : Int) (l : List UInt8) (h0 : 0 ≤ v) (h1 : v < (256 : Int) ^ n) : putSmall n v (l, 0) = (l ++ lowB v.toNat n, 0) := by
  unfold putSmall; simp only [if_true]; rw [if_neg (by omega)]
theorem putText_ok (t l : List UInt8) (h : t.length ≤ 65535) : putText t (l, 0) = (l ++ (lowB t.length 2 ++ t), 0) := by
  unfold putText; simp only [if_true]; rw [if_neg (by omega), List.append_assoc]

theorem back_bad (a b c : Int) (s t : ByteArray) (w : World) (ht : PowIs w) (hc : ¬ (s.size ≤ 1000 ∧ t.size ≤ 1000 ∧ 0 ≤ a ∧ a ≤ 255 ∧ 0 ≤ b ∧ b < 4294967296)) :
    Calls Tryd.prog 5 #[.int .i64 a, .int .i64 b, .int .i64 c, .string s, .string t] w fun e w' => e = .returned (.bool true) ∧ Below w.heap.size w w' := by
  have hcs : (1000 < (s.size : Int)) ∨ ((s.size : Int) ≤ 1000 ∧ 1000 < (t.size : Int)) ∨ ((s.size : Int) ≤ 1000 ∧ (t.size : Int) ≤ 1000 ∧ a < 0) ∨ ((s.size : Int) ≤ 1000 ∧ (t.size : Int) ≤ 1000 ∧ 0 ≤ a ∧ 255 < a) ∨
    ((s.size : Int) ≤ 1000 ∧ (t.size : Int) ≤ 1000 ∧ 0 ≤ a ∧ a ≤ 255 ∧ b < 0) ∨ ((s.size : Int) ≤ 1000 ∧ (t.size : Int) ≤ 1000 ∧ 0 ≤ a ∧ a ≤ 255 ∧ 0 ≤ b ∧ 4294967296 ≤ b) := by omega
  clear hc
  rcases hcs with h | ⟨h0, h⟩ | ⟨h0, h1, h⟩ | ⟨h0, h1, h2, h⟩ | ⟨h0, h1, h2, h3, h⟩ | ⟨h0, h1, h2, h3, h4, h⟩
  all_goals
    go_enter Tryd.func5, Tryd.ntmps5
    go_wp2_with (go_at_call 13; refine (alive1_any _ ht).mono ?_; rintro e wa ⟨rfl, ba⟩)
    go_ret
    exact ⟨rfl, ba⟩

set_option maxRecDepth 100000 in
set_option maxHeartbeats 1000000 in
theorem back_good (a b c : Int) (s t : ByteArray) (w : World) (ht : PowIs w) (hs : (s.size : Int) ≤ 1000) (ht2 : (t.size : Int) ≤ 1000) (a0 : 0 ≤ a) (a1 : a ≤ 255) (b0 : 0 ≤ b) (b1 : b < 4294967296) (c0 : -9223372036854775808 ≤ c) (c1 : c ≤ 9223372036854775807) :
    Calls Tryd.prog 5 #[.int .i64 a, .int .i64 b, .int .i64 c, .string s, .string t] w fun e w' => e = .returned (.bool true) ∧ Below w.heap.size w w' := by
  have hbs := bts_len s
  have hbt := bts_len t
  have q1 := putSmall_ok 1 a [] a0 (by omega)
  have g1 := fun r => getNum_low 1 a.toNat r (by omega) (by omega) (by omega)
  have g3 := fun r => getNum_low 4 b.toNat r (by omega) (by omega) (by omega)
  rw [Int.toNat_of_nonneg a0] at g1
  rw [Int.toNat_of_nonneg b0] at g3
  have g4 := fun r => getNum_int c r c0 c1
  have g2 := fun r => getText_app (bts s) r (by omega)
  have q2 := fun l => putText_ok (bts s) l (by omega)
  have q3 := fun l => putSmall_ok 4 b l b0 (by omega)
  have hl1 := lowB_len a.toNat 1
  have hl2 := lowB_len (bts s).length 2
  have hl3 := lowB_len b.toNat 4
  have hl4 := lowB_len (u64 c) 8
  have q4 : ∀ l, putInt c (l, 0) = (l ++ lowB (u64 c) 8, 0) := fun l => by unfold putInt; simp only [if_true]
  generalize lowB a.toNat 1 = x1 at *
  generalize lowB (bts s).length 2 = x2 at *
  generalize lowB b.toNat 4 = x3 at *
  generalize lowB (u64 c) 8 = x4 at *
  obtain ⟨X, hX⟩ : ∃ X, X = bs (x1 ++ (x2 ++ (bts s ++ (x3 ++ (x4 ++ (bts t ++ [])))))) := ⟨_, rfl⟩
  have hXb : bts X = x1 ++ (x2 ++ (bts s ++ (x3 ++ (x4 ++ (bts t ++ []))))) := by rw [hX]; rfl
  have E1 := Lib.hid q1
  have E2 := Lib.hid (q2 ([] ++ x1))
  have E3 := Lib.hid (q3 ([] ++ x1 ++ (x2 ++ bts s)))
  have E4 := Lib.hid (q4 ([] ++ x1 ++ (x2 ++ bts s) ++ x3))
  have E5 : Hid (putRaw (bts t) ([] ++ x1 ++ (x2 ++ bts s) ++ x3 ++ x4, 0) = (bts X, 0)) := by
    unfold Hid putRaw; simp only [if_true]; rw [hXb]; simp
  have E6 : Hid (endP (bts X, 0) = (bts X, 0)) := by unfold Hid endP; simp only [if_true]
  have R1 : Hid (getNum 1 (bts X, 0) = (a, (x2 ++ (bts s ++ (x3 ++ (x4 ++ (bts t ++ [])))), 0))) := by unfold Hid; rw [hXb]; exact g1 _
  have R2 := Lib.hid (g2 (x3 ++ (x4 ++ (bts t ++ []))))
  have R3 := Lib.hid (g3 (x4 ++ (bts t ++ [])))
  have R4 := Lib.hid (g4 (bts t ++ []))
  have R5 : Hid (getRaw (t.size : Int) (bts t ++ [], 0) = (bts t, ([], 0))) := by unfold Hid; rw [← hbt]; exact getRaw_app (bts t) []
  have L1 : Hid (([] ++ x1 : List UInt8).length ≤ 4) := by unfold Hid; simp [hl1]
  have L2 : Hid (([] ++ x1 ++ (x2 ++ bts s)).length ≤ 2000) := by unfold Hid; simp [hl1, hl2]; omega
  have L3 : Hid (([] ++ x1 ++ (x2 ++ bts s) ++ x3).length ≤ 2000) := by unfold Hid; simp [hl1, hl2, hl3]; omega
  have L4 : Hid (([] ++ x1 ++ (x2 ++ bts s) ++ x3 ++ x4).length ≤ 2000) := by unfold Hid; simp [hl1, hl2, hl3, hl4]; omega
  have LX : Hid ((bts X).length ≤ 4000) := by unfold Hid; rw [hXb]; simp [hl1, hl2, hl3, hl4]; omega
  have M1 : Hid ((x2 ++ (bts s ++ (x3 ++ (x4 ++ (bts t ++ []))))).length ≤ 4000) := by unfold Hid; simp [hl2, hl3, hl4]; omega
  have M2 : Hid ((x3 ++ (x4 ++ (bts t ++ []))).length ≤ 4000) := by unfold Hid; simp [hl3, hl4]; omega
  have M3 : Hid ((x4 ++ (bts t ++ [])).length ≤ 4000) := by unfold Hid; simp [hl4]; omega
  have M4 : Hid ((bts t ++ []).length ≤ 4000) := by unfold Hid; simp; omega
  clear hX hXb q1 q2 q3 q4 g1 g2 g3 g4 hl1 hl2 hl3 hl4 hbs hbt
  have HT := Lib.hid ht
  clear ht
  go_enter Tryd.func5, Tryd.ntmps5
  go_wp2_with (first
    | (go_at_call 13; refine (alive1_any _ HT.out).mono ?_; rintro e wa ⟨rfl, ba⟩; have P0 := new_put wa; have B0 : Below w.heap.size w (wa.alloc (.cells #[.slice none 0 0, .int .i64 0] 42)) := ba.alloc ba.size _)
    | (go_at_call 29; refine (ps_as (pbyte_s _ _ _ _ _ P0 (by decide)) E1.out).mono ?_; rintro e w1 ⟨rfl, P1, d1⟩; have B1 := B0.trans (d1.mono ba.size))
    | (go_at_call 30; refine (ps_as (ptext_s _ _ _ _ _ P1 (by have := L1.out; dsimp only; omega)) E2.out).mono ?_; rintro e w2 ⟨rfl, P2, d2⟩; have B2 := B1.trans (d2.mono ba.size))
    | (go_at_call 33; refine (ps_as (pword_s _ _ _ _ _ P2 (by have := L2.out; dsimp only; omega)) E3.out).mono ?_; rintro e w3 ⟨rfl, P3, d3⟩; have B3 := B2.trans (d3.mono ba.size))
    | (go_at_call 31; refine (ps_as (pint_s _ _ _ _ _ P3 (by have := L3.out; dsimp only; omega)) E4.out).mono ?_; rintro e w4 ⟨rfl, P4, d4⟩; have B4 := B3.trans (d4.mono ba.size))
    | (go_at_call 34; refine (ps_as (praw_s _ _ _ _ _ P4 (by have := L4.out; dsimp only; omega)) E5.out).mono ?_; rintro e w5 ⟨rfl, P5, d5⟩; have B5 := B4.trans (d5.mono ba.size))
    | (go_at_call 32; refine (end_as (pend_s _ _ _ _ P5) E6.out).mono ?_; rintro e w6 ⟨rfl, n6, h6⟩; have B6 : Below w.heap.size w w6 := h6 ▸ below_drewN B5 n6; clear h6)
    | (go_at_call 14; refine (from_s X _).mono ?_; rintro e w7 ⟨rfl, G7, b7⟩; have B7 := below_of b7 B6 B6.size; have hg := B6.size)
    | (go_at_call 15; refine (gn_as (gbyte_s _ _ _ G7 (by have := LX.out; dsimp only; omega)) R1.out).mono ?_; rintro e w8 ⟨rfl, G8, f8⟩; have B8 := below_frm B7 f8 (Nat.le_refl _) (fun i hi => by unfold at1 at hi; omega))
    | (go_at_call 20; refine (gt_as (gtext_s _ _ _ G8 (by have := M1.out; dsimp only; omega)) R2.out).mono ?_; rintro e w9 ⟨rfl, G9, f9⟩; have B9 := below_frm B8 f9 (Nat.le_refl _) (fun i hi => by unfold at1 at hi; omega))
    | (go_at_call 18; refine (gn_as (gword_s _ _ _ G9 (by have := M2.out; dsimp only; omega)) R3.out).mono ?_; rintro e wb ⟨rfl, Gb, fb⟩; have Bb := below_frm B9 fb (Nat.le_refl _) (fun i hi => by unfold at1 at hi; omega))
    | (go_at_call 19; refine (gn_as (gint_s _ _ _ Gb (by have := M3.out; dsimp only; omega)) R4.out).mono ?_; rintro e wc ⟨rfl, Gc, fc⟩; have Bc := below_frm Bb fc (Nat.le_refl _) (fun i hi => by unfold at1 at hi; omega))
    | (go_at_call 22; refine (gt_as (graw_s _ _ _ _ Gc (by have := M4.out; dsimp only; omega)) R5.out).mono ?_; rintro e wd ⟨rfl, Gd, fd⟩; have Bd := below_frm Bc fd (Nat.le_refl _) (fun i hi => by unfold at1 at hi; omega))
    | (go_at_call 24; refine (gleft_s _ ([], 0) _ Gd).mono ?_; rintro e we ⟨rfl, hwe⟩; subst hwe)
    | (go_at_call 27; refine (a_gend _ _ Gd).mono ?_; rintro e wf ⟨rfl, Gf, ff⟩; have Bf := below_frm Bd ff (Nat.le_refl _) (fun i hi => by unfold at1 at hi; omega)))
  go_ret
  exact ⟨rfl, Bf⟩

theorem packback_walk (a b c : Int) (s t : ByteArray) (w : World) (ht : PowIs w) (c0 : -9223372036854775808 ≤ c) (c1 : c ≤ 9223372036854775807) :
    Calls Tryd.prog 5 #[.int .i64 a, .int .i64 b, .int .i64 c, .string s, .string t] w fun e w' => e = .returned (.bool true) ∧ Below w.heap.size w w' := by
  by_cases hc : s.size ≤ 1000 ∧ t.size ≤ 1000 ∧ 0 ≤ a ∧ a ≤ 255 ∧ 0 ≤ b ∧ b < 4294967296
  · obtain ⟨h1, h2, h3, h4, h5, h6⟩ := hc
    exact back_good a b c s t w ht (by omega) (by omega) h3 h4 h5 h6 c0 c1
  · exact back_bad a b c s t w ht hc
end Go.Proofs.YtobflgpaijdcaaaDoor
