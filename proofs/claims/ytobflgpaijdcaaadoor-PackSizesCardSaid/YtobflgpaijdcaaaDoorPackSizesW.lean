/-
  The walk of the law PackSizes. Condition: the library's table of powers of ten is as its text lays it.
-/
import Derived.Test.YtobflgpaijdcaaaDoorPackBackW
namespace Go.Proofs.YtobflgpaijdcaaaDoor
open Go Go.RowKit

theorem i64_nat (a : Nat) (ha : a < 9223372036854775808) : (BitVec.ofInt 64 (a : Int)).toNat = a := by
  rw [BitVec.ofInt_natCast, BitVec.toNat_ofNat]; exact Nat.mod_eq_of_lt (by omega)
theorem and_low (a : Int) (m : Nat) (hm : m ≤ 65535) : ∃ k : Nat, k ≤ m ∧ bits .and .i64 a (m : Int) = (k : Int) := by
  have h : (BitVec.ofInt 64 a &&& BitVec.ofInt 64 (m : Int)).toNat ≤ m := by rw [BitVec.toNat_and, i64_nat m (by omega)]; exact Nat.and_le_right
  refine ⟨_, h, ?_⟩
  show IntKind.i64.wrap (((BitVec.ofInt 64 a &&& BitVec.ofInt 64 (m : Int)).toNat : Nat) : Int) = _
  generalize (BitVec.ofInt 64 a &&& BitVec.ofInt 64 (m : Int)).toNat = q at h ⊢
  exact IntWalk.i64_in _ (by omega)
theorem plen_as {w : World} {base g : Nat} {s : PS} {n : Int} (h : PutS base w g s) (e : (s.1.length : Int) = n) : Calls Tryd.prog 39 #[ptr g] w fun e w' => e = .returned (.int .i64 n) ∧ w' = w := by
  subst e; exact plen_s base g s w h
theorem putInt_ok (v : Int) (l : List UInt8) : putInt v (l, 0) = (l ++ lowB (u64 v) 8, 0) := by unfold putInt; simp only [if_true]
theorem putSmall_nat (n k : Nat) (l : List UInt8) (h : k < 256 ^ n) : putSmall n (k : Int) (l, 0) = (l ++ lowB k n, 0) := by
  have h2 : ((256 ^ n : Nat) : Int) = (256 : Int) ^ n := by simp
  have := putSmall_ok n (k : Int) l (by omega) (by omega)
  simpa using this
theorem putSmall_bad (n : Nat) (v : Int) (l : List UInt8) (e : Int) (h : e ≠ 0) : putSmall n v (l, e) = (l, e) := by unfold putSmall; simp only [if_neg h]

set_option maxRecDepth 100000 in
set_option maxHeartbeats 1000000 in
theorem packsizes_good (a v : Int) (n : Nat) (w : World) (ht : PowIs w) (hn : n ≤ 70000) :
    Calls Tryd.prog 7 #[.int .i64 a, .int .i64 v, .int .i64 n] w fun e w' => e = .returned (.bool true) ∧ Below w.heap.size w w' := by
  obtain ⟨i0, hi, hz0, hz1, hz2⟩ := info_parts u8info
  obtain ⟨ka, ha, ea⟩ := and_low a 255 (by omega)
  obtain ⟨kb, hb, eb⟩ := and_low a 65535 (by omega)
  replace ea : bits .and .i64 a 255 = (ka : Int) := ea
  replace eb : bits .and .i64 a 65535 = (kb : Int) := eb
  have Q1 := Lib.hid (putInt_ok v [])
  have Q2 := fun l => putSmall_nat 1 ka l (by omega)
  have Q3 := fun l => putSmall_nat 2 kb l (by omega)
  have Q4 := fun l => putSmall_nat 4 kb l (by omega)
  have l1 := lowB_len (u64 v) 8
  have l2 := lowB_len ka 1
  have l3 := lowB_len kb 2
  have l4 := lowB_len kb 4
  generalize lowB (u64 v) 8 = x1 at *
  generalize lowB ka 1 = x2 at *
  generalize lowB kb 2 = x3 at *
  generalize lowB kb 4 = x4 at *
  have E2 := Lib.hid (Q2 ([] ++ x1))
  have E3 := Lib.hid (Q3 ([] ++ x1 ++ x2))
  have E4 := Lib.hid (Q4 ([] ++ x1 ++ x2 ++ x3))
  have L1 : Hid ((([] ++ x1 : List UInt8).length : Int) = 8) := by unfold Hid; simp [l1]
  have L2 : Hid ((([] ++ x1 ++ x2 : List UInt8).length : Int) = 9) := by unfold Hid; simp [l1, l2]
  have L3 : Hid ((([] ++ x1 ++ x2 ++ x3 : List UInt8).length : Int) = 11) := by unfold Hid; simp [l1, l2, l3]
  have L4 : Hid ((([] ++ x1 ++ x2 ++ x3 ++ x4 : List UInt8).length : Int) = 15) := by unfold Hid; simp [l1, l2, l3, l4]
  clear Q2 Q3 Q4 l1 l2 l3 l4
  generalize [] ++ x1 ++ x2 ++ x3 ++ x4 = y4 at *
  have hzl : (zerosL n).length = n := by simp [zerosL]
  obtain ⟨M, hM⟩ : ∃ M, M = madeCells (Value.int .u8 0).cells (((n : Nat) : Int).toNat * i0.size) := ⟨_, rfl⟩
  have hMr : M.toList = u8s (zerosL n) := by
    rw [hM, hz1]; simp [madeCells, zerosL, u8s, Value.cells, Nat.mod_one, List.map_const']
  have hmk : ∀ W : World, (Instr.makeSlice 40 (.int .i64 (n : Int)) (.int .i64 (n : Int))).run Tryd.prog W = .ok (.slice (some ⟨W.heap.size, 0, none⟩) n n) (W.alloc (.cells M 5)) := fun W => by
    have h := run_make (P := Tryd.prog) W 40 5 i0 (.int .u8 0) Tryd.underlying40 hi hz0 .i64 .i64 (n : Int) (n : Int) (by omega) (by omega) (by rw [hz2]; omega) (by omega)
    rw [← hM] at h
    simpa using h
  have HR : Hid (∀ (W : World) (g : Nat), g = W.heap.size → Rd (W.alloc (.cells M 5)) (some ⟨g, 0, none⟩) (u8s (zerosL n))) := by
    intro W g hg
    have := Rd.new W M 5
    rw [hMr] at this
    rw [hg]; exact this
  clear hM hMr
  have HZ := Lib.hid hzl
  have HT := Lib.hid ht
  clear ht hzl
  have hn' : (n : Int) ≤ 70000 := by omega
  by_cases h5 : 65535 < n
  · have h5' : (65535 : Int) < n := by omega
    have E5 : Hid (putText (bts (bs (zerosL n))) (y4, 0) = (y4, 2)) := by unfold Hid putText; rw [bts_bs]; simp only [if_true]; rw [if_pos (by rw [HZ.out]; exact h5)]
    have E6 : Hid (putSmall 1 1 (y4, 2) = (y4, 2)) := Lib.hid (putSmall_bad 1 1 y4 2 (by decide))
    have E7 : Hid (endP (y4, 2) = (bts ⟨#[]⟩, 2)) := by unfold Hid; rfl
    clear h5 hn
    go_enter Tryd.func7, Tryd.ntmps7
    go_wp2_with (first
      | (go_at_call 13; refine (alive1_any _ HT.out).mono ?_; rintro e wa ⟨rfl, ba⟩; have P0 := new_put wa; have B0 : Below w.heap.size w (wa.alloc (.cells #[.slice none 0 0, .int .i64 0] 42)) := ba.alloc ba.size _; have P1 := P0.below ((Below.refl _ _).alloc (Nat.le_refl _) (.cells M 5)); have B1 := B0.alloc B0.size (.cells M 5))
      | (refine wpList_bytes_str rfl 40 9 (.tmp 27) rfl 5 Tryd.underlying40 Tryd.underlying5 Tryd.underlying9 _ n n (zerosL n) rfl (HR.out _ _ (by simp)) HZ.out ?_)
      | (go_at_call 31; refine (ps_as (pint_s _ _ _ _ _ P1 (by decide)) Q1.out).mono ?_; rintro e w1 ⟨rfl, P2, d1⟩; have B2 := B1.trans (d1.mono ba.size))
      | (go_at_call 39; with_reducible refine (plen_as P2 L1.out).mono ?_; rintro e wl ⟨rfl, hwl⟩; subst hwl; clear P1)
      | (go_at_call 29; with_reducible refine (ps_as (pbyte_s _ _ _ _ _ P2 (by have := L1.out; dsimp only; omega)) E2.out).mono ?_; rintro e w2 ⟨rfl, P3, d2⟩; have B3 := B2.trans (d2.mono ba.size); clear P2)
      | (go_at_call 39; with_reducible refine (plen_as P3 L2.out).mono ?_; rintro e wl ⟨rfl, hwl⟩; subst hwl)
      | (go_at_call 36; with_reducible refine (ps_as (phalf_s _ _ _ _ _ P3 (by have := L2.out; dsimp only; omega)) E3.out).mono ?_; rintro e w3 ⟨rfl, P4, d3⟩; have B4 := B3.trans (d3.mono ba.size); clear P3)
      | (go_at_call 39; with_reducible refine (plen_as P4 L3.out).mono ?_; rintro e wl ⟨rfl, hwl⟩; subst hwl)
      | (go_at_call 33; with_reducible refine (ps_as (pword_s _ _ _ _ _ P4 (by have := L3.out; dsimp only; omega)) E4.out).mono ?_; rintro e w4 ⟨rfl, P5, d4⟩; have B5 := B4.trans (d4.mono ba.size); clear P4)
      | (go_at_call 39; with_reducible refine (plen_as P5 L4.out).mono ?_; rintro e wl ⟨rfl, hwl⟩; subst hwl)
      | (go_at_call 30; with_reducible refine (ps_as (ptext_s _ _ _ _ _ P5 (by have := L4.out; have := HZ.out; rw [bs_size]; dsimp only; omega)) E5.out).mono ?_; rintro e w5 ⟨rfl, P6, d5⟩; have B6 := B5.trans (d5.mono ba.size))
      | (go_at_call 29; with_reducible refine (ps_as (pbyte_s _ _ _ _ _ P6 (by have := L4.out; dsimp only; omega)) E6.out).mono ?_; rintro e w6 ⟨rfl, P7, d6⟩; have B7 := B6.trans (d6.mono ba.size))
      | (go_at_call 32; with_reducible refine (end_as (pend_s _ _ _ _ P7) E7.out).mono ?_; rintro e w7 ⟨rfl, n7, h7⟩; have B8 : Below w.heap.size w w7 := h7 ▸ below_drewN B7 n7; clear h7))
    go_ret
    exact ⟨rfl, B8⟩
  · have h5' : (n : Int) ≤ 65535 := by omega
    obtain ⟨X, hX⟩ : ∃ X, X = bs (y4 ++ (lowB n 2 ++ zerosL n) ++ [120]) := ⟨_, rfl⟩
    have hXb : bts X = y4 ++ (lowB n 2 ++ zerosL n) ++ [120] := by rw [hX]; rfl
    have hXs : X.size = 17 + n + 1 := by rw [← bts_len, hXb]; simp [lowB_len]; have := L4.out; have := HZ.out; omega
    have hXl : X[17 + n]'(by omega) = 120 := by
      have hL : (y4 ++ (lowB n 2 ++ zerosL n)).length = 17 + n := by simp [lowB_len]; have := L4.out; have := HZ.out; omega
      have h1 : (bts X)[17 + n]? = some 120 := by rw [hXb, List.getElem?_append_right (by omega), hL]; simp
      obtain ⟨_, h3⟩ := List.getElem?_eq_some_iff.1 h1
      exact h3
    have E5 : Hid (putText (bts (bs (zerosL n))) (y4, 0) = (y4 ++ (lowB n 2 ++ zerosL n), 0)) := by
      have := putText_ok (zerosL n) y4 (by have := HZ.out; omega)
      rw [HZ.out] at this
      exact this
    have E6 : Hid (putRaw (bts ⟨#[120]⟩) (y4 ++ (lowB n 2 ++ zerosL n), 0) = (bts X, 0)) := by unfold Hid putRaw; simp only [if_true]; rw [hXb]; rfl
    have E7 : Hid (endP (bts X, 0) = (bts X, 0)) := by unfold Hid endP; simp only [if_true]
    have L5 : Hid ((y4 ++ (lowB n 2 ++ zerosL n)).length ≤ 70000) := by unfold Hid; simp [lowB_len]; have := L4.out; have := HZ.out; omega
    have HXs := Lib.hid hXs
    clear hn h5 hX hXb
    go_enter Tryd.func7, Tryd.ntmps7
    go_wp2_with (first
      | (go_at_call 13; refine (alive1_any _ HT.out).mono ?_; rintro e wa ⟨rfl, ba⟩; have P0 := new_put wa; have B0 : Below w.heap.size w (wa.alloc (.cells #[.slice none 0 0, .int .i64 0] 42)) := ba.alloc ba.size _; have P1 := P0.below ((Below.refl _ _).alloc (Nat.le_refl _) (.cells M 5)); have B1 := B0.alloc B0.size (.cells M 5))
      | (refine wpList_bytes_str rfl 40 9 (.tmp 27) rfl 5 Tryd.underlying40 Tryd.underlying5 Tryd.underlying9 _ n n (zerosL n) rfl (HR.out _ _ (by simp)) HZ.out ?_)
      | (go_at_call 31; refine (ps_as (pint_s _ _ _ _ _ P1 (by decide)) Q1.out).mono ?_; rintro e w1 ⟨rfl, P2, d1⟩; have B2 := B1.trans (d1.mono ba.size))
      | (go_at_call 39; with_reducible refine (plen_as P2 L1.out).mono ?_; rintro e wl ⟨rfl, hwl⟩; subst hwl; clear P1)
      | (go_at_call 29; with_reducible refine (ps_as (pbyte_s _ _ _ _ _ P2 (by have := L1.out; dsimp only; omega)) E2.out).mono ?_; rintro e w2 ⟨rfl, P3, d2⟩; have B3 := B2.trans (d2.mono ba.size); clear P2)
      | (go_at_call 39; with_reducible refine (plen_as P3 L2.out).mono ?_; rintro e wl ⟨rfl, hwl⟩; subst hwl)
      | (go_at_call 36; with_reducible refine (ps_as (phalf_s _ _ _ _ _ P3 (by have := L2.out; dsimp only; omega)) E3.out).mono ?_; rintro e w3 ⟨rfl, P4, d3⟩; have B4 := B3.trans (d3.mono ba.size); clear P3)
      | (go_at_call 39; with_reducible refine (plen_as P4 L3.out).mono ?_; rintro e wl ⟨rfl, hwl⟩; subst hwl)
      | (go_at_call 33; with_reducible refine (ps_as (pword_s _ _ _ _ _ P4 (by have := L3.out; dsimp only; omega)) E4.out).mono ?_; rintro e w4 ⟨rfl, P5, d4⟩; have B5 := B4.trans (d4.mono ba.size); clear P4)
      | (go_at_call 39; with_reducible refine (plen_as P5 L4.out).mono ?_; rintro e wl ⟨rfl, hwl⟩; subst hwl)
      | (go_at_call 30; with_reducible refine (ps_as (ptext_s _ _ _ _ _ P5 (by have := L4.out; have := HZ.out; rw [bs_size]; dsimp only; omega)) E5.out).mono ?_; rintro e w5 ⟨rfl, P6, d5⟩; have B6 := B5.trans (d5.mono ba.size))
      | (go_at_call 34; with_reducible refine (ps_as (praw_s _ _ _ _ _ P6 (by have := L5.out; dsimp only; rw [show ByteArray.size ⟨#[120]⟩ = 1 from rfl]; omega)) E6.out).mono ?_; rintro e w6 ⟨rfl, P7, d6⟩; have B7 := B6.trans (d6.mono ba.size))
      | (go_at_call 32; with_reducible refine (end_as (pend_s _ _ _ _ P7) E7.out).mono ?_; rintro e w7 ⟨rfl, n7, h7⟩; have B8 : Below w.heap.size w w7 := h7 ▸ below_drewN B7 n7; clear h7))
    go_ret
    exact ⟨rfl, B8⟩

theorem packsizes_walk (a v n : Int) (w : World) (ht : PowIs w) :
    Calls Tryd.prog 7 #[.int .i64 a, .int .i64 v, .int .i64 n] w fun e w' => e = .returned (.bool true) ∧ Below w.heap.size w w' := by
  by_cases hc : 0 ≤ n ∧ n ≤ 70000
  · obtain ⟨m, rfl⟩ := Int.eq_ofNat_of_zero_le hc.1
    exact packsizes_good a v m w ht (by omega)
  · have hcs : n < 0 ∨ (0 ≤ n ∧ 70000 < n) := by omega
    clear hc
    rcases hcs with h | ⟨h0, h⟩
    all_goals
      go_enter Tryd.func7, Tryd.ntmps7
      go_wp2_with (go_at_call 13; refine (alive1_any _ ht).mono ?_; rintro e wa ⟨rfl, ba⟩)
      go_ret
      exact ⟨rfl, ba⟩
end Go.Proofs.YtobflgpaijdcaaaDoor
