/-
  FreeWaits: it is true. Condition: ids that can be read.
-/
import Derived.Test.YtfgihfhpnhedkaaFreeWaitsP
namespace Go.Proofs.Ytfgihfhpnhedkaa
open Go Go.RowKit
attribute [local go_sem] cell_set_if

theorem fpend_of {base g : Nat} {s : Fs} {tx : Int} {v1 v2 : Value} {pl : List Int} {k : Nat} (hpl : pendS s tx = pl) (hk : pl.length = k) (hok : s.ok) (w : World) (h : FreeAt w base g s v1 v2) :
    Calls Try.prog 13 #[.pointer (some ⟨g, 0, none⟩), .int .i64 tx] w fun e w' => (∃ A c, e = .returned (.slice A k c) ∧ w'.ownsRow w.heap.size 3 1 (.slice A k c) k (flatZ pl)) ∧ Below w.heap.size w w' := by
  subst hk hpl
  exact (fpend_any base g s tx v1 v2 w h hok.len.2.1).mono fun e w' ⟨h1, h2⟩ => ⟨h1, h2⟩
theorem fpend_len {base g : Nat} {s : Fs} {tx : Int} {v1 v2 : Value} {k : Nat} (hk : (pendS s tx).length = k) (hok : s.ok) (w : World) (h : FreeAt w base g s v1 v2) :
    Calls Try.prog 13 #[.pointer (some ⟨g, 0, none⟩), .int .i64 tx] w fun e w' => (∃ A c, e = .returned (.slice A k c)) ∧ Below w.heap.size w w' := by
  subst hk
  exact (fpend_any base g s tx v1 v2 w h hok.len.2.1).mono fun e w' ⟨⟨A, c, h1, _⟩, h2⟩ => ⟨⟨A, c, h1⟩, h2⟩
theorem ffree_len {base g : Nat} {s : Fs} {v1 v2 : Value} {k : Nat} (hk : s.fr.length = k) (hok : s.ok) (w : World) (h : FreeAt w base g s v1 v2) :
    Calls Try.prog 17 #[.pointer (some ⟨g, 0, none⟩)] w fun e w' => (∃ A c, e = .returned (.slice A k c)) ∧ Below w.heap.size w w' := by
  subst hk
  exact (ffree_any base g s v1 v2 w h hok.len.1).mono fun e w' ⟨⟨A, c, h1, _⟩, h2⟩ => ⟨⟨A, c, h1⟩, h2⟩
theorem fpages_of {base g : Nat} {s : Fs} {v1 v2 : Value} {p : Int} (hp : s.pages = p) (w : World) (h : FreeAt w base g s v1 v2) :
    Calls Try.prog 11 #[.pointer (some ⟨g, 0, none⟩)] w fun e w' => e = .returned (.int .i64 p) ∧ w' = w := by
  subst hp
  exact fpages_any base g s v1 v2 w h
theorem fnew_of (pages : Int) (h0 : 2 ≤ pages) (h1 : pages ≤ 4000) (w : World) :
    Calls Try.prog 15 #[.int .i64 pages] w fun e w' => e = .returned (.pointer (some ⟨w.heap.size, 0, none⟩)) ∧ FreeAt w' w.heap.size w.heap.size ⟨pages, [], []⟩ (.slice none 0 0) (.slice none 0 0) ∧ Below w.heap.size w w' := by
  have h := fnew_any pages w
  rw [show min (max pages 2) 4000 = pages by omega] at h
  exact h
set_option maxRecDepth 100000 in
set_option maxHeartbeats 8000000 in
theorem freewaits_walk (A : Option Addr) (n c : Nat) (pages tx nn : Int) (ids : List Int) (w : World) (hr : Rd w A (flatZ ids)) (hn : ids.length = n) :
    Calls Try.prog 4 #[.int .i64 pages, .slice A n c, .int .i64 tx, .int .i64 nn] w fun e w' => e = .returned (.bool true) ∧ Below w.heap.size w w' := by
  by_cases hbad : 100 < n ∨ pages < 2 ∨ 1000 < pages ∨ tx < 0 ∨ 1099511627776 < tx ∨ nn < 1 ∨ 20 < nn
  · have hc : 100 < (n : Int) ∨ ((n : Int) ≤ 100 ∧ pages < 2) ∨ ((n : Int) ≤ 100 ∧ 2 ≤ pages ∧ 1000 < pages) ∨ ((n : Int) ≤ 100 ∧ 2 ≤ pages ∧ pages ≤ 1000 ∧ tx < 0) ∨ ((n : Int) ≤ 100 ∧ 2 ≤ pages ∧ pages ≤ 1000 ∧ 0 ≤ tx ∧ 1099511627776 < tx) ∨
        ((n : Int) ≤ 100 ∧ 2 ≤ pages ∧ pages ≤ 1000 ∧ 0 ≤ tx ∧ tx ≤ 1099511627776 ∧ nn < 1) ∨ ((n : Int) ≤ 100 ∧ 2 ≤ pages ∧ pages ≤ 1000 ∧ 0 ≤ tx ∧ tx ≤ 1099511627776 ∧ 1 ≤ nn ∧ 20 < nn) := by omega
    clear hbad hr hn
    rcases hc with h1 | ⟨h1, h2⟩ | ⟨h1, h2, h3⟩ | ⟨h1, h2, h3, h4⟩ | ⟨h1, h2, h3, h4, h5⟩ | ⟨h1, h2, h3, h4, h5, h6⟩ | ⟨h1, h2, h3, h4, h5, h6, h7⟩
    all_goals
      go_enter Try.func4, Try.ntmps4
      go_wp2_with (go_at_call 6; refine (alive7_any _).mono ?_; rintro e w1 ⟨rfl, b1⟩)
      go_ret
      exact ⟨rfl, b1⟩
  obtain ⟨m, rfl⟩ : ∃ m : Nat, nn = (m : Int) := ⟨nn.toNat, by omega⟩
  have d1 : (n : Int) ≤ 100 := by omega
  have d2 : 2 ≤ pages := by omega
  have d3 : pages ≤ 1000 := by omega
  have d4 : 0 ≤ tx := by omega
  have d5 : tx ≤ 1099511627776 := by omega
  have d6 : 1 ≤ (m : Int) := by omega
  have d7 : (m : Int) ≤ 20 := by omega
  obtain ⟨s1, k, pl, s2, s3, hV⟩ := waits_facts (tx := tx) (ids := ids) d2 d3 (nn := m) (by omega) (by omega)
  have hk : (k : Int) ≤ 100 := by have := hV.le; omega
  have HV := Lib.hid hV
  have HR := Lib.hid hr
  have HN := Lib.hid hn
  have hd1 : decide (100 < (n : Int)) = false := decide_eq_false (by omega)
  have hd2 : decide (pages < 2) = false := decide_eq_false (by omega)
  have hd3 : decide (1000 < pages) = false := decide_eq_false (by omega)
  have hd4' : decide (tx < 0) = false := decide_eq_false (by omega)
  have hd5' : decide (1099511627776 < tx) = false := decide_eq_false (by omega)
  have hd6 : decide ((m : Int) < 1) = false := decide_eq_false (by omega)
  have hd7 : decide (20 < (m : Int)) = false := decide_eq_false (by omega)
  clear hbad hr hn hV
  go_enter Try.func4, Try.ntmps4
  go_wp2_with (first
    | (go_at_call 6; refine (alive7_any _).mono ?_; rintro e w0 ⟨rfl, b0⟩; have R0 := HR.out.below b0)
    | (go_at_call 15; go_loud (
       refine (fnew_of pages d2 (by omega) _).mono ?_
       rintro e w1 ⟨rfl, F1, b1⟩
       have R1 := R0.below b1
       have hA1 : 0 < n → ∀ a, A = some a → ¬ mineF w0.heap.size (.slice none 0 0) (.slice none 0 0) a.block := fun hn0 a ha hm => by
         obtain ⟨bb, oo, e1, e2, _⟩ := R0.flat (by rw [flatZ_len, HN.out]; omega)
         rw [e1] at ha
         obtain rfl := Option.some.inj ha
         have := (F1.mine_lt _ hm).1
         simp only at this
         omega
       have hg := fgive_any _ _ _ tx _ _ w1 F1 (ok_load d2 (by omega) List.Pairwise.nil (by simp)) A n c ids R1 HN.out (by omega) hA1 b1.size
       rw [HV.out.give] at hg
       have HG := Lib.hid hg
       clear hg))
    | (go_at_call 12; refine HG.out.mono ?_; rintro e w2 ⟨rfl, v2', F2, T2⟩
       have X2 := b1.trans (F1.turn_below T2 b1.size))
    | (go_at_call 13; refine (fpend_of HV.out.pe1 HV.out.len HV.out.ok1 _ F2).mono ?_; rintro e w3 ⟨⟨Ap, cp, rfl, op⟩, b3⟩
       have F3 := F2.below b3
       have X3 := X2.trans (b3.mono X2.size))
    | (go_at_call 16; refine (fcopy_any _ _ _ _ _ _ F3 HV.out.ok1.len.1 HV.out.ok1.len.2.1).mono ?_; rintro e w4 ⟨⟨gc, u1, u2, rfl, C4⟩, b4⟩
       have F4 := F3.below b4
       have X4 := X3.trans (b4.mono X3.size)
       have op4 := own_frm op (Frm.of_below (S := no) b4) (fun _ _ h => h)
       have hd4 : ∀ q, mineF w0.heap.size (.slice none 0 0) v2' q → ¬ mineF gc u1 u2 q := fun q h1 h2 => by have := (F3.mine_lt q h1).2; have := (C4.mine_lt q h2).1; omega
       have hp4 : ∀ q, mineF w0.heap.size (.slice none 0 0) v2' q → q < w2.heap.size := fun q h1 => (F2.mine_lt q h1).2
       have ht := ftake_any _ _ _ (m : Int) _ _ w4 F4 HV.out.ok1
       have HT := Lib.hid ht
       clear ht)
    | (go_at_call 8; refine HT.out.mono ?_; rintro e w5 ⟨he, x1, x2, F5, T5⟩
       rw [HV.out.take] at he F5
       subst he
       have X5 := X4.trans (F4.turn_below T5 X4.size)
       obtain ⟨C5, hd5⟩ := turn_far F4 C4 T5 hd4
       have op5 := row_far hp4 T5 op4 F4)
    | (go_at_call 17; refine (ffree_len HV.out.f2 HV.out.ok2 _ F5).mono ?_; rintro e w6 ⟨⟨Af, cf, rfl⟩, b6⟩
       have F6 := F5.below b6
       have C6 := C5.below b6
       have X6 := X5.trans (b6.mono X5.size)
       have op6 := Rd.of_own (own_frm op5 (Frm.of_below (S := no) b6) (fun _ _ h => h))))
  go_loopw [15] (fun u15 wr => ∃ i : Nat, i ≤ m ∧ u15 = .int .i64 i ∧ wr = w6) (fun u15 _ => m - (intOf u15).toNat)
  case atStart => exact ⟨0, by omega, rfl, rfl⟩
  case round =>
    obtain ⟨i, him, rfl, rfl⟩ := hrel
    by_cases hlt : i < m
    · have hii : (i : Int) < (m : Int) := by omega
      have hno : decide (pages + (i : Int) ∈ pl) = false := decide_eq_false fun hm => by have := HV.out.small _ hm; omega
      have hIn := in_ints Ap k cp pl (pages + (i : Int)) wr op6 HV.out.len (by omega)
      rw [hno] at hIn
      have HIN := Lib.hid hIn
      clear hno hIn
      go_wp2_with (go_at_call 9; refine HIN.out.mono ?_; rintro e w7 ⟨rfl, hw7⟩; obtain rfl : wr = w7 := hw7.symm)
      go_roundw
      case rel => exact ⟨i + 1, by omega, by go_num, by first | rfl | trivial⟩
      case measure => simp [intOf]; omega
    · obtain rfl : m = i := by omega
      have hr7 := frel_any _ _ _ (tx + 1) _ _ wr C6 HV.out.ok1 (by have := (C6.mine_lt gc (.inl rfl)); omega)
      rw [HV.out.rel] at hr7
      have HR7 := Lib.hid hr7
      have hd6' : ∀ q, mineF gc u1 u2 q → ¬ mineF w0.heap.size x1 x2 q := fun q h1 h2 => hd5 q h2 h1
      have HD6 := Lib.hid hd6'
      have htx : tx + 1 ≤ 1099511627777 := by omega
      clear hr7 hd6' hlt
      go_wp2_with (first
        | (go_at_call 14; refine HR7.out.mono ?_; rintro e w7 ⟨rfl, y1, y2, C7, T7⟩
           have X7 := X6.trans ((C6.turn_below T7 (Nat.le_of_lt (Nat.lt_of_le_of_lt (C6.mine_lt gc (.inl rfl)).1 (C6.mine_lt gc (.inl rfl)).2))).mono X3.size)
           obtain ⟨F7, hd7'⟩ := turn_far C6 F6 T7 HD6.out)
        | (go_at_call 17; with_reducible refine (ffree_len HV.out.f3 HV.out.ok3 _ C7).mono ?_; rintro e w8 ⟨⟨A8, c8, rfl⟩, b8⟩
           have F8 := F7.below b8
           have C8 := C7.below b8
           have X8 := X7.trans (b8.mono X7.size))
        | (go_at_call 13; with_reducible refine (fpend_of HV.out.pe2 HV.out.len HV.out.ok2 _ F9).mono ?_; rintro e w10 ⟨⟨A10, c10, rfl, _⟩, b10⟩
           have C10 := C9.below b10
           have X10 := X9.trans (b10.mono X9.size))
        | (go_at_call 13; with_reducible refine (fpend_len HV.out.pe3 HV.out.ok3 _ C8).mono ?_; rintro e w9 ⟨⟨A9, c9, rfl⟩, b9⟩
           have F9 := F8.below b9
           have C9 := C8.below b9
           have X9 := X8.trans (b9.mono X8.size))
        | (go_at_call 11; with_reducible refine (fpages_of HV.out.g3 _ C10).mono ?_; rintro e w11 ⟨rfl, hw11⟩; obtain rfl : w10 = w11 := hw11.symm))
      go_ret
      exact ⟨rfl, b0.trans (X10.mono b0.size)⟩
end Go.Proofs.Ytfgihfhpnhedkaa
