/-
  FreeRuns: it is true. Condition: a list that can be read.
-/
import Derived.Test.YtfgihfhpnhedkaaFreeRunsP
import Derived.Test.YtfgihfhpnhedkaaFreeWaitsW
namespace Go.Proofs.Ytfgihfhpnhedkaa
open Go Go.RowKit
attribute [local go_sem] cell_set_if

theorem fall_of {base g : Nat} {s : Fs} {v1 v2 : Value} {L : List Int} {k : Nat} (hL : allS s = L) (hk : L.length = k) (hok : s.ok) (w : World) (h : FreeAt w base g s v1 v2) :
    Calls Try.prog 10 #[.pointer (some ⟨g, 0, none⟩)] w fun e w' => (∃ A c, e = .returned (.slice A k c) ∧ Rd w' A (flatZ L)) ∧ Below w.heap.size w w' := by
  subst hk hL
  exact (fall_any base g s v1 v2 w h hok.len.1 hok.len.2.1).mono fun e w' ⟨⟨A, c, h1, h3⟩, h2⟩ => ⟨⟨A, c, h1, Rd.of_own h3⟩, h2⟩
theorem allS_len {s : Fs} (h : s.ok) : (allS s).length ≤ 4000 := by
  unfold allS idsP; rw [sortZ_len, List.length_append, List.length_map]; exact h.len.2.2
theorem frel_of {base g k : Nat} {s s' : Fs} {b : Int} {v1 v2 : Value} (hrel : relS s b = (s', k)) (hok : s.ok) (w : World) (h : FreeAt w base g s v1 v2) :
    Calls Try.prog 14 #[.pointer (some ⟨g, 0, none⟩), .int .i64 b] w fun e w' => e = .returned (.int .i64 (k : Nat)) ∧ ∃ v1' v2', FreeAt w' base g s' v1' v2' ∧ TurnF g v1 v2 w v1' v2' w' := by
  have := frel_any base g s b v1 v2 w h hok (by have := h.mine_lt g (.inl rfl); omega)
  rw [hrel] at this
  exact this
theorem ftake_of {base g : Nat} {s s' : Fs} {n a f : Int} {v1 v2 : Value} (ht : takeS s n = ((a, f), s')) (hok : s.ok) (w : World) (h : FreeAt w base g s v1 v2) :
    Calls Try.prog 8 #[.pointer (some ⟨g, 0, none⟩), .int .i64 n] w fun e w' => e = .returned (.tuple #[.int .i64 a, .int .i64 f]) ∧ ∃ v1' v2', FreeAt w' base g s' v1' v2' ∧ TurnF g v1 v2 w v1' v2' w' := by
  have := ftake_any base g s n v1 v2 w h hok
  unfold TookF at this
  rw [ht] at this
  exact this
set_option maxRecDepth 100000 in
set_option maxHeartbeats 8000000 in
theorem freeruns_walk (A : Option Addr) (n c : Nat) (pages nn tx : Int) (load : List Int) (w : World) (hr : Rd w A (flatZ load)) (hn : load.length = n) :
    Calls Try.prog 3 #[.int .i64 pages, .int .i64 nn, .int .i64 tx, .slice A n c] w fun e w' => e = .returned (.bool true) ∧ Below w.heap.size w w' := by
  have HR := Lib.hid hr
  have HN := Lib.hid hn
  by_cases hbad : 200 < n ∨ nn < 1 ∨ 20 < nn ∨ tx < 0 ∨ 1099511627776 < tx
  · have hc : 200 < (n : Int) ∨ ((n : Int) ≤ 200 ∧ nn < 1) ∨ ((n : Int) ≤ 200 ∧ 1 ≤ nn ∧ 20 < nn) ∨ ((n : Int) ≤ 200 ∧ 1 ≤ nn ∧ nn ≤ 20 ∧ tx < 0) ∨ ((n : Int) ≤ 200 ∧ 1 ≤ nn ∧ nn ≤ 20 ∧ 0 ≤ tx ∧ 1099511627776 < tx) := by omega
    clear hbad hr hn
    rcases hc with h1 | ⟨h1, h2⟩ | ⟨h1, h2, h3⟩ | ⟨h1, h2, h3, h4⟩ | ⟨h1, h2, h3, h4, h5⟩
    all_goals
      go_enter Try.func3, Try.ntmps3
      go_wp2_with (go_at_call 6; refine (alive7_any _).mono ?_; rintro e w1 ⟨rfl, b1⟩)
      go_ret
      exact ⟨rfl, b1⟩
  obtain ⟨m, rfl⟩ : ∃ m : Nat, nn = (m : Int) := ⟨nn.toNat, by omega⟩
  have d1 : (n : Int) ≤ 200 := by omega
  have d4 : 0 ≤ tx := by omega
  have d5 : tx ≤ 1099511627776 := by omega
  have d6 : 1 ≤ (m : Int) := by omega
  have d7 : (m : Int) ≤ 20 := by omega
  have hd1 : decide (200 < (n : Int)) = false := decide_eq_false (by omega)
  have hd4' : decide (tx < 0) = false := decide_eq_false (by omega)
  have hd5' : decide (1099511627776 < tx) = false := decide_eq_false (by omega)
  have hd6 : decide ((m : Int) < 1) = false := decide_eq_false (by omega)
  have hd7 : decide (20 < (m : Int)) = false := decide_eq_false (by omega)
  have hri := rises_any pages A n c load w hr hn (by omega)
  clear hbad hr hn
  cases hb : riseB pages load
  · rw [hb] at hri
    have HRI := Lib.hid hri
    clear hri hb
    go_enter Try.func3, Try.ntmps3
    go_wp2_with (first
      | (go_at_call 5; refine HRI.out.mono ?_; rintro e w0 ⟨rfl, q0⟩; have b0 := q0.below w.heap.size)
      | (go_at_call 6; refine (alive7_any _).mono ?_; rintro e w1 ⟨rfl, b1⟩))
    go_ret
    exact ⟨rfl, b0.trans (b1.mono b0.size)⟩
  · rw [hb] at hri
    have HRI := Lib.hid hri
    obtain ⟨p0, p1, hup, hrg⟩ := riseB_iff.1 hb
    have hok0 := ok_load p0 p1 hup hrg
    have HOK := Lib.hid hok0
    have HRB := Lib.hid hb
    clear hri hb hup hrg hok0
    obtain ⟨a, f, s1, ht⟩ : ∃ a f s1, takeS ⟨pages, load, []⟩ (m : Int) = ((a, f), s1) := ⟨_, _, _, rfl⟩
    have HT := Lib.hid ht
    clear ht
    by_cases hf : f = 0
    · obtain ⟨s2, s3, s4, b, s5, hV⟩ := runs_facts (tx := tx) HOK.out (by omega) (by omega) HT.out hf
      subst hf
      have HV := Lib.hid hV
      clear hV
      have a0 := HV.out.a0
      have a1 := HV.out.a1
      go_enter Try.func3, Try.ntmps3
      go_wp2_with (first
        | (go_at_call 5; refine HRI.out.mono ?_; rintro e w0 ⟨rfl, q0⟩; have b0 := q0.below w.heap.size)
        | (go_at_call 6; refine (alive7_any _).mono ?_; rintro e w1 ⟨rfl, b1⟩
           have X1 := b0.trans (b1.mono b0.size)
           have hL := fload_any pages A n c load w1 (HR.out.below X1) HN.out (by omega)
           have HL := Lib.hid hL
           clear hL)
        | (go_at_call 7; refine HL.out.mono ?_; rintro e w2 ⟨hh, b2⟩
           obtain ⟨g, v1, rfl, F2⟩ : ∃ g v1, e = .returned (.tuple #[.pointer (some ⟨g, 0, none⟩), .int .i64 0]) ∧ FreeAt w2 w1.heap.size g ⟨pages, load, []⟩ v1 (.slice none 0 0) := by
             rcases hh with ⟨_, h⟩ | ⟨h, _⟩
             · exact h
             · rw [HRB.out] at h; cases h
           clear hh
           have X2 := X1.trans (b2.mono X1.size)
           have ht := ftake_any _ _ _ (m : Int) _ _ w2 F2 HOK.out
           have HTK := Lib.hid ht
           clear ht)
        | (go_at_call 8; refine HTK.out.mono ?_; rintro e w3 ⟨he, x1, x2, F3, T3⟩
           rw [HT.out] at he F3
           subst he
           have X3 := X2.trans ((F2.turn_below T3 b2.size).mono X1.size)))
      obtain ⟨i0, hi0, hz0, hz1, hz2⟩ := info_parts zinfo
      go_loopw [13, 14] (fun u13 u14 wr => ∃ i : Nat, i ≤ m ∧ u14 = .int .i64 i ∧ Hid (wr.ownsRow w3.heap.size 3 1 u13 i (flatZ (upFrom a i))) ∧ Hid (Below w3.heap.size w3 wr)) (fun _ u14 _ => m - (intOf u14).toNat)
      case atStart => exact ⟨0, by omega, rfl, World.ownsRow_nil _ _ _ _, Below.refl _ _⟩
      case round =>
        obtain ⟨i, him, rfl, HO, HB⟩ := hrel
        have F4 := F3.below HB.out
        by_cases hlt : i < m
        · have hii : (i : Int) < (m : Int) := by omega
          obtain ⟨L, hL⟩ : ∃ L, L = allS s1 := ⟨_, rfl⟩
          obtain ⟨q, hq⟩ : ∃ q, q = L.length := ⟨_, rfl⟩
          obtain ⟨P, hP⟩ : ∃ P, P = s1.pages := ⟨_, rfl⟩
          have hq4 : q ≤ 4000 := by rw [hq, hL]; exact allS_len HV.out.ok1
          have HNO : Hid (decide (a + (i : Int) ∈ L) = false) := decide_eq_false (by rw [hL]; exact HV.out.notin i hlt)
          have hlo : decide (P ≤ a + (i : Int)) = false := decide_eq_false (by have := HV.out.lo i hlt; rw [hP]; omega)
          have HAll := Lib.hid (fall_of hL.symm hq.symm HV.out.ok1 wr F4)
          have HQ := Lib.hid hq
          have HP := Lib.hid hP
          have RL := Lib.hid ((HR.out.below X3).below HB.out)
          by_cases hap : a < pages
          · have HIN : Hid (decide (a + (i : Int) ∈ load) = true) := decide_eq_true (HV.out.was hap i hlt)
            have hda : decide (a < pages) = true := decide_eq_true hap
            clear hL hq hP
            go_wp2_with (first
              | (go_at_call 10; refine HAll.out.mono ?_; rintro e w5 ⟨⟨A5, c5, rfl, R5⟩, b5⟩
                 have F5 := F4.below b5
                 have O5 := own_frm HO.out (Frm.of_below (S := no) b5) (fun _ _ h => h)
                 have hIn1 := in_ints A5 q c5 L (a + (i : Int)) w5 R5 HQ.out.symm (by omega)
                 rw [HNO.out] at hIn1
                 have HIn1 := Lib.hid hIn1
                 clear hIn1
                 have hIn2 := in_ints A n c load (a + (i : Int)) w5 (RL.out.below b5) HN.out (by omega)
                 rw [HIN.out] at hIn2
                 have HIn2 := Lib.hid hIn2
                 clear hIn2)
              | (go_at_call 9; with_reducible refine HIn1.out.mono ?_; rintro e w6 ⟨rfl, hw6⟩; obtain rfl : w5 = w6 := hw6.symm)
              | (go_at_call 9; with_reducible refine HIn2.out.mono ?_; rintro e w6 ⟨rfl, hw6⟩; obtain rfl : w5 = w6 := hw6.symm)
              | (go_at_call 11; with_reducible refine (fpages_of HP.out.symm _ F5).mono ?_; rintro e w6 ⟨rfl, hw6⟩; obtain rfl : w5 = w6 := hw6.symm)
              | (at_builtin
                 refine wpList_app rfl (.tmp 107) (.tmp 111) 22 rfl w3.heap.size 3 i0 _ 1 8 Try.underlying22 hi0 hz0 hz1 hz2 rfl (by omega) u13 i _ rfl (O5.alloc _) _ 1 1 [.int .i64 (a + (i : Int))] rfl (Rd.one _ _ _) rfl (by simp [Value.oneCell']) (by unfold maxLen; omega) (by omega) (by have := HB.out.size; have := b5.size; simp; omega) ?_
                 intro v6 w6 ho6 hg6 hb6 hat6))
            go_roundw
            case rel => exact ⟨i + 1, by omega, by go_num, by unfold Hid; rw [upFrom_succ, flatZ_app]; exact ho6, ((HB.out.trans (b5.mono HB.out.size)).alloc (Nat.le_trans HB.out.size b5.size) _).trans hb6⟩
            case measure => simp [intOf]; omega
          · have hda : decide (a < pages) = false := decide_eq_false hap
            clear hL hq hP
            go_wp2_with (first
              | (go_at_call 10; refine HAll.out.mono ?_; rintro e w5 ⟨⟨A5, c5, rfl, R5⟩, b5⟩
                 have F5 := F4.below b5
                 have O5 := own_frm HO.out (Frm.of_below (S := no) b5) (fun _ _ h => h)
                 have hIn1 := in_ints A5 q c5 L (a + (i : Int)) w5 R5 HQ.out.symm (by omega)
                 rw [HNO.out] at hIn1
                 have HIn1 := Lib.hid hIn1
                 clear hIn1
                 skip)
              | (go_at_call 9; with_reducible refine HIn1.out.mono ?_; rintro e w6 ⟨rfl, hw6⟩; obtain rfl : w5 = w6 := hw6.symm)
              | (go_at_call 11; with_reducible refine (fpages_of HP.out.symm _ F5).mono ?_; rintro e w6 ⟨rfl, hw6⟩; obtain rfl : w5 = w6 := hw6.symm)
              | (at_builtin
                 refine wpList_app rfl (.tmp 107) (.tmp 111) 22 rfl w3.heap.size 3 i0 _ 1 8 Try.underlying22 hi0 hz0 hz1 hz2 rfl (by omega) u13 i _ rfl (O5.alloc _) _ 1 1 [.int .i64 (a + (i : Int))] rfl (Rd.one _ _ _) rfl (by simp [Value.oneCell']) (by unfold maxLen; omega) (by omega) (by have := HB.out.size; have := b5.size; simp; omega) ?_
                 intro v6 w6 ho6 hg6 hb6 hat6))
            go_roundw
            case rel => exact ⟨i + 1, by omega, by go_num, by unfold Hid; rw [upFrom_succ, flatZ_app]; exact ho6, ((HB.out.trans (b5.mono HB.out.size)).alloc (Nat.le_trans HB.out.size b5.size) _).trans hb6⟩
            case measure => simp [intOf]; omega
        · obtain rfl : m = i := by omega
          obtain ⟨B, d, rfl, hd⟩ := own_form HO.out
          have hA : 0 < m → ∀ ad, B = some ad → ¬ mineF g x1 x2 ad.block := fun _ ad he hm => by
            have h1 := (F3.mine_lt _ hm).2
            have h2 := (HO.out.lt ad.block (by rw [he]; rfl)).1
            omega
          have hgv := fgive_any _ _ _ tx _ _ wr F4 HV.out.ok1 B m d (upFrom a m) (Rd.of_own HO.out) (upFrom_len a m) (by omega) hA (by have := F4.mine_lt g (.inl rfl); omega)
          rw [HV.out.give] at hgv
          have HGV := Lib.hid hgv
          have htx : tx + 1 ≤ 1099511627777 := by omega
          have X4 := X3.trans (HB.out.mono X3.size)
          have hs4 : w1.heap.size ≤ wr.heap.size := by have := F4.mine_lt g (.inl rfl); omega
          have hs1 := X1.size
          clear hgv hA hlt
          go_wp2_with (first
            | (go_at_call 12; refine HGV.out.mono ?_; rintro e w5 ⟨rfl, y2, F5, T5⟩
               have X5 := X4.trans ((F4.turn_below T5 hs4).mono hs1)
               have hs5 : w1.heap.size ≤ w5.heap.size := Nat.le_trans hs4 T5.frm.size)
            | (go_at_call 13; with_reducible refine (fpend_len HV.out.pend HV.out.ok2 _ F5).mono ?_; rintro e w6 ⟨⟨A6, c6, rfl⟩, b6⟩
               have F6 := F5.below b6
               have X6 := X5.trans (b6.mono X5.size)
               have hs6 : w1.heap.size ≤ w6.heap.size := Nat.le_trans hs5 b6.size)
            | (go_at_call 14; with_reducible refine (frel_of HV.out.rel1 HV.out.ok3 _ F7).mono ?_; rintro e w8 ⟨rfl, t1, t2, F8, T8⟩
               have X8 := X7.trans ((F7.turn_below T8 hs7).mono hs1)
               have hs8 : w1.heap.size ≤ w8.heap.size := Nat.le_trans hs7 T8.frm.size)
            | (go_at_call 14; with_reducible refine (frel_of HV.out.rel0 HV.out.ok2 _ F6).mono ?_; rintro e w7 ⟨rfl, z1, z2, F7, T7⟩
               have X7 := X6.trans ((F6.turn_below T7 hs6).mono hs1)
               have hs7 : w1.heap.size ≤ w7.heap.size := Nat.le_trans hs6 T7.frm.size)
            | (go_at_call 8; with_reducible refine (ftake_of HV.out.take2 HV.out.ok4 _ F8).mono ?_; rintro e w9 ⟨rfl, k1, k2, F9, T9⟩
               have X9 := X8.trans ((F8.turn_below T9 hs8).mono hs1)))
          go_ret
          exact ⟨ret_bool (decide_eq_true HV.out.ba), X9⟩
    · obtain ⟨rfl, hful⟩ := take_full (by omega) (by omega) HT.out hf
      clear hf
      go_enter Try.func3, Try.ntmps3
      go_wp2_with (first
        | (go_at_call 5; refine HRI.out.mono ?_; rintro e w0 ⟨rfl, q0⟩; have b0 := q0.below w.heap.size)
        | (go_at_call 6; refine (alive7_any _).mono ?_; rintro e w1 ⟨rfl, b1⟩
           have X1 := b0.trans (b1.mono b0.size)
           have hL := fload_any pages A n c load w1 (HR.out.below X1) HN.out (by omega)
           have HL := Lib.hid hL
           clear hL)
        | (go_at_call 7; refine HL.out.mono ?_; rintro e w2 ⟨hh, b2⟩
           obtain ⟨g, v1, rfl, F2⟩ : ∃ g v1, e = .returned (.tuple #[.pointer (some ⟨g, 0, none⟩), .int .i64 0]) ∧ FreeAt w2 w1.heap.size g ⟨pages, load, []⟩ v1 (.slice none 0 0) := by
             rcases hh with ⟨_, h⟩ | ⟨h, _⟩
             · exact h
             · rw [HRB.out] at h; cases h
           clear hh
           have X2 := X1.trans (b2.mono X1.size)
           have ht := ftake_any _ _ _ (m : Int) _ _ w2 F2 HOK.out
           have HTK := Lib.hid ht
           clear ht)
        | (go_at_call 8; refine HTK.out.mono ?_; rintro e w3 ⟨he, x1, x2, F3, T3⟩
           rw [HT.out] at he F3
           subst he
           have X3 := X2.trans ((F2.turn_below T3 b2.size).mono X1.size)))
      go_ret
      exact ⟨rfl, X3⟩
end Go.Proofs.Ytfgihfhpnhedkaa
