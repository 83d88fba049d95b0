/-
  What conf.Index gives: what stands in the middle of what the members have. Condition: no more than a thousand members.
-/
import Derived.Test.YtkbfcmkocgkdjaaGreatDoorConfQ
import Derived.Test.YtkbfcmkocgkdjaaGreatDoorLaySort
namespace Go.Proofs.YtkbfcmkocgkdjaaGreatDoor
open Go Go.RowKit
attribute [local go_sem] cell_set_if

theorem mapN_take (l at_ : List Int) (k : Nat) (x : Int) (h : l[k]? = some x) : (l.take (k + 1)).map (numAt at_) = (l.take k).map (numAt at_) ++ [numAt at_ x] := by
  rw [List.take_add_one, h]; simp
set_option maxRecDepth 100000 in
set_option maxHeartbeats 2000000 in
theorem cindex_any (A B : Option Addr) (n c m d : Nat) (l at_ : List Int) (w : World) (hr : Rd w A (flatZ l)) (hn : l.length = n) (hb : Rd w B (flatZ at_)) (hm : at_.length = m) (h1 : n ≤ 1000) (h2 : m ≤ 1000) :
    Calls Tryz.prog 21 #[.slice A n c, .slice B m d] w fun e w' => e = .returned (.int .i64 (idxV l at_)) ∧ Below w.heap.size w w' := by
  obtain ⟨i0, hi0, hz0, hz1, hz2⟩ := info_parts zinfo
  have HR := Lib.hid hr
  have HB := Lib.hid hb
  have HN := Lib.hid hn
  have HM := Lib.hid hm
  have hni : (n : Int) ≤ 1000 := by omega
  have hc := cright_any A n c l w hr hn (by omega)
  obtain ⟨ok, hok⟩ : ∃ ok, ok = rightV l := ⟨_, rfl⟩
  rw [← hok] at hc
  have HC := Lib.hid hc
  have HOK := Lib.hid hok
  clear hr hb hn hm hc hok
  cases ok
  · have HF : Hid (idxV l at_ = 0) := by unfold Hid idxV; rw [← HOK.out]; rfl
    go_enter Tryz.func21, Tryz.ntmps21
    go_wp2_with (go_at_call 26; refine HC.out.mono ?_; rintro e w1 ⟨rfl, q1⟩)
    go_ret
    exact ⟨by (rw [HF.out]) <;> rfl, q1.below _⟩
  have HF : Hid (idxV l at_ = midZ (l.map (numAt at_))) := by unfold Hid idxV; rw [← HOK.out]; rfl
  have hpos : 0 < n := by have := rightV_pos HOK.out.symm; have := HN.out; omega
  go_enter Tryz.func21, Tryz.ntmps21
  go_wp2_with (go_at_call 26; refine HC.out.mono ?_; rintro e w1 ⟨rfl, q1⟩)
  go_loopw [5, 7, 8, 14] (fun u5 u7 u8 u14 wr => ∃ k : Nat, k ≤ n ∧ u14 = .int .i64 k ∧ wr.ownsRow w.heap.size 3 1 u5 k (flatZ ((l.take k).map (numAt at_))) ∧ Below w.heap.size w wr) (fun _ _ _ u14 _ => n - (intOf u14).toNat)
  case atStart => exact ⟨0, by omega, rfl, World.ownsRow_nil _ _ _ _, q1.below _⟩
  case round =>
    obtain ⟨k, hk, rfl, hO, hW⟩ := hrel
    by_cases hlt : k < n
    · obtain ⟨b1, o1, x, rfl, hb1, hx, q0⟩ := HR.out.num (k := k) (by have := HN.out; omega)
      have d0 := cell_bb hW hb1 q0
      have hki : (k : Int) < (n : Int) := by omega
      have hx0 := (rightV_at HOK.out.symm hx).1
      have HT := Lib.hid (mapN_take l at_ k x hx)
      clear hx q0
      by_cases a2 : (m : Int) ≤ x
      · have HT2 : Hid ((l.take (k + 1)).map (numAt at_) = (l.take k).map (numAt at_) ++ [0]) := by unfold Hid; rw [HT.out, numAt_out (.inr (by rw [HM.out]; exact a2))]
        have RN : Rd (wr.alloc (.cells #[.int .i64 0] 3)) (some ⟨wr.heap.size, 0, none⟩) [.int .i64 0] := by
          have := Rd.new wr #[.int .i64 0] 3
          simpa using this
        clear HT
        go_wp2_with (first
          | (at_builtin
             refine wpList_app rfl (.tmp 26) (.tmp 28) 22 rfl w.heap.size 3 i0 _ 1 8 Tryz.underlying22 hi0 hz0 hz1 hz2 rfl (by omega) u5 k _ rfl (hO.alloc _) _ 1 1 _ rfl RN rfl (by simp [Value.oneCell']) (by unfold maxLen; omega) (by omega) (by have := hW.size; simp; omega) ?_
             intro v5 w5 hown5 hg5 hb5 hat5))
        go_roundw
        case rel => exact ⟨k + 1, by omega, by go_num, by rw [HT2.out, flatZ_app]; exact hown5, (hW.alloc hW.size _).trans hb5⟩
        case measure => simp [intOf]; omega
      · obtain ⟨j, rfl⟩ := Int.eq_ofNat_of_zero_le hx0
        obtain ⟨b2, o2, y, rfl, hb2, hy, c2⟩ := HB.out.num (k := j) (by have := HM.out; omega)
        have HT2 : Hid ((l.take (k + 1)).map (numAt at_) = (l.take k).map (numAt at_) ++ [y]) := by unfold Hid; rw [HT.out, numAt_in rfl (by have := HM.out; omega) hy]
        have c3 := cell_bb hW hb2 c2
        have RN : Rd (wr.alloc (.cells #[.int .i64 y] 3)) (some ⟨wr.heap.size, 0, none⟩) [.int .i64 y] := by
          have := Rd.new wr #[.int .i64 y] 3
          simpa using this
        have a3 : (j : Int) < (m : Int) := by omega
        clear HT c2 hy
        go_wp2_with (first
          | (at_builtin
             refine wpList_app rfl (.tmp 26) (.tmp 28) 22 rfl w.heap.size 3 i0 _ 1 8 Tryz.underlying22 hi0 hz0 hz1 hz2 rfl (by omega) u5 k _ rfl (hO.alloc _) _ 1 1 _ rfl RN rfl (by simp [Value.oneCell']) (by unfold maxLen; omega) (by omega) (by have := hW.size; simp; omega) ?_
             intro v5 w5 hown5 hg5 hb5 hat5))
        go_roundw
        case rel => exact ⟨k + 1, by omega, by go_num, by rw [HT2.out, flatZ_app]; exact hown5, (hW.alloc hW.size _).trans hb5⟩
        case measure => simp [intOf]; omega
    · obtain rfl : n = k := by omega
      have HT : Hid (l.take n = l) := by unfold Hid; rw [List.take_of_length_le (by have := HN.out; omega)]
      rw [HT.out] at hO
      obtain ⟨g, c5, rfl, hg1, hg2⟩ := hO.form hpos
      have hO2 : wr.ownsRow w.heap.size 3 1 (.slice (some ⟨g, 0, none⟩) n c5) n ((l.map (numAt at_)).map (Value.int .i64)) := by rw [← flatZ_map]; exact hO
      have HS := Lib.hid (sortI_any w.heap.size g c5 n (l.map (numAt at_)) wr (by rw [List.length_map, HN.out]) hO2 (by omega))
      obtain ⟨q, hq⟩ : ∃ q, q = (n - 1) / 2 := ⟨_, rfl⟩
      obtain ⟨p, hp⟩ : ∃ p : Nat, p = n - 1 := ⟨_, rfl⟩
      have hpi : (n : Int) - 1 = (p : Int) := by omega
      have hqi : (p : Int) / 2 = (q : Int) := by omega
      have hqt : Int.tdiv (p : Int) 2 = (q : Int) := by rw [Int.tdiv_eq_ediv_of_nonneg (by omega)]; omega
      have hqn : (q : Int) < (n : Int) := by omega
      have HMID : Hid ((sortZ (l.map (numAt at_)))[q]? = some (midZ (l.map (numAt at_)))) := by
        unfold Hid
        have := mid_at (H := l.map (numAt at_)) (by rw [List.length_map, HN.out]; exact hpos)
        rwa [List.length_map, HN.out, ← hq] at this
      clear hO hO2 hq hp hlt hk
      go_wp2_with (go_at_call 34
                   refine HS.out.mono ?_
                   rintro e w7 ⟨rfl, ho7, hg7⟩
                   have c7 : w7.cell? ⟨g, q, none⟩ = some (.int .i64 (midZ (l.map (numAt at_)))) := by
                     have hR7 : Rd w7 (some ⟨g, 0, none⟩) (flatZ (sortZ (l.map (numAt at_)))) := by rw [flatZ_map]; exact Rd.of_own ho7
                     obtain ⟨ad, e1, e2⟩ := hR7.at_ (flatZ_at _ q _ HMID.out)
                     injection e1 with e1; subst e1
                     simpa [add_flat] using e2)
      go_ret
      have F7 : Frm (fun i => i = g) wr w7 := (Frm.refl _ wr).grown hg7 fun i hi _ => by injection hi with hi; exact hi.symm
      exact ⟨by rw [HF.out]; rfl, below_frm hW F7 (Nat.le_refl _) (fun i hi => by rw [hi]; exact hg1)⟩
end Go.Proofs.YtkbfcmkocgkdjaaGreatDoor
