/-
  What the document's LayBig gives (NOT BUILT: the walk runs away). Condition: a value no longer than memory holds.
-/
import Derived.Test.YtejmpfmkaiaklaaBigRefN
namespace Go.Proofs.Ytejmpfmkaiaklaa
open Go Go.RowKit
attribute [local go_sem] cell_set_if

set_option maxRecDepth 100000 in
set_option maxHeartbeats 1000000 in
theorem reflay_any (v : ByteArray) (first tx : Int) (w : World) (hz : v.size ≤ 2000) (h0 : 2 ≤ first) (h1 : first < 4000) :
    Calls Try.prog 19 #[.string v, .int .i64 first, .int .i64 tx] w fun e w' =>
      ((bigOk v.size first tx = true ∧ ∃ A c, e = .returned (.tuple #[.slice A (needN v.size) c, .int .i64 0]) ∧ w'.ownsRow w.heap.size 29 4 (.slice A (needN v.size) c) (needN v.size) (pagesV first tx v (needN v.size))) ∨
       (bigOk v.size first tx = false ∧ e = .returned (.tuple #[.slice none 0 0, .int .i64 1]))) ∧ Below w.heap.size w w' := by
  have hN : ∀ w, Calls Try.prog 22 #[.int .i64 v.size] w fun e w' => e = .returned (.int .i64 (needN v.size)) ∧ w' = w := fun w => refneed_nat v.size w (by omega)
  have hle := needN_le v.size hz
  have hpos := needN_pos v.size
  have hnd : ∀ k, k < needN v.size → k * 232 ≤ v.size := fun k hk => by unfold needN at hk; split at hk <;> omega
  have hbo : bigOk v.size first tx = decide (0 ≤ tx ∧ tx ≤ 1099511627776 ∧ first + needN v.size ≤ 4000) := rfl
  generalize bigOk v.size first tx = ok at *
  generalize needN v.size = N at *
  have hz' : (v.size : Int) ≤ 2000 := by omega
  obtain ⟨i0, hi0, hz0, hz1, hz2⟩ := info_parts pageinfo
  have HN := Lib.hid hN
  have HND := Lib.hid hnd
  have HBO := Lib.hid hbo
  clear hN hnd hbo
  go_enter Try.func19, Try.ntmps19
  go_wp2
  go_loopw [8, 9] (fun u8 u9 wr => ∃ k : Nat, k ≤ N ∧ u9 = .int .i64 k ∧ (k = 0 ∨ (0 ≤ tx ∧ tx ≤ 1099511627776 ∧ first + k ≤ 4000)) ∧ wr.ownsRow w.heap.size 29 4 u8 k (pagesV first tx v k) ∧ Below w.heap.size w wr) (fun _ u9 _ => N - (intOf u9).toNat)
  case atStart => exact ⟨0, by omega, rfl, .inl rfl, World.ownsRow_nil _ _ _ _, Below.refl _ _⟩
  case round =>
    obtain ⟨k, hk, rfl, hg, hown, hB⟩ := hrel
    have HG := Lib.hid hg
    clear hg
    by_cases hlt : k < N
    · have hkz := HND.out k hlt
      have HT := Lib.hid (pagesV_succ first tx v k)
      have hps := partB_size v k
      have hpz : (partB v k).size ≤ 281474976710656 := by omega
      have hval := fun w => refvalid_any 5 (first + k) tx (partB v k) w (by omega)
      have hvd : decide (okP 5 (first + k) tx (partB v k).size) = decide (0 ≤ tx ∧ tx ≤ 1099511627776 ∧ first + k < 4000) := by
        rw [decide_eq_decide]; unfold okP; omega
      rw [hvd] at hval
      have hk2 : (k : Int) * 232 ≤ (v.size : Int) := by omega
      have hX : Hid (v.extract (232 * k) (min (232 * (k : Int) + 232) (v.size : Int)).toNat = partB v k) := by
        unfold Hid partB; congr 1 <;> omega
      generalize hT : partB v k = T at *
      have HTT := Lib.hid hT
      clear hT hkz hvd
      by_cases hok : 0 ≤ tx ∧ tx ≤ 1099511627776 ∧ first + (k : Int) < 4000
      · have hgo : Hid (0 ≤ tx ∧ tx ≤ 1099511627776 ∧ first + ((k + 1 : Nat) : Int) ≤ 4000) := ⟨hok.1, hok.2.1, by omega⟩
        rw [decide_eq_true hok] at hval
        have HVAL := Lib.hid hval
        clear hval hok
        go_wp2_with (first
          | (go_at_call 22; refine (HN.out _).mono ?_; rintro e w3 ⟨rfl, hw3⟩; subst hw3)
          | (go_at_call 15; rw [hX.out]; with_reducible refine (HVAL.out _).mono ?_; rintro e w4 ⟨rfl, b4⟩; have B4 := below_of b4 (hB.alloc hB.size _) (by have := hB.size; simp; omega)
             have K4 := (Blk.new w3 29 #[.int .i64 5, .int .i64 (first + k), .int .i64 tx, .string T]).below b4
             have c0 : w4.cell? ⟨w3.heap.size, 0, none⟩ = some (.int .i64 5) := K4.cell 0
             have c1 : w4.cell? ⟨w3.heap.size, 1, none⟩ = some (.int .i64 (first + k)) := K4.cell 1
             have c2 : w4.cell? ⟨w3.heap.size, 2, none⟩ = some (.int .i64 tx) := K4.cell 2
             have c3 : w4.cell? ⟨w3.heap.size, 3, none⟩ = some (.string T) := K4.cell 3
             have O4 := own_frm hown (S := no) (((Frm.refl no w3).alloc (.cells #[.int .i64 5, .int .i64 (first + k), .int .i64 tx, .string T] 29)).step b4) (fun _ _ => id)
             have O5 := own_frm O4 (S := no) ((Frm.refl no w4).alloc (.cells #[.int .i64 5, .int .i64 (first + k), .int .i64 tx, .string T] 29)) (fun _ _ => id))
          | (at_builtin
             refine wpList_app rfl (.tmp 48) (.tmp 50) 23 rfl w.heap.size 29 i0 _ 4 40 Try.underlying23 hi0 hz0 hz1 hz2 rfl (by omega) u8 k _ rfl O5 _ 1 1 [.int .i64 5, .int .i64 (first + k), .int .i64 tx, .string T] rfl (by simpa using Rd.new w4 #[.int .i64 5, .int .i64 (first + k), .int .i64 tx, .string T] 29) rfl (by simp [Value.oneCell']) (by unfold maxLen; omega) (by omega) (by have := B4.size; simp; omega) ?_
             intro v5 w5 hown5 hg5 hb5 hat5))
        go_roundw
        case rel =>
          refine ⟨k + 1, by omega, by go_num, .inr hgo.out, ?_, (B4.alloc B4.size _).trans hb5⟩
          rw [HT.out, pgC, HTT.out]; exact hown5
        case measure => simp [intOf]; omega
      · have hno : Hid (ok = false) := by unfold Hid; rw [HBO.out]; exact decide_eq_false (by omega)
        rw [decide_eq_false hok] at hval
        have HVAL := Lib.hid hval
        clear hval hok
        go_wp2_with (first
          | (go_at_call 22; refine (HN.out _).mono ?_; rintro e w3 ⟨rfl, hw3⟩; subst hw3)
          | (go_at_call 15; rw [hX.out]; with_reducible refine (HVAL.out _).mono ?_; rintro e w4 ⟨rfl, b4⟩; have B4 := below_of b4 (hB.alloc hB.size _) (by have := hB.size; simp; omega)))
        go_ret2
        exact ⟨.inr ⟨hno.out, rfl⟩, B4⟩
    · obtain rfl : k = N := by omega
      have hok : Hid (ok = true) := by
        unfold Hid; rw [HBO.out]; exact decide_eq_true (by have := HG.out; omega)
      obtain ⟨A1, c1, rfl, hc1⟩ := own_form hown
      go_wp2_with (go_at_call 22; refine (HN.out _).mono ?_; rintro e w3 ⟨rfl, hw3⟩; subst hw3)
      go_ret2
      exact ⟨.inl ⟨hok.out, A1, c1, rfl, hown⟩, hB⟩
end Go.Proofs.Ytejmpfmkaiaklaa
