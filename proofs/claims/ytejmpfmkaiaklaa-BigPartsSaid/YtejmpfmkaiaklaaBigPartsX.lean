/-
  The walk of the law BigParts where the value is laid. Condition: it may be.
-/
import Derived.Test.YtejmpfmkaiaklaaBigPartsW
namespace Go.Proofs.Ytejmpfmkaiaklaa
open Go Go.RowKit
attribute [local go_sem] cell_set_if

set_option maxRecDepth 100000 in
set_option maxHeartbeats 4000000 in
theorem bigparts_laid (v : ByteArray) (first tx : Int) (w : World) (hz : v.size ≤ 2000) (h0 : 2 ≤ first) (h1 : first < 4000) (hyes : 0 ≤ tx ∧ tx ≤ 1099511627776 ∧ first + needN v.size ≤ 4000) :
    Calls Try.prog 3 #[.string v, .int .i64 first, .int .i64 tx] w fun e w' => e = .returned (.bool true) ∧ Below w.heap.size w w' := by
  have h' : (v.size : Int) ≤ 2000 := by omega
  have hpos := needN_pos v.size
  have hl : ∀ w, Calls Try.prog 13 #[.string v, .int .i64 first, .int .i64 tx] w fun e w' => (∃ b o c, e = .returned (.tuple #[.slice (some ⟨b, o, none⟩) (needN v.size) c, .int .i64 0]) ∧ b < w'.heap.size ∧
      ∀ j x, (pagesV first tx v (needN v.size))[j]? = some x → w'.cell? ⟨b, o + j, none⟩ = some x) ∧ Below w.heap.size w w' := fun w => by
    refine (blay_any v first tx w hz h0 h1).mono ?_
    rintro e w' ⟨h | h, hb⟩
    · obtain ⟨_, A, c, rfl, ho⟩ := h
      obtain ⟨b, o, rfl, hlt, hc⟩ := (Rd.of_own ho).flat (by rw [pagesV_len]; omega)
      exact ⟨⟨b, o, c, rfl, hlt, hc⟩, hb⟩
    · have h2 : bigOk v.size first tx = true := decide_eq_true hyes
      rw [h2] at h; cases h.1
  obtain ⟨S, hS, hU, hR⟩ := ref_text first v.size h0 h1 hz
  have hSz : S.size ≤ 100000 := by omega
  have hun : ∀ w, Calls Try.prog 17 #[.string S] w fun e w' => e = .returned (.tuple #[.int .i64 first, .int .i64 v.size, .int .i64 0]) ∧ Below w.heap.size w w' := fun w => by
    have := unref_any S w hSz
    rw [hU] at this; exact this
  have hid : ∀ w, Calls Try.prog 18 #[.string S] w fun e w' => (∃ A c, e = .returned (.tuple #[.slice A (needN v.size) c, .int .i64 0])) ∧ Below w.heap.size w w' := fun w => by
    refine (ids_ok S first v.size w hSz hU (by omega) (by omega) hz).mono ?_
    rintro e w' ⟨⟨A, c, rfl, _⟩, hb⟩
    exact ⟨⟨A, c, rfl⟩, hb⟩
  have hle := needN_le v.size hz
  have HL := Lib.hid hl
  have HR := Lib.hid hR
  have HU := Lib.hid hun
  have HI := Lib.hid hid
  have HN := Lib.hid (fun w => need_nat v.size w (by omega))
  have HE := Lib.hid (upB_end v)
  have HUS := Lib.hid (fun k (h : k < needN v.size) => upB_succ v k (needN_lt v.size k h))
  have HPF := Lib.hid (partB_full v)
  have HAT := Lib.hid (fun k (h : k < needN v.size) => pagesV_at first tx v (needN v.size) k h)
  obtain ⟨ht0, ht1, hf⟩ := hyes
  clear hl hR hun hid hU
  generalize needN v.size = N at *
  have hN : (N : Int) ≤ 9 := by omega
  go_enter Try.func3, Try.ntmps3
  go_wp2_with (first
    | (go_at_call 12; refine (alive11_any _).mono ?_; rintro e wa ⟨rfl, ba⟩)
    | (go_at_call 13; refine (HL.out _).mono ?_; rintro e wb ⟨⟨b, o, c, rfl, hlt, hcell⟩, bb⟩; have B2 := below_of bb ba ba.size; have HC := Lib.hid hcell; clear hcell))
  go_loopw [9, 10] (fun u9 u10 wr => ∃ k : Nat, k ≤ N ∧ u10 = .int .i64 k ∧ u9 = .string (upB v k) ∧ Below wb.heap.size wb wr) (fun _ u10 _ => N - (intOf u10).toNat)
  case atStart => exact ⟨0, by omega, rfl, by rw [upB_zero], Below.refl _ _⟩
  case round =>
    obtain ⟨k, hk, rfl, rfl, hB⟩ := hrel
    by_cases hlt2 : k < N
    · have hUS := Lib.hid (HUS.out k hlt2)
      have hps := partB_size v k
      have hus := upB_size v k
      have hpc : ∀ j u, (pgC first tx v k)[j]? = some u → wr.cell? ⟨b, o + (k * 4 + j), none⟩ = some u := fun j u hj => by
        rw [(below_cells hB).1 b _ hlt]; exact HC.out _ _ (HAT.out k hlt2 j u hj)
      have c0 : wr.cell? ⟨b, o + k * 4, none⟩ = some (.int .i64 5) := by have := hpc 0 _ rfl; simpa using this
      have c1 : wr.cell? ⟨b, o + k * 4 + 1, none⟩ = some (.int .i64 (first + k)) := by have := hpc 1 _ rfl; rwa [← Nat.add_assoc] at this
      have c2 : wr.cell? ⟨b, o + k * 4 + 2, none⟩ = some (.int .i64 tx) := by have := hpc 2 _ rfl; rwa [← Nat.add_assoc] at this
      have c3 : wr.cell? ⟨b, o + k * 4 + 3, none⟩ = some (.string (partB v k)) := by have := hpc 3 _ rfl; rwa [← Nat.add_assoc] at this
      clear hpc
      have hval := fun w => refvalid_any 5 (first + k) tx (partB v k) w (by omega)
      have hvd : decide (okP 5 (first + k) tx (partB v k).size) = true := decide_eq_true (by unfold okP; omega)
      rw [hvd] at hval
      have HVAL := Lib.hid hval
      have hpf := fun h => HPF.out k h
      generalize partB v k = T at *
      generalize upB v k = U at *
      have hsum : ¬ (9223372036854775807 < U.size + T.size) := by omega
      clear hval hvd
      by_cases hk1 : k + 1 < N
      · have hT := hpf hk1
        have hT' : (T.size : Int) = 232 := by omega
        have hk2 : (k : Int) + 1 < (N : Int) := by omega
        clear hpf hps
        go_wp2_with (go_at_call 15; refine (HVAL.out _).mono ?_; rintro e w4 ⟨rfl, b4⟩; have B4 := below_of b4 hB hB.size)
        go_roundw
        case rel => exact ⟨k + 1, by omega, by go_num, by rw [hUS.out], B4⟩
        case measure => simp [intOf]; omega
      · have hk2 : (N : Int) ≤ (k : Int) + 1 := by omega
        clear hpf
        go_wp2_with (go_at_call 15; refine (HVAL.out _).mono ?_; rintro e w4 ⟨rfl, b4⟩; have B4 := below_of b4 hB hB.size)
        go_roundw
        case rel => exact ⟨k + 1, by omega, by go_num, by rw [hUS.out], B4⟩
        case measure => simp [intOf]; omega
    · obtain rfl : k = N := by omega
      rw [HE.out]
      have B3 := B2.trans (hB.mono B2.size)
      go_wp2_with (first
        | (go_at_call 16; refine (HR.out _).mono ?_; rintro e w5 ⟨rfl, b5⟩; have B5 := below_of b5 B3 B3.size)
        | (go_at_call 17; refine (HU.out _).mono ?_; rintro e w6 ⟨rfl, b6⟩; have B6 := below_of b6 B5 B5.size)
        | (go_at_call 18; refine (HI.out _).mono ?_; rintro e w7 ⟨⟨A, c7, rfl⟩, b7⟩; have B7 := below_of b7 B6 B6.size)
        | (go_at_call 14; refine (HN.out _).mono ?_; rintro e w8 ⟨rfl, hw8⟩; subst hw8))
      go_ret
      exact ⟨rfl, B7⟩

theorem bigparts_walk (v : ByteArray) (first tx : Int) (w : World) :
    Calls Try.prog 3 #[.string v, .int .i64 first, .int .i64 tx] w fun e w' => e = .returned (.bool true) ∧ Below w.heap.size w w' := by
  by_cases hz : 2000 < v.size
  · exact bigparts_long v first tx w hz
  · by_cases h : first < 2 ∨ 4000 ≤ first
    · exact bigparts_far v first tx w (by omega) h
    · by_cases hyes : 0 ≤ tx ∧ tx ≤ 1099511627776 ∧ first + needN v.size ≤ 4000
      · exact bigparts_laid v first tx w (by omega) (by omega) (by omega) hyes
      · exact bigparts_refused v first tx w (by omega) (by omega) (by omega) hyes
end Go.Proofs.Ytejmpfmkaiaklaa
