/-
  The walk of the law BigTells: for every input it returns true and changes nothing that was there. No condition but those of the arguments' form.
-/
import Derived.Test.YtejmpfmkaiaklaaBigTellsP
namespace Go.Proofs.Ytejmpfmkaiaklaa
open Go Go.RowKit
attribute [local go_sem] cell_set_if

set_option maxRecDepth 100000 in
set_option maxHeartbeats 1000000 in
theorem bigtells_long (v ref : ByteArray) (first tx n lost : Int) (w : World) (hz : v.size ≤ 9223372036854775807) (hr : ref.size ≤ 9223372036854775807) (h : 3000 < v.size ∨ 100 < ref.size) :
    Calls Try.prog 4 #[.string v, .int .i64 first, .int .i64 tx, .int .i64 n, .int .i64 lost, .string ref] w fun e w' => e = .returned (.bool true) ∧ Below w.heap.size w w' := by
  have hc : (3000 : Int) < v.size ∨ ((v.size : Int) ≤ 3000 ∧ (100 : Int) < ref.size) := by omega
  clear h hz hr
  have B0 : Below w.heap.size w (w.alloc (.cells #[.int .i64 lost] 3)) := (Below.refl _ _).alloc (Nat.le_refl _) _
  rcases hc with h | ⟨h, h1⟩
  all_goals
    go_enter Try.func4, Try.ntmps4
    go_wp2_with (go_at_call 12; refine (alive11_any _).mono ?_; rintro e wa ⟨rfl, ba⟩)
    go_ret
    exact ⟨rfl, below_of ba B0 B0.size⟩

/-- The law's two variables, and its pages. -/
structure BT (w wr : World) (gl gk : Nat) (A : Option Addr) (NL c : Nat) (first tx lost : Int) (v : ByteArray) : Prop where
  k : Blk wr gk 3 #[.int .i64 lost]
  g : Blk wr gl 23 #[.slice A NL c]
  r : Rd wr A (pagesV first tx v NL)
  B : Below w.heap.size w wr
theorem BT.below {w wr w' : World} {gl gk : Nat} {A : Option Addr} {NL c : Nat} {first tx lost : Int} {v : ByteArray} (h : BT w wr gl gk A NL c first tx lost v) (hb : Below wr.heap.size wr w') : BT w w' gl gk A NL c first tx lost v :=
  ⟨h.k.below hb, h.g.below hb, h.r.below hb, below_of hb h.B h.B.size⟩
theorem BT.drewN {w wr : World} {gl gk : Nat} {A : Option Addr} {NL c : Nat} {first tx lost : Int} {v : ByteArray} (h : BT w wr gl gk A NL c first tx lost v) (n : Nat) : BT w (wr.drewN n) gl gk A NL c first tx lost v := h.below (below_drewN (Below.refl _ _) n)

set_option maxRecDepth 100000 in
set_option maxHeartbeats 8000000 in
theorem bigtells_short (v ref : ByteArray) (first tx n lost : Int) (w : World) (hz : v.size ≤ 3000) (hr : ref.size ≤ 100) (hn : -9223372036854775808 ≤ n) (hn2 : n ≤ 9223372036854775807) :
    Calls Try.prog 4 #[.string v, .int .i64 first, .int .i64 tx, .int .i64 n, .int .i64 lost, .string ref] w fun e w' => e = .returned (.bool true) ∧ Below w.heap.size w w' := by
  obtain ⟨NL, E, hcase, hL, hLR⟩ := laid_cases v first tx hz
  obtain ⟨a, b, i, NI, hi, hU, hUR, hI⟩ := place_cases ref (by omega)
  have hS := ref_any first n
  have hSR := refref_any first n
  unfold str at hS hSR
  generalize bs (refE first n).1 = S at hS hSR
  generalize (refE first n).2 = ES at hS hSR
  have HL := Lib.hid hL
  have HLR := Lib.hid hLR
  have HU := Lib.hid hU
  have HUR := Lib.hid hUR
  have HI := Lib.hid hI
  have HS := Lib.hid hS
  have HSR := Lib.hid hSR
  have HN := Lib.hid (fun x w h => need_any x w h)
  have HNR := Lib.hid (fun x w h => refneed_any x w h)
  have HC := Lib.hid hcase
  have B0 : Below w.heap.size w (w.alloc (.cells #[.int .i64 lost] 3)) := (Below.refl _ _).alloc (Nat.le_refl _) _
  have K0 : Blk (w.alloc (.cells #[.int .i64 lost] 3)) w.heap.size 3 #[.int .i64 lost] := Blk.new _ _ _
  have hz' : (v.size : Int) ≤ 3000 := by omega
  have hr' : (ref.size : Int) ≤ 100 := by omega
  have hNL : NL ≤ 9 := by
    rcases hcase with ⟨_, h⟩ | ⟨_, h, h2, _⟩
    · omega
    · rw [h]; exact needN_le _ h2
  clear hL hLR hU hUR hI hS hSR hcase
  have hmin : n < 100000 ∨ n = 100000 ∨ 100000 < n := by omega
  rcases hi with ⟨rfl, ha1, ha2, hb1, hb2, hNI, hNB⟩ | ⟨rfl, rfl⟩
  · have HNB := Lib.hid hNB
    clear hNB
    go_enter Try.func4, Try.ntmps4
    go_wp2_with fail
    refine (alive11_any _).mono ?_; rintro e w1 ⟨rfl, b1⟩
    have B1 := below_of b1 B0 B0.size
    have K1 := K0.below b1
    go_wp2_with fail
    refine (HL.out _).mono ?_; rintro e w2 ⟨A2, c2, rfl, r2, b2⟩
    have T2 : BT w (w2.alloc (.cells #[.slice A2 NL c2] 23)) w2.heap.size w.heap.size A2 NL c2 first tx lost v := ⟨(K1.below b2).alloc _, Blk.new _ _ _, r2.alloc _, (below_of b2 B1 B1.size).alloc (below_of b2 B1 B1.size).size _⟩
    go_wp2_with fail
    refine (HLR.out _).mono ?_; rintro e w3 ⟨A3, c3, rfl, r3, b3⟩
    have T3 := T2.below b3
    go_wp2_with fail
    refine (HS.out _).mono ?_; rintro e w4 ⟨rfl, b4⟩
    have T4 := T3.below b4
    have r4 := r3.below b4
    go_wp2_with fail
    refine (HSR.out _).mono ?_; rintro e w5 ⟨rfl, b5⟩
    have T5 := T4.below b5
    have r5 := r4.below b5
    go_wp2_with fail
    refine (HU.out _).mono ?_; rintro e w6 ⟨rfl, b6⟩
    have T6 := T5.below b6
    have r6 := r5.below b6
    go_wp2_with fail
    refine (HUR.out _).mono ?_; rintro e w7 ⟨rfl, b7⟩
    have T7 := T6.below b7
    have r7 := r6.below b7
    have g7 : w7.cell? ⟨w2.heap.size, 0, none⟩ = some (.slice A2 NL c2) := T7.g.cell 0
    have H7 := Lib.hid T7
    have HR7 := Lib.hid r7
    clear T2 T3 T4 T5 T6 T7 r2 r3 r4 r5 r6 r7 b1 b2 b3 b4 b5 b6 b7 B0 K0 B1 K1
    go_upto_region 9 with fail
    go_cut [143] from 91 to 143 (fun u wx => u = .bool false ∧ wx = w7)
    case first =>
      go_wp2_with (first
        | (go_at_call 14; refine (HN.out _ _ (by omega)).mono ?_; rintro e wn ⟨rfl, hwn⟩; subst hwn)
        | (go_at_call 22; refine (HNR.out _ _ (by omega)).mono ?_; rintro e wn ⟨rfl, hwn⟩; subst hwn))
      all_goals go_meet
      all_goals exact ⟨rfl, rfl⟩
    case rest =>
    obtain ⟨rfl, rfl⟩ := hcut
    go_wp2_with fail
    go_loopw [12, 27] (fun u12 u27 wr => ∃ k : Nat, k ≤ NL ∧ u27 = .int .i64 k ∧ BT w wr w2.heap.size w.heap.size A2 NL c2 first tx lost v ∧ Rd wr A3 (pagesV first tx v NL)) (fun _ u27 _ => NL - (intOf u27).toNat)
    case atStart => exact ⟨0, by omega, rfl, H7.out, HR7.out⟩
    case round =>
      obtain ⟨k, hk, rfl, hT, hr3⟩ := hrel
      have gl := hT.g.cell 0
      by_cases hlt : k < NL
      · obtain ⟨bb, o, rfl, hb, hcs⟩ := hT.r.flat (by rw [pagesV_len]; omega)
        obtain ⟨bb2, o2, rfl, hb2, hcs2⟩ := hr3.flat (by rw [pagesV_len]; omega)
        have d0 : wr.cell? ⟨bb, o + k * 4, none⟩ = some (.int .i64 5) := hcs _ _ (pagesV_at first tx v NL k hlt 0 _ rfl)
        have d1 : wr.cell? ⟨bb, o + k * 4 + 1, none⟩ = some (.int .i64 (first + k)) := by rw [Nat.add_assoc]; exact hcs _ _ (pagesV_at first tx v NL k hlt 1 _ rfl)
        have d2 : wr.cell? ⟨bb, o + k * 4 + 2, none⟩ = some (.int .i64 tx) := by rw [Nat.add_assoc]; exact hcs _ _ (pagesV_at first tx v NL k hlt 2 _ rfl)
        have d3 : wr.cell? ⟨bb, o + k * 4 + 3, none⟩ = some (.string (partB v k)) := by rw [Nat.add_assoc]; exact hcs _ _ (pagesV_at first tx v NL k hlt 3 _ rfl)
        have e0 : wr.cell? ⟨bb2, o2 + k * 4, none⟩ = some (.int .i64 5) := hcs2 _ _ (pagesV_at first tx v NL k hlt 0 _ rfl)
        have e1 : wr.cell? ⟨bb2, o2 + k * 4 + 1, none⟩ = some (.int .i64 (first + k)) := by rw [Nat.add_assoc]; exact hcs2 _ _ (pagesV_at first tx v NL k hlt 1 _ rfl)
        have e2 : wr.cell? ⟨bb2, o2 + k * 4 + 2, none⟩ = some (.int .i64 tx) := by rw [Nat.add_assoc]; exact hcs2 _ _ (pagesV_at first tx v NL k hlt 2 _ rfl)
        have e3 : wr.cell? ⟨bb2, o2 + k * 4 + 3, none⟩ = some (.string (partB v k)) := by rw [Nat.add_assoc]; exact hcs2 _ _ (pagesV_at first tx v NL k hlt 3 _ rfl)
        have HT := Lib.hid hT
        have HR3 := Lib.hid hr3
        have hki : (k : Int) < (NL : Int) := by omega
        clear hcs hcs2 hT hr3
        go_wp2
        go_quiet (fail)
        go_wp2
        go_roundw
        case rel => exact ⟨k + 1, by omega, by go_num, HT.out.drewN _, HR3.out.below (below_drewN (Below.refl _ _) _)⟩
        case measure => simp [intOf]; omega
      · have HT := Lib.hid hT
        clear hT hr3
        go_wp2_with fail
        refine (HI.out _).mono ?_; rintro e w8 ⟨⟨A5, c5, rfl, r8⟩, b8⟩
        have T8 := HT.out.below b8
        clear HT
        go_wp2_with ((go_at_call 22; refine (HNB.out _).mono ?_; rintro e wn ⟨rfl, hwn⟩; subst hwn))
        go_loopw [12, 31] (fun u12 u31 wr => ∃ k : Nat, k ≤ NI ∧ u31 = .int .i64 k ∧ BT w wr w2.heap.size w.heap.size A2 NL c2 first tx lost v ∧ Rd wr A5 (idsV a NI)) (fun _ u31 _ => NI - (intOf u31).toNat)
        case atStart => exact ⟨0, by omega, rfl, T8, r8⟩
        case round =>
          clear T8 r8
          obtain ⟨k, hk, rfl, hT, hr5⟩ := hrel
          by_cases hlt : k < NI
          · obtain ⟨bb, o, rfl, hb, hcs⟩ := hr5.flat (by simp [idsV]; omega)
            have d0 : wr.cell? ⟨bb, o + k, none⟩ = some (.int .i64 (a + k)) := hcs _ _ (idsV_at a NI k hlt)
            have HT := Lib.hid hT
            have HR5 := Lib.hid hr5
            clear hcs hT hr5
            go_wp2
            go_roundw
            case rel => exact ⟨k + 1, by omega, by go_num, HT.out, HR5.out⟩
            case measure => simp [intOf]; omega
          · clear hr5
            rcases HC.out with ⟨rfl, rfl⟩ | ⟨rfl, hNLv, hv2, hf1, hf2⟩
            · have HB := Lib.hid hT.B
              clear hT HC
              go_wp2
              go_ret
              exact ⟨rfl, HB.out⟩
            · subst hNLv
              clear HC
              have hpos := needN_pos v.size
              obtain ⟨bb, o, rfl, hb, hcs⟩ := hT.r.flat (by rw [pagesV_len]; omega)
              have hG : GetW wr w2.heap.size w.heap.size bb o c2 (needN v.size) first tx lost v := ⟨hT.g.cell 0, hT.k.cell 0, hcs, hb, hT.g.lt, hT.k.lt⟩
              obtain ⟨O, X, Y, hO, hRd, hXY⟩ := reads v first tx lost hv2 hf1 hf2
              obtain ⟨O2, hO2, hRd2⟩ := reads_less v first tx lost hv2 hf1 hf2
              have HG := Lib.hid hG
              have HO := Lib.hid hO
              have HO2 := Lib.hid hO2
              have HRD := Lib.hid hRd
              have HRD2 := Lib.hid hRd2
              have HB := Lib.hid hT.B
              clear hG hO hO2 hRd hRd2 hT hcs
              generalize needN v.size = N at *
              go_wp2_with fail
              refine (HO.out _).mono ?_; rintro e v1 ⟨rfl, p1⟩
              have G1 := HG.out.below p1
              have B1 := below_of p1 HB.out HB.out.size
              go_wp2_with fail
              refine (HRD.out _ _ _ _ _ _ G1).mono ?_; rintro e v2 ⟨rfl, p2⟩
              have G2 := G1.below p2
              have B2 := below_of p2 B1 B1.size
              have gl2 := G2.l
              have gk2 := G2.k
              have HG2 := Lib.hid G2
              clear G1 G2
              rcases hXY with ⟨⟨x1, x2⟩, rfl, rfl⟩ | ⟨x1, hX, rfl⟩
              · go_wp2
                go_ret
                exact ⟨rfl, B2⟩
              · obtain rfl : v = X := hX.symm
                by_cases hv0 : v.size = 0
                · obtain rfl : v = ⟨#[]⟩ := bts_inj (List.eq_nil_of_length_eq_zero (by rw [bts_len]; exact hv0))
                  have HO3 : Hid (∀ w, Calls Try.prog 16 #[.int .i64 first, .int .i64 0] w fun e w' => e = .returned (.tuple #[.string O2, .int .i64 0]) ∧ Below w.heap.size w w') := HO2.out
                  have ez : ((⟨#[]⟩ : ByteArray).size : Int) = 0 := rfl
                  clear HO2 hv0
                  rcases x1 with x1 | ⟨x1, x3⟩
                  all_goals
                    go_wp2_with fail
                    refine (HO3.out _).mono ?_; rintro e v3 ⟨rfl, p3⟩
                    have G3 := HG2.out.below p3
                    have B3 := below_of p3 B2 B2.size
                    go_wp2_with fail
                    refine (HRD2.out _ _ _ _ _ _ G3).mono ?_; rintro e v4 ⟨⟨U, Q, rfl, hUQ⟩, p4⟩
                    have B4 := below_of p4 B3 B3.size
                    clear hUQ G3
                    go_wp2
                    go_ret
                    exact ⟨rfl, B4⟩
                · have hne : bts v ≠ [] := fun h => hv0 (by rw [← bts_len, h]; rfl)
                  have t1 : v.toList.isEmpty = false := by rw [ByteArray.toList_eq]; cases h : v.data.toList; exact absurd h hne; rfl
                  have t2 : (v.toList == []) = false := by rw [ByteArray.toList_eq]; cases h : v.data.toList; exact absurd h hne; rfl
                  have hs1 : (1 : Int) ≤ v.size := by omega
                  have hO3 := HO2.out
                  rw [show ((v.size - 1 : Nat) : Int) = max ((v.size : Int) - 1) 0 by omega] at hO3
                  have HO3 := Lib.hid hO3
                  have hmod : (((v.size : Int) - 1) % 232 == 0) = decide ((v.size - 1) % 232 = 0) := by
                    rw [Bool.eq_iff_iff]; simp; omega
                  clear HO2 hO3 hv0 hne
                  by_cases hq : (v.size - 1) % 232 = 0
                  · rw [decide_eq_true hq] at hmod
                    rcases x1 with x1 | ⟨x1, x3⟩
                    all_goals
                      go_wp2_with fail
                      refine (HO3.out _).mono ?_; rintro e v3 ⟨rfl, p3⟩
                      have G3 := HG2.out.below p3
                      have B3 := below_of p3 B2 B2.size
                      go_wp2_with fail
                      refine (HRD2.out _ _ _ _ _ _ G3).mono ?_; rintro e v4 ⟨⟨U, Q, rfl, hUQ⟩, p4⟩
                      have B4 := below_of p4 B3 B3.size
                      clear hUQ G3
                      go_wp2
                      go_ret
                      exact ⟨rfl, B4⟩
                  · rw [decide_eq_false hq] at hmod
                    rcases x1 with x1 | ⟨x1, x3⟩
                    all_goals
                      go_wp2_with fail
                      refine (HO3.out _).mono ?_; rintro e v3 ⟨rfl, p3⟩
                      have G3 := HG2.out.below p3
                      have B3 := below_of p3 B2 B2.size
                      go_wp2_with fail
                      refine (HRD2.out _ _ _ _ _ _ G3).mono ?_; rintro e v4 ⟨⟨U, Q, rfl, hUQ⟩, p4⟩
                      have B4 := below_of p4 B3 B3.size
                      obtain ⟨rfl, rfl⟩ := hUQ.resolve_left hq
                      clear hUQ G3
                      go_wp2
                      go_ret
                      exact ⟨rfl, B4⟩
  · go_enter Try.func4, Try.ntmps4
    go_wp2_with fail
    refine (alive11_any _).mono ?_; rintro e w1 ⟨rfl, b1⟩
    have B1 := below_of b1 B0 B0.size
    have K1 := K0.below b1
    go_wp2_with fail
    refine (HL.out _).mono ?_; rintro e w2 ⟨A2, c2, rfl, r2, b2⟩
    have T2 : BT w (w2.alloc (.cells #[.slice A2 NL c2] 23)) w2.heap.size w.heap.size A2 NL c2 first tx lost v := ⟨(K1.below b2).alloc _, Blk.new _ _ _, r2.alloc _, (below_of b2 B1 B1.size).alloc (below_of b2 B1 B1.size).size _⟩
    go_wp2_with fail
    refine (HLR.out _).mono ?_; rintro e w3 ⟨A3, c3, rfl, r3, b3⟩
    have T3 := T2.below b3
    go_wp2_with fail
    refine (HS.out _).mono ?_; rintro e w4 ⟨rfl, b4⟩
    have T4 := T3.below b4
    have r4 := r3.below b4
    go_wp2_with fail
    refine (HSR.out _).mono ?_; rintro e w5 ⟨rfl, b5⟩
    have T5 := T4.below b5
    have r5 := r4.below b5
    go_wp2_with fail
    refine (HU.out _).mono ?_; rintro e w6 ⟨rfl, b6⟩
    have T6 := T5.below b6
    have r6 := r5.below b6
    go_wp2_with fail
    refine (HUR.out _).mono ?_; rintro e w7 ⟨rfl, b7⟩
    have T7 := T6.below b7
    have r7 := r6.below b7
    have g7 : w7.cell? ⟨w2.heap.size, 0, none⟩ = some (.slice A2 NL c2) := T7.g.cell 0
    have H7 := Lib.hid T7
    have HR7 := Lib.hid r7
    clear T2 T3 T4 T5 T6 T7 r2 r3 r4 r5 r6 r7 b1 b2 b3 b4 b5 b6 b7 B0 K0 B1 K1
    go_upto_region 9 with fail
    go_cut [143] from 91 to 143 (fun u wx => u = .bool false ∧ wx = w7)
    case first =>
      go_wp2_with (first
        | (go_at_call 14; refine (HN.out _ _ (by omega)).mono ?_; rintro e wn ⟨rfl, hwn⟩; subst hwn)
        | (go_at_call 22; refine (HNR.out _ _ (by omega)).mono ?_; rintro e wn ⟨rfl, hwn⟩; subst hwn))
      all_goals go_meet
      all_goals exact ⟨rfl, rfl⟩
    case rest =>
    obtain ⟨rfl, rfl⟩ := hcut
    go_wp2_with fail
    go_loopw [12, 27] (fun u12 u27 wr => ∃ k : Nat, k ≤ NL ∧ u27 = .int .i64 k ∧ BT w wr w2.heap.size w.heap.size A2 NL c2 first tx lost v ∧ Rd wr A3 (pagesV first tx v NL)) (fun _ u27 _ => NL - (intOf u27).toNat)
    case atStart => exact ⟨0, by omega, rfl, H7.out, HR7.out⟩
    case round =>
      obtain ⟨k, hk, rfl, hT, hr3⟩ := hrel
      have gl := hT.g.cell 0
      by_cases hlt : k < NL
      · obtain ⟨bb, o, rfl, hb, hcs⟩ := hT.r.flat (by rw [pagesV_len]; omega)
        obtain ⟨bb2, o2, rfl, hb2, hcs2⟩ := hr3.flat (by rw [pagesV_len]; omega)
        have d0 : wr.cell? ⟨bb, o + k * 4, none⟩ = some (.int .i64 5) := hcs _ _ (pagesV_at first tx v NL k hlt 0 _ rfl)
        have d1 : wr.cell? ⟨bb, o + k * 4 + 1, none⟩ = some (.int .i64 (first + k)) := by rw [Nat.add_assoc]; exact hcs _ _ (pagesV_at first tx v NL k hlt 1 _ rfl)
        have d2 : wr.cell? ⟨bb, o + k * 4 + 2, none⟩ = some (.int .i64 tx) := by rw [Nat.add_assoc]; exact hcs _ _ (pagesV_at first tx v NL k hlt 2 _ rfl)
        have d3 : wr.cell? ⟨bb, o + k * 4 + 3, none⟩ = some (.string (partB v k)) := by rw [Nat.add_assoc]; exact hcs _ _ (pagesV_at first tx v NL k hlt 3 _ rfl)
        have e0 : wr.cell? ⟨bb2, o2 + k * 4, none⟩ = some (.int .i64 5) := hcs2 _ _ (pagesV_at first tx v NL k hlt 0 _ rfl)
        have e1 : wr.cell? ⟨bb2, o2 + k * 4 + 1, none⟩ = some (.int .i64 (first + k)) := by rw [Nat.add_assoc]; exact hcs2 _ _ (pagesV_at first tx v NL k hlt 1 _ rfl)
        have e2 : wr.cell? ⟨bb2, o2 + k * 4 + 2, none⟩ = some (.int .i64 tx) := by rw [Nat.add_assoc]; exact hcs2 _ _ (pagesV_at first tx v NL k hlt 2 _ rfl)
        have e3 : wr.cell? ⟨bb2, o2 + k * 4 + 3, none⟩ = some (.string (partB v k)) := by rw [Nat.add_assoc]; exact hcs2 _ _ (pagesV_at first tx v NL k hlt 3 _ rfl)
        have HT := Lib.hid hT
        have HR3 := Lib.hid hr3
        have hki : (k : Int) < (NL : Int) := by omega
        clear hcs hcs2 hT hr3
        go_wp2
        go_quiet (fail)
        go_wp2
        go_roundw
        case rel => exact ⟨k + 1, by omega, by go_num, HT.out.drewN _, HR3.out.below (below_drewN (Below.refl _ _) _)⟩
        case measure => simp [intOf]; omega
      · have HT := Lib.hid hT
        clear hT hr3
        go_wp2_with fail
        refine (HI.out _).mono ?_; rintro e w8 ⟨⟨A5, c5, rfl, r8⟩, b8⟩
        have T8 := HT.out.below b8
        clear HT
        go_wp2_with (fail)
        go_loopw [12, 31] (fun u12 u31 wr => u31 = .int .i64 0 ∧ BT w wr w2.heap.size w.heap.size A2 NL c2 first tx lost v) (fun _ u31 _ => 0)
        case atStart => exact ⟨rfl, T8⟩
        case round =>
          clear T8 r8
          obtain ⟨rfl, hT⟩ := hrel
          · skip
            rcases HC.out with ⟨rfl, rfl⟩ | ⟨rfl, hNLv, hv2, hf1, hf2⟩
            · have HB := Lib.hid hT.B
              clear hT HC
              go_wp2
              go_ret
              exact ⟨rfl, HB.out⟩
            · subst hNLv
              clear HC
              have hpos := needN_pos v.size
              obtain ⟨bb, o, rfl, hb, hcs⟩ := hT.r.flat (by rw [pagesV_len]; omega)
              have hG : GetW wr w2.heap.size w.heap.size bb o c2 (needN v.size) first tx lost v := ⟨hT.g.cell 0, hT.k.cell 0, hcs, hb, hT.g.lt, hT.k.lt⟩
              obtain ⟨O, X, Y, hO, hRd, hXY⟩ := reads v first tx lost hv2 hf1 hf2
              obtain ⟨O2, hO2, hRd2⟩ := reads_less v first tx lost hv2 hf1 hf2
              have HG := Lib.hid hG
              have HO := Lib.hid hO
              have HO2 := Lib.hid hO2
              have HRD := Lib.hid hRd
              have HRD2 := Lib.hid hRd2
              have HB := Lib.hid hT.B
              clear hG hO hO2 hRd hRd2 hT hcs
              generalize needN v.size = N at *
              go_wp2_with fail
              refine (HO.out _).mono ?_; rintro e v1 ⟨rfl, p1⟩
              have G1 := HG.out.below p1
              have B1 := below_of p1 HB.out HB.out.size
              go_wp2_with fail
              refine (HRD.out _ _ _ _ _ _ G1).mono ?_; rintro e v2 ⟨rfl, p2⟩
              have G2 := G1.below p2
              have B2 := below_of p2 B1 B1.size
              have gl2 := G2.l
              have gk2 := G2.k
              have HG2 := Lib.hid G2
              clear G1 G2
              rcases hXY with ⟨⟨x1, x2⟩, rfl, rfl⟩ | ⟨x1, hX, rfl⟩
              · go_wp2
                go_ret
                exact ⟨rfl, B2⟩
              · obtain rfl : v = X := hX.symm
                by_cases hv0 : v.size = 0
                · obtain rfl : v = ⟨#[]⟩ := bts_inj (List.eq_nil_of_length_eq_zero (by rw [bts_len]; exact hv0))
                  have HO3 : Hid (∀ w, Calls Try.prog 16 #[.int .i64 first, .int .i64 0] w fun e w' => e = .returned (.tuple #[.string O2, .int .i64 0]) ∧ Below w.heap.size w w') := HO2.out
                  have ez : ((⟨#[]⟩ : ByteArray).size : Int) = 0 := rfl
                  clear HO2 hv0
                  rcases x1 with x1 | ⟨x1, x3⟩
                  all_goals
                    go_wp2_with fail
                    refine (HO3.out _).mono ?_; rintro e v3 ⟨rfl, p3⟩
                    have G3 := HG2.out.below p3
                    have B3 := below_of p3 B2 B2.size
                    go_wp2_with fail
                    refine (HRD2.out _ _ _ _ _ _ G3).mono ?_; rintro e v4 ⟨⟨U, Q, rfl, hUQ⟩, p4⟩
                    have B4 := below_of p4 B3 B3.size
                    clear hUQ G3
                    go_wp2
                    go_ret
                    exact ⟨rfl, B4⟩
                · have hne : bts v ≠ [] := fun h => hv0 (by rw [← bts_len, h]; rfl)
                  have t1 : v.toList.isEmpty = false := by rw [ByteArray.toList_eq]; cases h : v.data.toList; exact absurd h hne; rfl
                  have t2 : (v.toList == []) = false := by rw [ByteArray.toList_eq]; cases h : v.data.toList; exact absurd h hne; rfl
                  have hs1 : (1 : Int) ≤ v.size := by omega
                  have hO3 := HO2.out
                  rw [show ((v.size - 1 : Nat) : Int) = max ((v.size : Int) - 1) 0 by omega] at hO3
                  have HO3 := Lib.hid hO3
                  have hmod : (((v.size : Int) - 1) % 232 == 0) = decide ((v.size - 1) % 232 = 0) := by
                    rw [Bool.eq_iff_iff]; simp; omega
                  clear HO2 hO3 hv0 hne
                  by_cases hq : (v.size - 1) % 232 = 0
                  · rw [decide_eq_true hq] at hmod
                    rcases x1 with x1 | ⟨x1, x3⟩
                    all_goals
                      go_wp2_with fail
                      refine (HO3.out _).mono ?_; rintro e v3 ⟨rfl, p3⟩
                      have G3 := HG2.out.below p3
                      have B3 := below_of p3 B2 B2.size
                      go_wp2_with fail
                      refine (HRD2.out _ _ _ _ _ _ G3).mono ?_; rintro e v4 ⟨⟨U, Q, rfl, hUQ⟩, p4⟩
                      have B4 := below_of p4 B3 B3.size
                      clear hUQ G3
                      go_wp2
                      go_ret
                      exact ⟨rfl, B4⟩
                  · rw [decide_eq_false hq] at hmod
                    rcases x1 with x1 | ⟨x1, x3⟩
                    all_goals
                      go_wp2_with fail
                      refine (HO3.out _).mono ?_; rintro e v3 ⟨rfl, p3⟩
                      have G3 := HG2.out.below p3
                      have B3 := below_of p3 B2 B2.size
                      go_wp2_with fail
                      refine (HRD2.out _ _ _ _ _ _ G3).mono ?_; rintro e v4 ⟨⟨U, Q, rfl, hUQ⟩, p4⟩
                      have B4 := below_of p4 B3 B3.size
                      obtain ⟨rfl, rfl⟩ := hUQ.resolve_left hq
                      clear hUQ G3
                      go_wp2
                      go_ret
                      exact ⟨rfl, B4⟩
/-- BigTells, every input. -/
theorem bigtells_walk (v ref : ByteArray) (first tx n lost : Int) (w : World) (hz : v.size ≤ maxLen) (hr : ref.size ≤ maxLen) (hn : -9223372036854775808 ≤ n) (hn2 : n ≤ 9223372036854775807) :
    Calls Try.prog 4 #[.string v, .int .i64 first, .int .i64 tx, .int .i64 n, .int .i64 lost, .string ref] w fun e w' => e = .returned (.bool true) ∧ Below w.heap.size w w' := by
  unfold maxLen at hz hr
  by_cases h : 3000 < v.size ∨ 100 < ref.size
  · exact bigtells_long v ref first tx n lost w hz hr h
  · exact bigtells_short v ref first tx n lost w (by omega) (by omega) hn hn2
end Go.Proofs.Ytejmpfmkaiaklaa
