/-
  A book that keeps lists of entries alone tells that they are apart. Conditions: fewer than 250 lists, of no more than 4000 elements, each of the call's own, no two in one block.
-/
import Derived.Test.YtgigkekajdgngaaGreatBookEntriesD
namespace Go.Proofs.YtgigkekajdgngaaGreat
open Go Go.RowKit
attribute [local go_sem] cell_set_if

set_option maxRecDepth 100000 in
set_option maxHeartbeats 1000000 in
theorem markedEn_any (base N : Nat) (n : Nat → Nat) (V : List Value) (A : Option Addr) (c : Nat) (w : World) (hr : Rd w A V) (hR : RowsEn w base V N (fun i => marksEn i 0 (n i))) (hN : N < 1000) (hn : ∀ i, n i ≤ 5000) :
    Calls Tryz.prog 84 #[.slice A N c] w fun e w' => e = .returned (.bool true) ∧ Below w.heap.size w w' := by
  have HR := Lib.hid hr
  have HRR := Lib.hid hR
  have HNB := Lib.hid hn
  have hNN : (N : Int) < 1000 := by omega
  clear hr hR hn
  go_enter Tryz.func84, Tryz.ntmps84
  go_wp2
  go_loopw [2, 3] (fun u2 u3 wr => ∃ k : Nat, k ≤ N ∧ u3 = .int .i64 k ∧ Below w.heap.size w wr) (fun _ u3 _ => N - (intOf u3).toNat)
  case atStart => exact ⟨0, by omega, rfl, Below.refl _ _⟩
  case round =>
    obtain ⟨k, hk, rfl, hB⟩ := hrel
    by_cases hlt : k < N
    · obtain ⟨B1, d1, hV, hO⟩ := (HRR.out.below hB).at_ k hlt
      simp only [marksEn_len] at hV hO
      obtain ⟨b1, o1, rfl, hb1, hcs1⟩ := HR.out.flat (by rw [HRR.out.len]; omega)
      have x1 := cell_bb hB hb1 (hcs1 k _ hV)
      have hki : (k : Int) < (N : Int) := by omega
      have hL := HNB.out k
      have hM : Calls Tryz.prog 117 #[.int .i64 k, .int .i64 0, .int .i64 (n k)] wr.drew fun e w' => MadeEn wr.drew.heap.size e w' (marksEn k 0 (n k)) ∧ Below wr.drew.heap.size wr.drew w' := markEn_any k 0 (n k) wr.drew (by omega) (by omega) (by omega)
      have HM := Lib.hid hM
      obtain ⟨xs, hxs⟩ : ∃ xs, xs = marksEn k 0 (n k) := ⟨_, rfl⟩
      have hxl : xs.length = n k := by rw [hxs, marksEn_len]
      have HMK : Hid (∀ w, ∀ x ∈ xs, x.has w) := fun w => by rw [hxs]; exact marksEn_has _ _ _ w
      rw [← hxs] at HM hO
      generalize n k = L at *
      have HXL := Lib.hid hxl
      have HO := Lib.hid hO
      clear hcs1 hM hxs hxl hV hO
      have x1d : wr.drew.cell? ⟨b1, o1 + k, none⟩ = some (.slice B1 L d1) := x1
      go_wp2
      go_region_held3 (fun w' => w'.cell? ⟨b1, o1 + k, none⟩ = some (.slice B1 L d1)) (first | exact x1d | with_reducible assumption)
        (first
          | (go_at_call 117; with_reducible refine HM.out.mono ?_; rintro e w5 ⟨⟨A5, n5, c5, hn5, rfl, ho5⟩, b5⟩
             obtain rfl : n5 = L := by rw [← hn5, HXL.out]
             have x5 := cell_b b5 x1d
             have B5 := below_of b5 hB.drew hB.size
             have R5 := (Rd.of_own HO.out).drew.below b5)
          | (go_at_call 48; with_reducible refine (sameens_yes B1 A5 n5 d1 c5 xs xs w5 R5 (Rd.of_own ho5) HXL.out (by omega) rfl (HMK.out w5) (HMK.out w5)).mono ?_; rintro e w6 ⟨rfl, q6⟩
             have B6 := B5.trans (q6.below _)
             have x6 : w6.cell? ⟨b1, o1 + k, none⟩ = some (.slice B1 n5 d1) := by obtain ⟨m, rfl⟩ := q6; exact x5))
      go_wp2
      go_roundw
      case rel => exact ⟨k + 1, by omega, by go_num, B6⟩
      case measure => simp [intOf]; omega
    · obtain rfl : k = N := by omega
      go_wp2
      go_ret
      exact ⟨rfl, hB⟩
theorem bookEn_none {w : World} {g : Nat} {v1 v2 : Value} (h : Blk w g 39 (bookEn v1 v2)) : w.cell? ⟨g, 0, none⟩ = some (.slice none 0 0) ∧ w.cell? ⟨g, 2, none⟩ = some (.slice none 0 0) ∧ w.cell? ⟨g, 4, none⟩ = some (.slice none 0 0) ∧ w.cell? ⟨g, 6, none⟩ = some (.slice none 0 0) ∧ w.cell? ⟨g, 8, none⟩ = some (.slice none 0 0) ∧ w.cell? ⟨g, 10, none⟩ = some (.slice none 0 0) ∧ w.cell? ⟨g, 12, none⟩ = some (.slice none 0 0) ∧ w.cell? ⟨g, 14, none⟩ = some (.slice none 0 0) :=
  ⟨h.cell 0, h.cell 2, h.cell 4, h.cell 6, h.cell 8, h.cell 10, h.cell 12, h.cell 14⟩
set_option maxRecDepth 100000 in
set_option maxHeartbeats 4000000 in
theorem apartEn_any (base g N : Nat) (n : Nat → Nat) (f fw : Nat → List En) (v1 v2 : Value) (V W : List Value) (w : World) (h : BookEn base w g N f fw v1 v2 V W) (hal : ∀ i, i < N → (f i).map plE = (fw i).map plE ∧ (∀ x ∈ f i, x.has w) ∧ (∀ y ∈ fw i, y.has w)) (hN : N ≤ 250) (hf : ∀ i, (f i).length = n i) (hn : ∀ i, n i ≤ 4000) (hb : base ≤ w.heap.size) :
    Calls Tryz.prog 16 #[.pointer (some ⟨g, 0, none⟩)] w fun e w' => e = .returned (.bool true) ∧ Frm (VS V) w w' := by
  have hfl : ∀ i, (f i).length ≤ 100000 := fun i => by rw [hf i]; have := hn i; omega
  have hSt := stillEn_any base g N f fw v1 v2 V W w h (by omega) hfl hal
  have hB := h.B
  obtain ⟨A1, c1, hv1, hc1⟩ := own_form h.r1
  have HV1 := Lib.hid hv1
  have HSt := Lib.hid hSt
  have HH := Lib.hid h
  have HFL := Lib.hid hfl
  have HF := Lib.hid hf
  have HNB := Lib.hid hn
  have hn72 : ∀ i, n i + 72 ≤ 5000 := fun i => by have := hn i; omega
  have hn20 : ∀ i, n i ≤ 5000 := fun i => by have := hn i; omega
  have HN72 := Lib.hid hn72
  have HN20 := Lib.hid hn20
  have HB0 := Lib.hid hb
  have hrow : ∀ w, BookP base w g N (fun j => marksEn j 0 (n j)) v1 v2 V → w.cell? ⟨g, 16, none⟩ = some (.slice A1 N c1) ∧ Rd w A1 V := fun w h => ⟨by rw [h.B.cell 16, hv1]; rfl, Rd.of_own (by have := h.r1; rwa [hv1] at this)⟩
  have HROW := Lib.hid hrow
  obtain ⟨q0, q1, q2, q3, q4, q5, q6, q7⟩ := bookEn_none hB
  clear hSt h hal hfl hv1 hf hn hn72 hn20 hrow hb
  go_enter Tryz.func16, Tryz.ntmps16
  dsimp only [List.append]
  go_wp2_with (first
    | (go_at_call 49; with_reducible refine (stillTexts_none g _ (by assumption)).mono ?_; rintro e w' ⟨rfl, hw⟩; subst hw)
    | (go_at_call 60; with_reducible refine (putTexts_none g _ (by assumption)).mono ?_; rintro e w' ⟨rfl, hw⟩; subst hw)
    | (go_at_call 67; with_reducible refine (growTexts_none g _ (by assumption)).mono ?_; rintro e w' ⟨rfl, hw⟩; subst hw)
    | (go_at_call 76; with_reducible refine (markedTexts_none _).mono ?_; rintro e w' ⟨rfl, hw⟩; subst hw)
    | (go_at_call 50; with_reducible refine (stillInts_none g _ (by assumption)).mono ?_; rintro e w' ⟨rfl, hw⟩; subst hw)
    | (go_at_call 61; with_reducible refine (putInts_none g _ (by assumption)).mono ?_; rintro e w' ⟨rfl, hw⟩; subst hw)
    | (go_at_call 68; with_reducible refine (growInts_none g _ (by assumption)).mono ?_; rintro e w' ⟨rfl, hw⟩; subst hw)
    | (go_at_call 77; with_reducible refine (markedInts_none _).mono ?_; rintro e w' ⟨rfl, hw⟩; subst hw)
    | (go_at_call 51; with_reducible refine (stillItems_none g _ (by assumption)).mono ?_; rintro e w' ⟨rfl, hw⟩; subst hw)
    | (go_at_call 62; with_reducible refine (putItems_none g _ (by assumption)).mono ?_; rintro e w' ⟨rfl, hw⟩; subst hw)
    | (go_at_call 69; with_reducible refine (growItems_none g _ (by assumption)).mono ?_; rintro e w' ⟨rfl, hw⟩; subst hw)
    | (go_at_call 78; with_reducible refine (markedItems_none _).mono ?_; rintro e w' ⟨rfl, hw⟩; subst hw)
    | (go_at_call 52; with_reducible refine (stillKids_none g _ (by assumption)).mono ?_; rintro e w' ⟨rfl, hw⟩; subst hw)
    | (go_at_call 63; with_reducible refine (putKids_none g _ (by assumption)).mono ?_; rintro e w' ⟨rfl, hw⟩; subst hw)
    | (go_at_call 70; with_reducible refine (growKids_none g _ (by assumption)).mono ?_; rintro e w' ⟨rfl, hw⟩; subst hw)
    | (go_at_call 79; with_reducible refine (markedKids_none _).mono ?_; rintro e w' ⟨rfl, hw⟩; subst hw)
    | (go_at_call 53; with_reducible refine (stillPairs_none g _ (by assumption)).mono ?_; rintro e w' ⟨rfl, hw⟩; subst hw)
    | (go_at_call 64; with_reducible refine (putPairs_none g _ (by assumption)).mono ?_; rintro e w' ⟨rfl, hw⟩; subst hw)
    | (go_at_call 71; with_reducible refine (growPairs_none g _ (by assumption)).mono ?_; rintro e w' ⟨rfl, hw⟩; subst hw)
    | (go_at_call 80; with_reducible refine (markedPairs_none _).mono ?_; rintro e w' ⟨rfl, hw⟩; subst hw)
    | (go_at_call 54; with_reducible refine (stillReplies_none g _ (by assumption)).mono ?_; rintro e w' ⟨rfl, hw⟩; subst hw)
    | (go_at_call 65; with_reducible refine (putReplies_none g _ (by assumption)).mono ?_; rintro e w' ⟨rfl, hw⟩; subst hw)
    | (go_at_call 72; with_reducible refine (growReplies_none g _ (by assumption)).mono ?_; rintro e w' ⟨rfl, hw⟩; subst hw)
    | (go_at_call 81; with_reducible refine (markedReplies_none _).mono ?_; rintro e w' ⟨rfl, hw⟩; subst hw)
    | (go_at_call 55; with_reducible refine (stillCmds_none g _ (by assumption)).mono ?_; rintro e w' ⟨rfl, hw⟩; subst hw)
    | (go_at_call 66; with_reducible refine (putCmds_none g _ (by assumption)).mono ?_; rintro e w' ⟨rfl, hw⟩; subst hw)
    | (go_at_call 73; with_reducible refine (growCmds_none g _ (by assumption)).mono ?_; rintro e w' ⟨rfl, hw⟩; subst hw)
    | (go_at_call 82; with_reducible refine (markedCmds_none _).mono ?_; rintro e w' ⟨rfl, hw⟩; subst hw)
    | (go_at_call 56; with_reducible refine (stillSteps_none g _ (by assumption)).mono ?_; rintro e w' ⟨rfl, hw⟩; subst hw)
    | (go_at_call 58; with_reducible refine (putSteps_none g _ (by assumption)).mono ?_; rintro e w' ⟨rfl, hw⟩; subst hw)
    | (go_at_call 74; with_reducible refine (growSteps_none g _ (by assumption)).mono ?_; rintro e w' ⟨rfl, hw⟩; subst hw)
    | (go_at_call 83; with_reducible refine (markedSteps_none _).mono ?_; rintro e w' ⟨rfl, hw⟩; subst hw)
    | (go_at_call 57; with_reducible refine HSt.out.mono ?_; rintro e w1 ⟨rfl, qt1⟩; have B1 := HH.out.below (qt1.below _); obtain ⟨r0, r1, r2, r3, r4, r5, r6, r7⟩ := bookEn_none B1.B; have F1 := Frm.of_below (S := VS V) (qt1.below _))
    | (go_at_call 59; with_reducible refine (putEn_any base g N f v1 v2 V _ B1.p (by omega) HFL.out).mono ?_; rintro e w2 ⟨rfl, P2, F2⟩; obtain ⟨s0, s1, s2, s3, s4, s5, s6, s7⟩ := bookEn_none P2.B; have F2' := F1.then_ F2; have P2' := P2.congr (f' := fun j => marksEn j 0 (n j)) (fun i _ => by rw [HF.out i]))
    | (go_at_call 75; with_reducible refine (growEn_any base g N n v1 v2 V _ P2' (by omega) HNB.out (Nat.le_trans HB0.out F2'.size)).mono ?_; rintro e w3 ⟨A3, c3, G, rfl, K3⟩; obtain ⟨t0, t1, t2, t3, t4, t5, t6, t7⟩ := bookEn_none K3.P.B; have F3 := F2'.then_ K3.F)
    | (go_at_call 84; with_reducible refine (markedEn_any base N (fun i => n i + 72) G A3 c3 _ (Rd.of_own K3.o) K3.r (by omega) HN72.out).mono ?_; rintro e w4 ⟨rfl, b4⟩; have K4 := K3.below b4; obtain ⟨u0, u1, u2, u3, u4, u5, u6, u7⟩ := bookEn_none K4.P.B; have F4 := F3.step b4; obtain ⟨x6, y6⟩ := HROW.out _ K4.P)
    | (go_at_call 84; with_reducible refine (markedEn_any base N n V A1 c1 _ y6 K4.P.rV (by omega) HN20.out).mono ?_; rintro e w5 ⟨rfl, b5⟩; have K5 := K4.below b5; obtain ⟨z0, z1, z2, z3, z4, z5, z6, z7⟩ := bookEn_none K5.P.B; have F5 := F4.step b5))
  go_ret
  exact ⟨rfl, F5⟩
theorem BookEn.congr {base g N : Nat} {w : World} {f f' fw fw' : Nat → List En} {v1 v2 : Value} {V W : List Value} (h : BookEn base w g N f fw v1 v2 V W) (e : ∀ i, i < N → f' i = f i) (e' : ∀ i, i < N → fw' i = fw i) : BookEn base w g N f' fw' v1 v2 V W :=
  ⟨h.lo, h.B, h.r1, h.r2, h.rV.congr e, h.rW.congr e', h.ap, h.ne⟩
/-- A new book. -/
theorem BookEn.start (base : Nat) (w : World) (hb : base ≤ w.heap.size) (f fw : Nat → List En) : BookEn base (w.alloc (.cells (bookEn (.slice none 0 0) (.slice none 0 0)) 39)) w.heap.size 0 f fw (.slice none 0 0) (.slice none 0 0) [] [] :=
  ⟨hb, Blk.new _ _ _, World.ownsRow_nil _ _ _ _, World.ownsRow_nil _ _ _ _, ⟨rfl, fun i hi => by omega⟩, ⟨rfl, fun i hi => by omega⟩, fun i j x y k _ h => by simp at h, fun k hk => by simp [Value.ownBlock] at hk⟩
theorem RowsEn.base_ {w : World} {base base' N : Nat} {V : List Value} {f : Nat → List En} (h : RowsEn w base V N f) (hb : base' ≤ base) : RowsEn w base' V N f :=
  ⟨h.len, fun i hi => by obtain ⟨A, c, h1, h2⟩ := h.at_ i hi; exact ⟨A, c, h1, own_base h2 hb⟩⟩
end Go.Proofs.YtgigkekajdgngaaGreat
