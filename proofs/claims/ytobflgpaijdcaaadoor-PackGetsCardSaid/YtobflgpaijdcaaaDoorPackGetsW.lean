/-
  The walk of the law PackGets. Condition: the library's table of powers of ten is as its text lays it.
-/
import Derived.Test.YtobflgpaijdcaaaDoorPackOps
namespace Go.Proofs.YtobflgpaijdcaaaDoor
open Go Go.RowKit
attribute [local go_sem] cell_set_if

theorem rn_as {f : FuncId} {args : Array Value} {w : World} {g : Nat} {x : Int × PS} {n : Int} {s' : PS} (h : Calls Tryd.prog f args w fun e w' => e = .returned (.int .i64 x.1) ∧ RefS w' g x.2 ∧ Frm (at1 g) w w') (e : x = (n, s')) :
    Calls Tryd.prog f args w fun e w' => e = .returned (.int .i64 n) ∧ RefS w' g s' ∧ Frm (at1 g) w w' := by subst e; exact h
theorem rt_as {f : FuncId} {args : Array Value} {w : World} {g : Nat} {x : List UInt8 × PS} {T : ByteArray} {s' : PS} (h : Calls Tryd.prog f args w fun e w' => e = .returned (str x.1) ∧ RefS w' g x.2 ∧ Frm (at1 g) w w') (e : x = (bts T, s')) :
    Calls Tryd.prog f args w fun e w' => e = .returned (.string T) ∧ RefS w' g s' ∧ Frm (at1 g) w w' := by
  subst e
  have : str (bts T) = .string T := by rw [show str (bts T) = .string (bs (bts T)) from rfl, bs_bts]
  rw [← this]; exact h
theorem getRaw_left (n : Int) (s : PS) : (getRaw n s).2.1.length ≤ s.1.length := by
  unfold getRaw
  split
  · split
    · simp
    · split
      · simp
      · simp
  · simp
theorem getNum_left (n : Nat) (s : PS) : (getNum n s).2.1.length ≤ s.1.length := getRaw_left n s
theorem getText_left (s : PS) : (getText s).2.1.length ≤ s.1.length := Nat.le_trans (getRaw_left _ _) (getNum_left 2 s)

set_option maxRecDepth 100000 in
set_option maxHeartbeats 8000000 in
theorem gets_good (b : ByteArray) (A : Option Addr) (n c : Nat) (os : List OpV) (w : World) (ht : PowIs w) (hb : b.size ≤ 2000) (hr : Rd w A (flatO os)) (hn : os.length = n) (hm : n ≤ maxLen) (hs : ∀ o ∈ os, o.txt.size ≤ maxLen) (hl : lightO os = true) :
    Calls Tryd.prog 3 #[.string b, .slice A n c] w fun e w' => e = .returned (.bool true) ∧ Below w.heap.size w w' := by
  have h60 : n ≤ 60 := by
    unfold lightO at hl
    simp at hl
    omega
  have hnn : (n : Int) ≤ 60 := by omega
  have hbb : (b.size : Int) ≤ 2000 := by omega
  have hlight := light_any A n c os w hr hn hm hs
  rw [hl] at hlight
  have HLI := Lib.hid hlight
  have HT := Lib.hid ht
  have HR := Lib.hid hr
  have HN := Lib.hid hn
  clear hl hlight ht hr hn hs hm
  have R0 : RefS (w.alloc (.cells #[.string b, .int .i64 0] 30)) w.heap.size (bts b, 0) := by
    show Blk _ _ _ #[.string (bs (bts b)), _]
    rw [bs_bts]; exact Blk.new _ _ _
  clear R0
  go_enter Tryd.func3, Tryd.ntmps3
  go_wp2_with (first
    | (go_at_call 12; refine HLI.out.mono ?_; rintro e w0 ⟨rfl, hw0⟩; subst hw0)
    | (go_at_call 13; refine (alive1_any _ HT.out).mono ?_; rintro e wa ⟨rfl, ba⟩)
    | (go_at_call 14; refine (from_s b _).mono ?_; rintro e w1 ⟨rfl, G1, b1⟩
       have R2 : RefS (w1.alloc (.cells #[.string b, .int .i64 0] 30)) w1.heap.size (bts b, 0) := by
         show Blk _ _ _ #[.string (bs (bts b)), _]
         rw [bs_bts]; exact Blk.new _ _ _
       have G2 := G1.alloc (.cells #[.string b, .int .i64 0] 30)
       have B2 : Below w0.heap.size w0 (w1.alloc (.cells #[.string b, .int .i64 0] 30)) := (below_of b1 ba ba.size).alloc (Nat.le_trans ba.size b1.size) _
       have hg1 : w0.heap.size ≤ wa.heap.size := ba.size
       have hg2 : wa.heap.size < w1.heap.size := G1.lt))
  generalize wa.heap.size = g1 at *
  generalize w1.heap.size = g2 at *
  go_loopw [7] (fun u7 wr => ∃ (k : Nat) (S : PS), k ≤ n ∧ u7 = .int .i64 k ∧ S.1.length ≤ 2000 ∧ GetS wr g1 S ∧ RefS wr g2 S ∧ Below w0.heap.size w0 wr) (fun u7 _ => n - (intOf u7).toNat)
  case atStart => exact ⟨0, (bts b, 0), by omega, rfl, by dsimp only; rw [bts_len]; exact hb, G2, R2, B2⟩
  case round =>
    obtain ⟨k, S, hk, rfl, hlen, hG, hR, hB⟩ := hrel
    clear G2 R2 B2 G1 b1 ba
    by_cases hlt : k < n
    · obtain ⟨o, ho⟩ : ∃ o, os[k]? = some o := ⟨os[k]'(by have := HN.out; omega), List.getElem?_eq_getElem _⟩
      obtain ⟨bb, off, rfl, hbl, hcs⟩ := HR.out.flat (by rw [flatO_len]; have := HN.out; omega)
      have d0 : wr.cell? ⟨bb, off + k * 3, none⟩ = some (.int .i64 o.kind) := by rw [(below_cells hB).1 bb _ hbl]; exact hcs _ _ (flatO_at os k o ho 0 _ rfl)
      have d1 : wr.cell? ⟨bb, off + k * 3 + 1, none⟩ = some (.int .i64 o.num) := by rw [(below_cells hB).1 bb _ hbl, Nat.add_assoc]; exact hcs _ _ (flatO_at os k o ho 1 _ rfl)
      have d2 : wr.cell? ⟨bb, off + k * 3 + 2, none⟩ = some (.string o.txt) := by rw [(below_cells hB).1 bb _ hbl, Nat.add_assoc]; exact hcs _ _ (flatO_at os k o ho 2 _ rfl)
      have G1 := hG.alloc (.cells #[.int .i64 o.kind, .int .i64 o.num, .string o.txt] 32)
      have R1 := hR.below ((Below.refl _ _).alloc (Nat.le_refl _) (.cells #[.int .i64 o.kind, .int .i64 o.num, .string o.txt] 32))
      have B1 := hB.alloc hB.size (.cells #[.int .i64 o.kind, .int .i64 o.num, .string o.txt] 32)
      have hn1 : ¬ at1 g1 g2 := by unfold at1; omega
      have hn2 : ¬ at1 g2 g1 := by unfold at1; omega
      clear hcs ho
      have hkinds : o.kind = 1 ∨ o.kind = 2 ∨ o.kind = 3 ∨ o.kind = 4 ∨ o.kind = 5 ∨ (o.kind ≠ 1 ∧ o.kind ≠ 2 ∧ o.kind ≠ 3 ∧ o.kind ≠ 4 ∧ o.kind ≠ 5) := by omega
      rcases hkinds with hkd | hkd | hkd | hkd | hkd | ⟨hk1, hk2, hk3, hk4, hk5⟩
      · -- kind 1
        have hL := getNum_left 1 S
        generalize hx : getNum 1 S = x at hL
        obtain ⟨z, S'⟩ := x
        have HX := Lib.hid hx
        clear hx
        have hzz : (z == z) = true := by simp
        have hkk := hkd
        generalize o.kind = kd at *
        subst hkk
        clear hkd
        obtain ⟨lf, hlf⟩ : ∃ lf, lf = leftP S' := ⟨_, rfl⟩
        have HLF := Lib.hid hlf
        have hll : (lf != lf) = false := by simp
        obtain ⟨l', er⟩ := S'
        have hee : (er != er) = false := by simp
        clear hlf
        go_wp2_with (first
          | (go_at_call 15; refine (gn_as (gbyte_s _ _ _ G1 (by omega)) HX.out).mono ?_; rintro e w3 ⟨rfl, G2, f3⟩; have R2 := R1.frm f3 hn1; have B2 := below_frm B1 f3 (Nat.le_refl _) (fun i hi => by unfold at1 at hi; omega))
          | (go_at_call 16; refine (rn_as (rnum_s _ 1 _ _ R2 (by decide)) HX.out).mono ?_; rintro e w4 ⟨rfl, R3, f4⟩; have G3 := G2.frm f4 hn2; have B3 := below_frm B2 f4 (Nat.le_refl _) (fun i hi => by unfold at1 at hi; omega)))
        have rc1 : w4.cell? ⟨g2, 1, none⟩ = some (.int .i64 er) := R3.cell1
        have hq1 : Hid (∀ W : World, W.heap = w4.heap → Calls Tryd.prog 24 #[ptr g1] W fun e w' => e = .returned (.int .i64 lf) ∧ w' = W) := by intro W hW; rw [HLF.out]; exact gleft_s g1 _ W (by unfold GetS Blk; rw [hW]; exact G3)
        have hq2 : Hid (∀ W : World, W.heap = w4.heap → Calls Tryd.prog 25 #[ptr g2] W fun e w' => e = .returned (.int .i64 lf) ∧ w' = W) := by intro W hW; rw [HLF.out]; exact rleft_s g2 _ W (by unfold RefS Blk; rw [hW]; exact R3)
        have hq3 : Hid (∀ W : World, W.heap = w4.heap → Calls Tryd.prog 26 #[ptr g1] W fun e w' => e = .returned (.int .i64 er) ∧ w' = W) := by intro W hW; exact gbad_s g1 (l', er) W (by unfold GetS Blk; rw [hW]; exact G3)
        go_quiet ((first | (go_at_call 24; exact Calls.quiet_of_same (hq1.out _ rfl)) | (go_at_call 25; exact Calls.quiet_of_same (hq2.out _ rfl)) | (go_at_call 26; exact Calls.quiet_of_same (hq3.out _ rfl))))
        go_wp2
        go_roundw
        case rel => exact ⟨k + 1, (l', er), by omega, by go_num, by dsimp only; omega, G3.below (below_drewN (Below.refl _ _) _), R3.below (below_drewN (Below.refl _ _) _), below_drewN B3 _⟩
        case measure => simp [intOf]; omega
      · -- kind 2
        have hL := getNum_left 2 S
        generalize hx : getNum 2 S = x at hL
        obtain ⟨z, S'⟩ := x
        have HX := Lib.hid hx
        clear hx
        have hzz : (z == z) = true := by simp
        have hkk := hkd
        generalize o.kind = kd at *
        subst hkk
        clear hkd
        obtain ⟨lf, hlf⟩ : ∃ lf, lf = leftP S' := ⟨_, rfl⟩
        have HLF := Lib.hid hlf
        have hll : (lf != lf) = false := by simp
        obtain ⟨l', er⟩ := S'
        have hee : (er != er) = false := by simp
        clear hlf
        go_wp2_with (first
          | (go_at_call 17; refine (gn_as (ghalf_s _ _ _ G1 (by omega)) HX.out).mono ?_; rintro e w3 ⟨rfl, G2, f3⟩; have R2 := R1.frm f3 hn1; have B2 := below_frm B1 f3 (Nat.le_refl _) (fun i hi => by unfold at1 at hi; omega))
          | (go_at_call 16; refine (rn_as (rnum_s _ 2 _ _ R2 (by decide)) HX.out).mono ?_; rintro e w4 ⟨rfl, R3, f4⟩; have G3 := G2.frm f4 hn2; have B3 := below_frm B2 f4 (Nat.le_refl _) (fun i hi => by unfold at1 at hi; omega)))
        have rc1 : w4.cell? ⟨g2, 1, none⟩ = some (.int .i64 er) := R3.cell1
        have hq1 : Hid (∀ W : World, W.heap = w4.heap → Calls Tryd.prog 24 #[ptr g1] W fun e w' => e = .returned (.int .i64 lf) ∧ w' = W) := by intro W hW; rw [HLF.out]; exact gleft_s g1 _ W (by unfold GetS Blk; rw [hW]; exact G3)
        have hq2 : Hid (∀ W : World, W.heap = w4.heap → Calls Tryd.prog 25 #[ptr g2] W fun e w' => e = .returned (.int .i64 lf) ∧ w' = W) := by intro W hW; rw [HLF.out]; exact rleft_s g2 _ W (by unfold RefS Blk; rw [hW]; exact R3)
        have hq3 : Hid (∀ W : World, W.heap = w4.heap → Calls Tryd.prog 26 #[ptr g1] W fun e w' => e = .returned (.int .i64 er) ∧ w' = W) := by intro W hW; exact gbad_s g1 (l', er) W (by unfold GetS Blk; rw [hW]; exact G3)
        go_quiet ((first | (go_at_call 24; exact Calls.quiet_of_same (hq1.out _ rfl)) | (go_at_call 25; exact Calls.quiet_of_same (hq2.out _ rfl)) | (go_at_call 26; exact Calls.quiet_of_same (hq3.out _ rfl))))
        go_wp2
        go_roundw
        case rel => exact ⟨k + 1, (l', er), by omega, by go_num, by dsimp only; omega, G3.below (below_drewN (Below.refl _ _) _), R3.below (below_drewN (Below.refl _ _) _), below_drewN B3 _⟩
        case measure => simp [intOf]; omega
      · -- kind 3
        have hL := getNum_left 4 S
        generalize hx : getNum 4 S = x at hL
        obtain ⟨z, S'⟩ := x
        have HX := Lib.hid hx
        clear hx
        have hzz : (z == z) = true := by simp
        have hkk := hkd
        generalize o.kind = kd at *
        subst hkk
        clear hkd
        obtain ⟨lf, hlf⟩ : ∃ lf, lf = leftP S' := ⟨_, rfl⟩
        have HLF := Lib.hid hlf
        have hll : (lf != lf) = false := by simp
        obtain ⟨l', er⟩ := S'
        have hee : (er != er) = false := by simp
        clear hlf
        go_wp2_with (first
          | (go_at_call 18; refine (gn_as (gword_s _ _ _ G1 (by omega)) HX.out).mono ?_; rintro e w3 ⟨rfl, G2, f3⟩; have R2 := R1.frm f3 hn1; have B2 := below_frm B1 f3 (Nat.le_refl _) (fun i hi => by unfold at1 at hi; omega))
          | (go_at_call 16; refine (rn_as (rnum_s _ 4 _ _ R2 (by decide)) HX.out).mono ?_; rintro e w4 ⟨rfl, R3, f4⟩; have G3 := G2.frm f4 hn2; have B3 := below_frm B2 f4 (Nat.le_refl _) (fun i hi => by unfold at1 at hi; omega)))
        have rc1 : w4.cell? ⟨g2, 1, none⟩ = some (.int .i64 er) := R3.cell1
        have hq1 : Hid (∀ W : World, W.heap = w4.heap → Calls Tryd.prog 24 #[ptr g1] W fun e w' => e = .returned (.int .i64 lf) ∧ w' = W) := by intro W hW; rw [HLF.out]; exact gleft_s g1 _ W (by unfold GetS Blk; rw [hW]; exact G3)
        have hq2 : Hid (∀ W : World, W.heap = w4.heap → Calls Tryd.prog 25 #[ptr g2] W fun e w' => e = .returned (.int .i64 lf) ∧ w' = W) := by intro W hW; rw [HLF.out]; exact rleft_s g2 _ W (by unfold RefS Blk; rw [hW]; exact R3)
        have hq3 : Hid (∀ W : World, W.heap = w4.heap → Calls Tryd.prog 26 #[ptr g1] W fun e w' => e = .returned (.int .i64 er) ∧ w' = W) := by intro W hW; exact gbad_s g1 (l', er) W (by unfold GetS Blk; rw [hW]; exact G3)
        go_quiet ((first | (go_at_call 24; exact Calls.quiet_of_same (hq1.out _ rfl)) | (go_at_call 25; exact Calls.quiet_of_same (hq2.out _ rfl)) | (go_at_call 26; exact Calls.quiet_of_same (hq3.out _ rfl))))
        go_wp2
        go_roundw
        case rel => exact ⟨k + 1, (l', er), by omega, by go_num, by dsimp only; omega, G3.below (below_drewN (Below.refl _ _) _), R3.below (below_drewN (Below.refl _ _) _), below_drewN B3 _⟩
        case measure => simp [intOf]; omega
      · -- kind 4
        have hL := getNum_left 8 S
        generalize hx : getNum 8 S = x at hL
        obtain ⟨z, S'⟩ := x
        have HX := Lib.hid hx
        clear hx
        have hzz : (z == z) = true := by simp
        have hkk := hkd
        generalize o.kind = kd at *
        subst hkk
        clear hkd
        obtain ⟨lf, hlf⟩ : ∃ lf, lf = leftP S' := ⟨_, rfl⟩
        have HLF := Lib.hid hlf
        have hll : (lf != lf) = false := by simp
        obtain ⟨l', er⟩ := S'
        have hee : (er != er) = false := by simp
        clear hlf
        go_wp2_with (first
          | (go_at_call 19; refine (gn_as (gint_s _ _ _ G1 (by omega)) HX.out).mono ?_; rintro e w3 ⟨rfl, G2, f3⟩; have R2 := R1.frm f3 hn1; have B2 := below_frm B1 f3 (Nat.le_refl _) (fun i hi => by unfold at1 at hi; omega))
          | (go_at_call 16; refine (rn_as (rnum_s _ 8 _ _ R2 (by decide)) HX.out).mono ?_; rintro e w4 ⟨rfl, R3, f4⟩; have G3 := G2.frm f4 hn2; have B3 := below_frm B2 f4 (Nat.le_refl _) (fun i hi => by unfold at1 at hi; omega)))
        have rc1 : w4.cell? ⟨g2, 1, none⟩ = some (.int .i64 er) := R3.cell1
        have hq1 : Hid (∀ W : World, W.heap = w4.heap → Calls Tryd.prog 24 #[ptr g1] W fun e w' => e = .returned (.int .i64 lf) ∧ w' = W) := by intro W hW; rw [HLF.out]; exact gleft_s g1 _ W (by unfold GetS Blk; rw [hW]; exact G3)
        have hq2 : Hid (∀ W : World, W.heap = w4.heap → Calls Tryd.prog 25 #[ptr g2] W fun e w' => e = .returned (.int .i64 lf) ∧ w' = W) := by intro W hW; rw [HLF.out]; exact rleft_s g2 _ W (by unfold RefS Blk; rw [hW]; exact R3)
        have hq3 : Hid (∀ W : World, W.heap = w4.heap → Calls Tryd.prog 26 #[ptr g1] W fun e w' => e = .returned (.int .i64 er) ∧ w' = W) := by intro W hW; exact gbad_s g1 (l', er) W (by unfold GetS Blk; rw [hW]; exact G3)
        go_quiet ((first | (go_at_call 24; exact Calls.quiet_of_same (hq1.out _ rfl)) | (go_at_call 25; exact Calls.quiet_of_same (hq2.out _ rfl)) | (go_at_call 26; exact Calls.quiet_of_same (hq3.out _ rfl))))
        go_wp2
        go_roundw
        case rel => exact ⟨k + 1, (l', er), by omega, by go_num, by dsimp only; omega, G3.below (below_drewN (Below.refl _ _) _), R3.below (below_drewN (Below.refl _ _) _), below_drewN B3 _⟩
        case measure => simp [intOf]; omega
      · -- kind 5
        have hL := getText_left S
        obtain ⟨T, S', hx⟩ : ∃ T S', getText S = (bts T, S') := ⟨bs (getText S).1, (getText S).2, rfl⟩
        rw [hx] at hL
        have HX := Lib.hid hx
        clear hx
        have hkk := hkd
        generalize o.kind = kd at *
        subst hkk
        clear hkd
        obtain ⟨lf, hlf⟩ : ∃ lf, lf = leftP S' := ⟨_, rfl⟩
        have HLF := Lib.hid hlf
        have hll : (lf != lf) = false := by simp
        obtain ⟨l', er⟩ := S'
        have hee : (er != er) = false := by simp
        clear hlf
        go_wp2_with (first
          | (go_at_call 20; refine (gt_as (gtext_s _ _ _ G1 (by omega)) HX.out).mono ?_; rintro e w3 ⟨rfl, G2, f3⟩; have R2 := R1.frm f3 hn1; have B2 := below_frm B1 f3 (Nat.le_refl _) (fun i hi => by unfold at1 at hi; omega))
          | (go_at_call 21; refine (rt_as (rtext_s _ _ _ R2) HX.out).mono ?_; rintro e w4 ⟨rfl, R3, f4⟩; have G3 := G2.frm f4 hn2; have B3 := below_frm B2 f4 (Nat.le_refl _) (fun i hi => by unfold at1 at hi; omega)))
        have rc1 : w4.cell? ⟨g2, 1, none⟩ = some (.int .i64 er) := R3.cell1
        have hq1 : Hid (∀ W : World, W.heap = w4.heap → Calls Tryd.prog 24 #[ptr g1] W fun e w' => e = .returned (.int .i64 lf) ∧ w' = W) := by intro W hW; rw [HLF.out]; exact gleft_s g1 _ W (by unfold GetS Blk; rw [hW]; exact G3)
        have hq2 : Hid (∀ W : World, W.heap = w4.heap → Calls Tryd.prog 25 #[ptr g2] W fun e w' => e = .returned (.int .i64 lf) ∧ w' = W) := by intro W hW; rw [HLF.out]; exact rleft_s g2 _ W (by unfold RefS Blk; rw [hW]; exact R3)
        have hq3 : Hid (∀ W : World, W.heap = w4.heap → Calls Tryd.prog 26 #[ptr g1] W fun e w' => e = .returned (.int .i64 er) ∧ w' = W) := by intro W hW; exact gbad_s g1 (l', er) W (by unfold GetS Blk; rw [hW]; exact G3)
        go_quiet ((first | (go_at_call 24; exact Calls.quiet_of_same (hq1.out _ rfl)) | (go_at_call 25; exact Calls.quiet_of_same (hq2.out _ rfl)) | (go_at_call 26; exact Calls.quiet_of_same (hq3.out _ rfl))))
        go_wp2
        go_roundw
        case rel => exact ⟨k + 1, (l', er), by omega, by go_num, by dsimp only; omega, G3.below (below_drewN (Below.refl _ _) _), R3.below (below_drewN (Below.refl _ _) _), below_drewN B3 _⟩
        case measure => simp [intOf]; omega
      · -- kind 6
        have hL := getRaw_left o.num S
        obtain ⟨T, S', hx⟩ : ∃ T S', getRaw o.num S = (bts T, S') := ⟨bs (getRaw o.num S).1, (getRaw o.num S).2, rfl⟩
        rw [hx] at hL
        have HX := Lib.hid hx
        clear hx
        have b1 : (o.kind == 1) = false := by simpa using hk1
        have b2 : (o.kind == 2) = false := by simpa using hk2
        have b3 : (o.kind == 3) = false := by simpa using hk3
        have b4 : (o.kind == 4) = false := by simpa using hk4
        have b5 : (o.kind == 5) = false := by simpa using hk5
        have OB : Blk (wr.alloc (.cells #[.int .i64 o.kind, .int .i64 o.num, .string o.txt] 32)) wr.heap.size 32 #[.int .i64 o.kind, .int .i64 o.num, .string o.txt] := Blk.new _ _ _
        have hn3 : ¬ at1 g1 wr.heap.size := by have := hG.lt; unfold at1; omega
        have hn4 : ¬ at1 g2 wr.heap.size := by have := hR.lt; unfold at1; omega
        clear hk1 hk2 hk3 hk4 hk5
        obtain ⟨lf, hlf⟩ : ∃ lf, lf = leftP S' := ⟨_, rfl⟩
        have HLF := Lib.hid hlf
        have hll : (lf != lf) = false := by simp
        obtain ⟨l', er⟩ := S'
        have hee : (er != er) = false := by simp
        clear hlf
        go_wp2_with fail
        have oc : (wr.alloc (.cells #[.int .i64 o.kind, .int .i64 o.num, .string o.txt] 32)).cell? ⟨wr.heap.size, 1, none⟩ = some (.int .i64 o.num) := OB.cell 1
        replace G1 := G1.below ((Below.refl _ _).drew)
        replace R1 := R1.below ((Below.refl _ _).drew)
        replace B1 := B1.drew
        replace OB := OB.drew
        go_region_held3 (fun w' => w'.cell? ⟨wr.heap.size, 1, none⟩ = some (.int .i64 o.num)) (exact oc)
          (first
            | (go_at_call 22; refine (gt_as (graw_s _ _ _ _ G1 (by omega)) HX.out).mono ?_; rintro e w3 ⟨rfl, G2, f3⟩; have R2 := R1.frm f3 hn1; have B2 := below_frm B1 f3 (Nat.le_refl _) (fun i hi => by unfold at1 at hi; omega); have OB2 := OB.frm f3 hn3; have oc : w3.cell? ⟨wr.heap.size, 1, none⟩ = some (.int .i64 o.num) := OB2.cell 1)
            | (go_at_call 23; refine (rt_as (rraw_s _ _ _ _ R2) HX.out).mono ?_; rintro e w4 ⟨rfl, R3, f4⟩; have G3 := G2.frm f4 hn2; have B3 := below_frm B2 f4 (Nat.le_refl _) (fun i hi => by unfold at1 at hi; omega); have OB3 := OB2.frm f4 hn4; have oc : w4.cell? ⟨wr.heap.size, 1, none⟩ = some (.int .i64 o.num) := OB3.cell 1))
        go_wp2_with fail
        have rc1 : w4.cell? ⟨g2, 1, none⟩ = some (.int .i64 er) := R3.cell1
        have hq1 : Hid (∀ W : World, W.heap = w4.heap → Calls Tryd.prog 24 #[ptr g1] W fun e w' => e = .returned (.int .i64 lf) ∧ w' = W) := by intro W hW; rw [HLF.out]; exact gleft_s g1 _ W (by unfold GetS Blk; rw [hW]; exact G3)
        have hq2 : Hid (∀ W : World, W.heap = w4.heap → Calls Tryd.prog 25 #[ptr g2] W fun e w' => e = .returned (.int .i64 lf) ∧ w' = W) := by intro W hW; rw [HLF.out]; exact rleft_s g2 _ W (by unfold RefS Blk; rw [hW]; exact R3)
        have hq3 : Hid (∀ W : World, W.heap = w4.heap → Calls Tryd.prog 26 #[ptr g1] W fun e w' => e = .returned (.int .i64 er) ∧ w' = W) := by intro W hW; exact gbad_s g1 (l', er) W (by unfold GetS Blk; rw [hW]; exact G3)
        go_quiet ((first | (go_at_call 24; exact Calls.quiet_of_same (hq1.out _ rfl)) | (go_at_call 25; exact Calls.quiet_of_same (hq2.out _ rfl)) | (go_at_call 26; exact Calls.quiet_of_same (hq3.out _ rfl))))
        go_wp2
        go_roundw
        case rel => exact ⟨k + 1, (l', er), by omega, by go_num, by dsimp only; omega, G3.below (below_drewN (Below.refl _ _) _), R3.below (below_drewN (Below.refl _ _) _), below_drewN B3 _⟩
        case measure => simp [intOf]; omega
    · obtain rfl : k = n := by omega
      have hn1 : ¬ at1 g1 g2 := by unfold at1; omega
      have hee : ((endG S).2 == (endG S).2) = true := by simp
      go_wp2_with (first
        | (go_at_call 27; refine (gend_s _ _ _ hG).mono ?_; rintro e w3 ⟨rfl, G2, f3⟩; have R2 := hR.frm f3 hn1; have B2 := below_frm hB f3 (Nat.le_refl _) (fun i hi => by unfold at1 at hi; omega))
        | (go_at_call 28; refine (rend_s _ _ _ R2).mono ?_; rintro e w4 ⟨rfl, R3, f4⟩; have B3 := below_frm B2 f4 (Nat.le_refl _) (fun i hi => by unfold at1 at hi; omega)))
      go_ret
      exact ⟨rfl, B3⟩

theorem packgets_walk (b : ByteArray) (A : Option Addr) (n c : Nat) (os : List OpV) (w : World) (ht : PowIs w) (hr : Rd w A (flatO os)) (hn : os.length = n) (hm : n ≤ maxLen) (hs : ∀ o ∈ os, o.txt.size ≤ maxLen) :
    Calls Tryd.prog 3 #[.string b, .slice A n c] w fun e w' => e = .returned (.bool true) ∧ Below w.heap.size w w' := by
  by_cases hb : b.size ≤ 2000
  · cases hl : lightO os
    · have hlight := light_any A n c os w hr hn hm hs
      rw [hl] at hlight
      have HLI := Lib.hid hlight
      have hbb : (b.size : Int) ≤ 2000 := by omega
      clear hlight hl hr hn hs hm hb
      go_enter Tryd.func3, Tryd.ntmps3
      go_wp2_with (first
        | (go_at_call 12; refine HLI.out.mono ?_; rintro e w0 ⟨rfl, hw0⟩; subst hw0)
        | (go_at_call 13; refine (alive1_any _ ht).mono ?_; rintro e wa ⟨rfl, ba⟩))
      go_ret
      exact ⟨rfl, ba⟩
    · exact gets_good b A n c os w ht hb hr hn hm hs hl
  · have hbb : 2000 < (b.size : Int) := by omega
    clear hr hn hs hm hb
    go_enter Tryd.func3, Tryd.ntmps3
    go_wp2_with (go_at_call 13; refine (alive1_any _ ht).mono ?_; rintro e wa ⟨rfl, ba⟩)
    go_ret
    exact ⟨rfl, ba⟩
end Go.Proofs.YtobflgpaijdcaaaDoor
