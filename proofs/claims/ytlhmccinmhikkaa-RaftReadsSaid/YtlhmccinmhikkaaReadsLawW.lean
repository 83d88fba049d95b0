/-
  The walk of the law RaftReads: for every input it returns true and changes nothing that was there. No condition but those of the arguments' form.
-/
import Derived.Test.YtlhmccinmhikkaaReadsLawP
import Derived.Test.YtlhmccinmhikkaaReadsNil
import Derived.Test.YtlhmccinmhikkaaRaftAlive
namespace Go.Proofs.Ytlhmccinmhikkaa
open Go Go.RowKit
attribute [local go_sem] cell_set_if

set_option maxRecDepth 100000 in
set_option maxHeartbeats 4000000 in
theorem reads_any (A : Option Addr) (n c : Nat) (os : List O4) (w : World) (hr : Rd w A (flatO os)) (hn : os.length = n) (hf : ∀ k ∈ os, k.fits) :
    Calls Try.prog 3 #[.slice A n c] w fun e w' => e = .returned (.bool true) ∧ Below w.heap.size w w' := by
  have HR := Lib.hid hr
  have HN := Lib.hid hn
  have HF := Lib.hid hf
  clear hr hn hf
  go_enter Try.func3, Try.ntmps3
  by_cases h80 : 80 < n
  · have hni : (80 : Int) < (n : Int) := by omega
    go_wp2_with (go_at_call 5; refine (alive25_any _).mono ?_; rintro e w2 ⟨rfl, b2⟩)
    go_ret
    exact ⟨rfl, b2⟩
  have hni : (n : Int) ≤ 80 := by omega
  go_wp2_with (go_at_call 5; refine (alive25_any _).mono ?_; rintro e w1 ⟨rfl, b1⟩)
  have HS := Holds.start w1
  have B3 : Below w1.heap.size w1 (((w1.alloc (.cells #[.slice none 0 0] 27)).alloc (.cells #[.slice none 0 0] 31)).alloc (.cells (bookZ (.slice none 0 0) (.slice none 0 0)) 43)) := (((Below.refl _ _).alloc (Nat.le_refl _) _).alloc (by simp) _).alloc (by simp; omega) _
  unfold bookZ at HS B3
  have R1 := Lib.hid (HR.out.below b1)
  have hsb := b1.size
  generalize hB : w1.heap.size = B at *
  go_loopw [6] (fun u6 wr => ∃ k : Nat, k ≤ n ∧ u6 = .int .i64 k ∧ Below B w1 wr ∧ ∃ L vx vr N f v1 v2 V W, Holds B wr k L vx vr N f v1 v2 V W) (fun u6 _ => n - (intOf u6).toNat)
  case atStart => exact ⟨0, by omega, rfl, B3, _, _, _, _, _, _, _, _, _, HS⟩
  case round =>
    obtain ⟨k, hk, rfl, hB, L, vx, vr, N, f, v1, v2, V, W, H⟩ := hrel
    by_cases hlt : k < n
    · obtain ⟨bb, o, x, rfl, hbb, hx, q0, q1, q2, q3⟩ := R1.out.act (k := k) (by have := HN.out; omega)
      have hbB : bb < B := by omega
      have d0 := cell_bb hB hbB q0
      have d1 := cell_bb hB hbB q1
      have d2 := cell_bb hB hbB q2
      have d3 := cell_bb hB hbB q3
      have hki : (k : Int) < (n : Int) := by omega
      have HFX := Lib.hid (HF.out x (List.mem_of_getElem? hx))
      clear q0 q1 q2 q3 hx
      go_upto_region 9 with fail
      have T8 := Blk.new wr 45 #[.int .i64 x.kind, .int .i64 x.a, .int .i64 x.b, .int .i64 x.c]
      have H8 := H.below ((Below.refl _ wr).alloc (Nat.le_refl _) (.cells #[.int .i64 x.kind, .int .i64 x.a, .int .i64 x.b, .int .i64 x.c] 45))
      have B8 : Below B w1 (wr.alloc (.cells #[.int .i64 x.kind, .int .i64 x.a, .int .i64 x.b, .int .i64 x.c] 45)) := hB.alloc (by have := hB.size; omega) _
      generalize wr.alloc (.cells #[.int .i64 x.kind, .int .i64 x.a, .int .i64 x.b, .int .i64 x.c] 45) = W8 at *
      generalize wr.heap.size = T at *
      have hS8 : B ≤ W8.heap.size := by have := B8.size; omega
      have c0 := T8.cell 0
      have c1 := T8.cell 1
      have c2 := T8.cell 2
      have c3 := T8.cell 3
      simp at c0 c1 c2 c3
      have hl := H8.l
      have hN := H8.n
      clear d0 d1 d2 d3 H hB wr hbb hbB
      have HT := Lib.hid T8
      have HH := Lib.hid H8
      clear T8 H8
      by_cases h1 : x.kind = 1
      · obtain ⟨Ar, cr, hvr, hcr⟩ := own_form HH.out.r.r
        obtain ⟨m, hm⟩ : ∃ m, m = L.length := ⟨_, rfl⟩
        rw [← hm] at hvr
        obtain ⟨i1, hi1, hz0, hz1, hz2⟩ := info_parts r1info
        have HRY := Lib.hid (radd_any B B L vx x.a x.b x.c W8 HH.out.x hS8 (by omega))
        have hM := Lib.hid hm
        have hVR := Lib.hid hvr
        have hm80 : m ≤ 80 := by omega
        clear hm hvr
        go_wp2_with (first
            | (go_at_call 6; with_reducible refine HRY.out.mono ?_
               rintro e w5 ⟨rfl, ⟨vx5, X5, o5⟩, F5⟩
               have y5 := TyS.two HH.out.x.B HH.out.x.r
               have T5 := HT.out.frm_ty F5 y5 (by decide)
               have R5 := HH.out.r.far F5 y5 (by decide) (by decide)
               have K5 := HH.out.b.far F5 y5 (by decide) (by decide) (by decide)
               have B5 := below_frm B8 F5 (Nat.le_of_eq hB.symm) (fun i hi => by
                 rcases hi with rfl | hi
                 · exact Nat.le_refl _
                 · exact (HH.out.x.r.lt i hi).1)
               have hS5 : B ≤ w5.heap.size := Nat.le_trans hS8 F5.size
               have RO : w5.ownsRow B 48 3 (.slice Ar m cr) m (flatR L) := by have := R5.r; rw [hVR.out, ← hM.out] at this; exact this
               have r0 : w5.cell? ⟨B + 1, 0, none⟩ = some (.slice Ar m cr) := by rw [R5.B.cell 0, hVR.out]; rfl
               have T51 := T5.cell 1
               have T52 := T5.cell 2
               have T53 := T5.cell 3
               simp at T51 T52 T53))
        have hF6 : ∀ W, Below w5.heap.size w5 W → W.cell? ⟨T, 1, none⟩ = some (.int .i64 x.a) ∧ W.cell? ⟨T, 2, none⟩ = some (.int .i64 x.b) ∧ W.cell? ⟨T, 3, none⟩ = some (.int .i64 x.c) ∧ W.cell? ⟨B + 1, 0, none⟩ = some (.slice Ar m cr) := fun W h => ⟨cell_b h T51, cell_b h T52, cell_b h T53, cell_b h r0⟩
        have A0 := hF6 _ ((Below.refl _ w5).drew)
        have A1 := hF6 _ (((Below.refl _ w5).alloc (Nat.le_refl _) (.cells #[.int .i64 x.a, .int .i64 x.b, .int .i64 x.c] 48)).drew)
        have hne5 : (Value.slice Ar m cr).ownBlock ≠ some (B + 1) := by have := Blk.own_ne R5.B R5.r (by decide); rwa [hVR.out] at this
        have R5B := R5.B
        rw [hVR.out] at R5B
        have FL := Lib.hid (show flatR L ++ [.int .i64 x.a, .int .i64 x.b, .int .i64 x.c] = flatR (L ++ [⟨x.a, x.b, x.c⟩]) by rw [flatR_app]; rfl)
        clear r0 T51 T52 T53 hF6
        have r0d : w5.drew.cell? ⟨B + 1, 0, none⟩ = some (.slice Ar m cr) := A0.2.2.2
        have T51d : w5.drew.cell? ⟨T, 1, none⟩ = some (.int .i64 x.a) := A0.1
        have T52d : w5.drew.cell? ⟨T, 2, none⟩ = some (.int .i64 x.b) := A0.2.1
        have T53d : w5.drew.cell? ⟨T, 3, none⟩ = some (.int .i64 x.c) := A0.2.2.1
        have r0e : (w5.alloc (.cells #[.int .i64 x.a, .int .i64 x.b, .int .i64 x.c] 48)).drew.cell? ⟨B + 1, 0, none⟩ = some (.slice Ar m cr) := A1.2.2.2
        have T51e : (w5.alloc (.cells #[.int .i64 x.a, .int .i64 x.b, .int .i64 x.c] 48)).drew.cell? ⟨T, 1, none⟩ = some (.int .i64 x.a) := A1.1
        have T52e : (w5.alloc (.cells #[.int .i64 x.a, .int .i64 x.b, .int .i64 x.c] 48)).drew.cell? ⟨T, 2, none⟩ = some (.int .i64 x.b) := A1.2.1
        have T53e : (w5.alloc (.cells #[.int .i64 x.a, .int .i64 x.b, .int .i64 x.c] 48)).drew.cell? ⟨T, 3, none⟩ = some (.int .i64 x.c) := A1.2.2.1
        have ROa : (w5.alloc (.cells #[.int .i64 x.a, .int .i64 x.b, .int .i64 x.c] 48)).drew.ownsRow B 48 3 (.slice Ar m cr) m (flatR L) := own_frm RO (S := no) (((Frm.refl _ w5).alloc _).drew) (fun _ _ h => h)
        have RNa : Rd (w5.alloc (.cells #[.int .i64 x.a, .int .i64 x.b, .int .i64 x.c] 48)).drew (some ⟨w5.heap.size, 0, none⟩) [.int .i64 x.a, .int .i64 x.b, .int .i64 x.c] := (Rd.new w5 #[.int .i64 x.a, .int .i64 x.b, .int .i64 x.c] 48).drew
        have G5a := (R5B.alloc (.cells #[.int .i64 x.a, .int .i64 x.b, .int .i64 x.c] 48)).drew
        have F5a : Frm (fun q => q = B + 1 ∨ vr.ownBlock = some q) w5 (w5.alloc (.cells #[.int .i64 x.a, .int .i64 x.b, .int .i64 x.c] 48)).drew := ((Frm.refl _ w5).alloc _).drew
        go_region_law (first
          | (refine step_app rfl (.tmp 61) (.tmp 69) 29 rfl B 48 i1 _ 3 24 Try.underlying29 hi1 hz0 hz1 hz2 rfl (by omega) (.slice Ar m cr) m (flatR L) rfl ROa _ 1 1 [.int .i64 x.a, .int .i64 x.b, .int .i64 x.c] rfl RNa rfl (by simp [Value.oneCell']) (by unfold maxLen; omega) (by omega) (by simp; omega) ?_
             intro v6 w6 ho6 hg6 hb6 hat6
             have G6 := G5a.grown hg6 hne5
             have f60 := G6.free 0
             have g60 := G6.cell 0
             have F6 : Frm (fun q => q = B + 1 ∨ vr.ownBlock = some q) w5 w6 := F5a.grown hg6 fun q hq _ => .inr (by rw [hVR.out]; exact hq)
             obtain ⟨A6s, c6s, rfl, hc6s⟩ := own_form ho6
             rw [FL.out] at ho6
             have F7 := F6.setCell (p := ⟨B + 1, 0, none⟩) (fun _ => .inl rfl) (.slice A6s (m + 1) c6s)
             have O6 := own_set G6 ho6 (by decide) (i := 0) (.slice A6s (m + 1) c6s)))
        all_goals
          go_wp2
          have y6 : TyS w5 (fun q => q = B + 1 ∨ vr.ownBlock = some q) [31, 48] := TyS.two R5.B R5.r
          have B7 := below_frm B5 F7 (Nat.le_of_eq hB.symm) (fun i hi => by
            rcases hi with rfl | hi
            · omega
            · exact (R5.r.lt i hi).1)
          have X7 := X5.far F7 y6 (by decide) (by decide)
          have K7 := K5.far F7 y6 (by decide) (by decide) (by decide)
          have R7 : RefRAt B (w6.setCell ⟨B + 1, 0, none⟩ (.slice A6s (m + 1) c6s)) (B + 1) (L ++ [⟨x.a, x.b, x.c⟩]) (.slice A6s (m + 1) c6s) := ⟨by omega, G6.set_ 0 _, by rw [List.length_append, ← hM.out]; exact O6⟩
          have hff := HH.out.f
          have HR9 : Hid (Holds B (w6.setCell ⟨B + 1, 0, none⟩ (.slice A6s (m + 1) c6s)) (k + 1) (L ++ [⟨x.a, x.b, x.c⟩]) vx5 (.slice A6s (m + 1) c6s) N f v1 v2 V W) := ⟨X7, R7, K7, HH.out.s.snoc _ HFX.out.2.2.1.2 HFX.out.2.2.2.2, by rw [List.length_append]; simp; omega, by omega, hff⟩
          go_roundw
          case rel => exact ⟨k + 1, by omega, by go_num, B7, _, _, _, _, _, _, _, _, _, HR9.out⟩
          case measure => simp [intOf]; omega
      · by_cases h2 : x.kind = 2
        · obtain ⟨xs, hxs⟩ : ∃ xs, xs = outR (mayR x.a x.b) L := ⟨_, rfl⟩
          obtain ⟨L2, hL2⟩ : ∃ L2, L2 = leftR (mayR x.a x.b) L := ⟨_, rfl⟩
          have hxl : xs.length ≤ L.length := by rw [hxs]; exact out_len _ _
          have hll : L2.length ≤ L.length := by rw [hL2]; exact left_len _ _
          have hsm : Small3 L2 := by rw [hL2]; exact HH.out.s.filter _
          have HRY := Lib.hid (rready_any B B L vx x.a x.b T W8 HH.out.x (by omega) hS8 c2)
          have HRF : Hid (∀ w vr', RefRAt B w (B + 1) L vr' → B ≤ w.heap.size → Calls Try.prog 11 #[.pointer (some ⟨B + 1, 0, none⟩), .int .i64 x.a, .int .i64 x.b] w fun e w' => MadeZ w.heap.size e w' xs ∧ (∃ v', RefRAt B w' (B + 1) L2 v' ∧ ∀ k, v'.ownBlock = some k → w.heap.size ≤ k) ∧ Frm (fun k => k = B + 1) w w') := fun w vr' h hb => by rw [hxs, hL2]; exact refready_any B (B + 1) L vr' x.a x.b w h (by omega) hb
          rw [← hxs, ← hL2] at HRY
          clear hxs hL2
          go_wp2_with (first
            | (go_at_call 7; with_reducible refine HRY.out.mono ?_
               rintro e w5 ⟨⟨A5, n5, c5, hn5, rfl, ho5⟩, ⟨vx5, X5, o5⟩, F5⟩
               have T5 := HT.out.frm_ty F5 (TyS.one HH.out.x.B) (by decide)
               have R5 := HH.out.r.far F5 (TyS.one HH.out.x.B) (by decide) (by decide)
               have K5 := HH.out.b.far F5 (TyS.one HH.out.x.B) (by decide) (by decide) (by decide)
               have B5 := below_frm B8 F5 (Nat.le_of_eq hB.symm) (fun i hi => Nat.le_of_eq hi.symm)
               have hS5 : B ≤ w5.heap.size := Nat.le_trans hS8 F5.size
               have hfr : ∀ (i : Nat) (y : Value) (b : Nat), V[i]? = some y → y.ownBlock = some b → (Value.slice A5 n5 c5).ownBlock ≠ some b := fun i y b hy hb hq => by
                 have h3 := (HH.out.b.rV.lt i y b hy hb).2
                 have h4 := (ho5.lt b hq).1
                 omega
               have HO5 := Lib.hid (own_base ho5 hS8)
               have HF5 := Lib.hid hfr
               clear ho5 hfr)
            | (go_at_call 9; with_reducible refine (addZ_any B (B + 1 + 1) N f v1 v2 V W A5 n5 c5 xs w5 K5 (by omega) hS5 hn5 (by omega) HO5.out HF5.out).mono ?_
               rintro e w6 ⟨rfl, ⟨v16, v26, W6, K6, o61, o62⟩, F6⟩
               have y6 := TyS.three K5.B K5.r1 K5.r2
               have T6 := T5.frm_ty F6 y6 (by decide)
               have X6 := X5.far F6 y6 (by decide) (by decide)
               have R6 := R5.far F6 y6 (by decide) (by decide)
               have O6 := own_frm_ty HO5.out F6 y6 (by decide)
               have B6 := below_frm B5 F6 (Nat.le_of_eq hB.symm) (fun i hi => by
                 rcases hi with rfl | hi | hi
                 · exact K5.lo
                 · exact (K5.r1.lt i hi).1
                 · exact (K5.r2.lt i hi).1)
               have hS6 : B ≤ w6.heap.size := Nat.le_trans hS5 F6.size
               have T61 := T6.cell 1
               have T62 := T6.cell 2
               simp at T61 T62)
            | (go_at_call 11; with_reducible refine (HRF.out w6 vr R6 hS6).mono ?_
               rintro e w7 ⟨⟨A7, n7, c7, hn7, rfl, ho7⟩, ⟨vr7, R7, o7⟩, F7⟩
               have y7 := TyS.one R6.B
               have X7 := X6.far F7 y7 (by decide) (by decide)
               have K7 := K6.far F7 y7 (by decide) (by decide) (by decide)
               have O7 := own_frm_ty O6 F7 y7 (by decide)
               have B7 := below_frm B6 F7 (Nat.le_of_eq hB.symm) (fun i hi => by omega))
            | (go_at_call 10; with_reducible refine (sameints_any A5 A7 n5 n7 c5 c7 xs xs w7 (Rd.of_own O7) (Rd.of_own ho7) hn5 hn7 (by omega)).mono ?_
               rintro e w9 ⟨⟨bq, rfl, hbq⟩, q9⟩
               obtain rfl : bq = true := by simpa using hbq))
          have X9 := X7.below (q9.below _)
          have R9 := R7.below (q9.below _)
          have K9 := K7.below (q9.below _)
          have hff := HH.out.f
          have B9 : Below B w1 w9 := below_of (q9.below w7.heap.size) B7 (Nat.le_trans hS6 F7.size)
          have HR9 : Hid (Holds B w9 (k + 1) L2 vx5 vr7 (N + 1) (fun j => if j = N then xs else f j) v16 v26 (V ++ [.slice A5 n5 c5]) W6) := ⟨X9, R9, K9, hsm, by omega, by omega, fun i => by
            by_cases hi : i = N
            · rw [if_pos hi]; omega
            · rw [if_neg hi]; exact hff i⟩
          go_roundw
          case rel => exact ⟨k + 1, by omega, by go_num, B9, _, _, _, _, _, _, _, _, _, HR9.out⟩
          case measure => simp [intOf]; omega
        · have h2' : (x.kind == 2) = false := by simp; omega
          obtain ⟨xs, hxs⟩ : ∃ xs, xs = L.map (·.id) := ⟨_, rfl⟩
          have hxl : xs.length ≤ L.length := by rw [hxs, List.length_map]; exact Nat.le_refl _
          have HRY := Lib.hid (rdrop_any B B L vx W8 HH.out.x (by omega))
          have HRF : Hid (∀ w vr', RefRAt B w (B + 1) L vr' → B ≤ w.heap.size → Calls Try.prog 11 #[.pointer (some ⟨B + 1, 0, none⟩), .int .i64 9223372036854775807, .int .i64 9223372036854775807] w fun e w' => MadeZ w.heap.size e w' xs ∧ (∃ v', RefRAt B w' (B + 1) [] v' ∧ ∀ k, v'.ownBlock = some k → w.heap.size ≤ k) ∧ Frm (fun k => k = B + 1) w w') := fun w vr' h hb => by
            have := refready_any B (B + 1) L vr' 9223372036854775807 9223372036854775807 w h (by omega) hb
            rw [HH.out.s.out, HH.out.s.left_] at this
            rw [hxs]; exact this
          rw [← hxs] at HRY
          clear hxs
          go_wp2_with (first
            | (go_at_call 12; with_reducible refine HRY.out.mono ?_
               rintro e w5 ⟨⟨A5, n5, c5, hn5, rfl, ho5⟩, X5, F5⟩
               have T5 := HT.out.frm_ty F5 (TyS.one HH.out.x.B) (by decide)
               have R5 := HH.out.r.far F5 (TyS.one HH.out.x.B) (by decide) (by decide)
               have K5 := HH.out.b.far F5 (TyS.one HH.out.x.B) (by decide) (by decide) (by decide)
               have B5 := below_frm B8 F5 (Nat.le_of_eq hB.symm) (fun i hi => Nat.le_of_eq hi.symm)
               have hS5 : B ≤ w5.heap.size := Nat.le_trans hS8 F5.size
               have hfr : ∀ (i : Nat) (y : Value) (b : Nat), V[i]? = some y → y.ownBlock = some b → (Value.slice A5 n5 c5).ownBlock ≠ some b := fun i y b hy hb hq => by
                 have h3 := (HH.out.b.rV.lt i y b hy hb).2
                 have h4 := (ho5.lt b hq).1
                 omega
               have HO5 := Lib.hid (own_base ho5 hS8)
               have HF5 := Lib.hid hfr
               clear ho5 hfr)
            | (go_at_call 9; with_reducible refine (addZ_any B (B + 1 + 1) N f v1 v2 V W A5 n5 c5 xs w5 K5 (by omega) hS5 hn5 (by omega) HO5.out HF5.out).mono ?_
               rintro e w6 ⟨rfl, ⟨v16, v26, W6, K6, o61, o62⟩, F6⟩
               have y6 := TyS.three K5.B K5.r1 K5.r2
               have T6 := T5.frm_ty F6 y6 (by decide)
               have X6 := X5.far F6 y6 (by decide) (by decide)
               have R6 := R5.far F6 y6 (by decide) (by decide)
               have O6 := own_frm_ty HO5.out F6 y6 (by decide)
               have B6 := below_frm B5 F6 (Nat.le_of_eq hB.symm) (fun i hi => by
                 rcases hi with rfl | hi | hi
                 · exact K5.lo
                 · exact (K5.r1.lt i hi).1
                 · exact (K5.r2.lt i hi).1)
               have hS6 : B ≤ w6.heap.size := Nat.le_trans hS5 F6.size
               have T61 := T6.cell 1
               have T62 := T6.cell 2
               simp at T61 T62)
            | (go_at_call 11; with_reducible refine (HRF.out w6 vr R6 hS6).mono ?_
               rintro e w7 ⟨⟨A7, n7, c7, hn7, rfl, ho7⟩, ⟨vr7, R7, o7⟩, F7⟩
               have y7 := TyS.one R6.B
               have X7 := X6.far F7 y7 (by decide) (by decide)
               have K7 := K6.far F7 y7 (by decide) (by decide) (by decide)
               have O7 := own_frm_ty O6 F7 y7 (by decide)
               have B7 := below_frm B6 F7 (Nat.le_of_eq hB.symm) (fun i hi => by omega))
            | (go_at_call 10; with_reducible refine (sameints_any A5 A7 n5 n7 c5 c7 xs xs w7 (Rd.of_own O7) (Rd.of_own ho7) hn5 hn7 (by omega)).mono ?_
               rintro e w9 ⟨⟨bq, rfl, hbq⟩, q9⟩
               obtain rfl : bq = true := by simpa using hbq))
          have X9 := X7.below (q9.below _)
          have R9 := R7.below (q9.below _)
          have K9 := K7.below (q9.below _)
          have hff := HH.out.f
          have B9 : Below B w1 w9 := below_of (q9.below w7.heap.size) B7 (Nat.le_trans hS6 F7.size)
          have HR9 : Hid (Holds B w9 (k + 1) [] _ vr7 (N + 1) (fun j => if j = N then xs else f j) v16 v26 (V ++ [.slice A5 n5 c5]) W6) := ⟨X9, R9, K9, fun y hy => by simp at hy, by simp, by omega, fun i => by
            by_cases hi : i = N
            · rw [if_pos hi]; omega
            · rw [if_neg hi]; exact hff i⟩
          go_roundw
          case rel => exact ⟨k + 1, by omega, by go_num, B9, _, _, _, _, _, _, _, _, _, HR9.out⟩
          case measure => simp [intOf]; omega
    · obtain rfl : n = k := by omega
      have hff := H.f
      go_wp2_with (first
        | (go_at_call 6; with_reducible refine (radd_nil _ _ _ _).mono ?_; rintro e w4 ⟨rfl, hw4⟩; subst hw4)
        | (go_at_call 7; with_reducible refine (rready_nil _ _ _).mono ?_; rintro e w4 ⟨rfl, hw4⟩; subst hw4)
        | (go_at_call 12; with_reducible refine (rdrop_nil _).mono ?_; rintro e w4 ⟨rfl, hw4⟩; subst hw4)
        | (go_at_call 14; with_reducible refine (apartZ_any B (B + 1 + 1) N (fun i => (f i).length) f v1 v2 V W _ H.b (by have := H.n; omega) (fun _ => rfl) (fun i => Nat.le_trans (hff i) (by omega)) (by have := hB.size; omega)).mono ?_; rintro e w4 ⟨rfl, F4⟩))
      go_ret
      refine ⟨rfl, below_of (F4.below (B := B) (by have := hB.size; omega) (fun i hi => ?_)) (below_of hB b1 hsb) hsb⟩
      obtain ⟨j, y, hy, hq⟩ := hi
      exact (H.b.rV.lt j y i hy hq).1
end Go.Proofs.Ytlhmccinmhikkaa
