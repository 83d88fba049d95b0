/-
  The walk of the law RaftOnce: for every input it returns true and changes nothing that was there. No condition.
-/
import Derived.Test.YtppfpiidfklkdaaRaftOnceReg
namespace Go.Proofs.Ytppfpiidfklkdaa
open Go Go.RowKit
attribute [local go_sem] cell_set_if

theorem once_end {W wr w3 : World} {B nq : Nat} {T : TypeId} {t f x y x' y' : Int} {o : Obj} (hB : Blk wr B T #[.int .i64 t, .int .i64 f]) (hF : Frm (at1 B) W wr) (hs : W.heap.size ≤ wr.heap.size)
    (hb3 : Below (wr.alloc o).drew.heap.size (wr.alloc o).drew w3) :
    Blk (((((w3.setCell ⟨wr.heap.size, 0, none⟩ (.int .i64 x')).setCell ⟨wr.heap.size, 1, none⟩ (.int .i64 y')).drewN nq).setCell ⟨B, 0, none⟩ (.int .i64 x)).setCell ⟨B, 1, none⟩ (.int .i64 y)) B T #[.int .i64 x, .int .i64 y] ∧
    Frm (at1 B) W (((((w3.setCell ⟨wr.heap.size, 0, none⟩ (.int .i64 x')).setCell ⟨wr.heap.size, 1, none⟩ (.int .i64 y')).drewN nq).setCell ⟨B, 0, none⟩ (.int .i64 x)).setCell ⟨B, 1, none⟩ (.int .i64 y)) := by
  have hl := hB.lt
  have h3 : Blk w3 B T #[.int .i64 t, .int .i64 f] := (hB.alloc o).drew.below hb3
  constructor
  · have h4 := (((((h3.far (p := ⟨wr.heap.size, 0, none⟩) (by simp; omega) (.int .i64 x')).far (p := ⟨wr.heap.size, 1, none⟩) (by simp; omega) (.int .i64 y')).drewN nq).set_ 0 (.int .i64 x)).set_ 1 (.int .i64 y))
    simpa using h4
  · have f3 : Frm (at1 B) W w3 := ((hF.alloc o).drew).step hb3
    refine ((((f3.setCell (p := ⟨wr.heap.size, 0, none⟩) ?_ _).setCell (p := ⟨wr.heap.size, 1, none⟩) ?_ _).drewN nq).setCell (p := ⟨B, 0, none⟩) (fun _ => rfl) _).setCell (p := ⟨B, 1, none⟩) (fun _ => rfl) _
    · intro h; simp at h; omega
    · intro h; simp at h; omega

set_option maxRecDepth 100000 in
set_option maxHeartbeats 20000000 in
theorem once_walk (t0 f0 : Int) (Av : Option Addr) (n c : Nat) (A : Nat → Option Addr) (L C : Nat → Nat) (Z : Nat → List Int) (w : World) (hr : RowsAt w Av n A L C Z) (hn : n ≤ maxLen) :
    Calls Try.prog 3 #[bal t0 f0, .slice Av n c] w fun e w' => e = .returned (.bool true) ∧ Below w.heap.size w w' := by
  unfold maxLen at hn
  by_cases h1 : 100 < n
  · have h1' : (100 : Int) < (n : Int) := by omega
    clear hr
    go_enter Try.func3, Try.ntmps3
    go_wp2_with (go_at_call 12; refine (alive25_any _).mono ?_; rintro e w1 ⟨rfl, hb1⟩)
    go_ret
    exact ⟨rfl, below_new _ (by simpa using hb1)⟩
  have h1' : (n : Int) ≤ 100 := by omega
  have HR := Lib.hid hr
  clear hr
  go_enter Try.func3, Try.ntmps3
  go_wp2_with (first
    | (go_at_call 12; refine (alive25_any _).mono ?_; rintro e w1 ⟨rfl, hb1⟩)
    | (go_at_call 13; refine (new_any 0 0 _ (by omega)).mono ?_; rintro e w2 ⟨rfl, hl, hb2⟩))
  have hB0 : Blk (w.alloc (.cells #[.int .i64 t0, .int .i64 f0] 23)) w.heap.size 23 #[.int .i64 t0, .int .i64 f0] := Blk.new _ _ _
  have hB1 := (hB0.below hb1).below hb2
  have k1 : Below w.heap.size w w1 := below_new _ (by simpa using hb1)
  have k2 := below_of hb2 k1 k1.size
  have hlt : w.heap.size < w1.heap.size := by have := hb1.size; simp at this; omega
  have HL := Lib.hid hl
  have c0 := hB1.cell 0
  have c1 := hB1.cell 1
  simp at c0 c1
  clear hB0 hb1 hb2 hl k1
  go_quiet (fail)
  have hB2 := hB1.drewN nq
  have HL2 := Lib.hid (HL.out.drewN nq)
  have k3 := below_drewN k2 nq
  have hs : w1.heap.size ≤ (w2.drewN nq).heap.size := by have := HL.out.blk.lt; simp; omega
  generalize w2.drewN nq = W at *
  clear hB1 HL c0 c1 k2
  go_wp2
  go_loopw [6, 7, 8] (fun u6 u7 u8 wr => ∃ (k : Nat) (t f : Int), k ≤ n ∧ u8 = .int .i64 k ∧ u6 = .int .i64 t ∧ u7 = .int .i64 f ∧ Blk wr w.heap.size 23 #[.int .i64 t, .int .i64 f] ∧ Frm (at1 w.heap.size) W wr) (fun _ _ u8 _ => n - (intOf u8).toNat)
  case atStart => exact ⟨0, t0, f0, by omega, rfl, rfl, rfl, hB2, Frm.refl _ _⟩
  case round =>
    obtain ⟨k, t, f, hk, rfl, rfl, rfl, hB, hF⟩ := hrel
    clear hB2
    have hbw : Below w.heap.size w wr := below_frm k3 hF (Nat.le_refl _) (by unfold at1; intro i hi; omega)
    by_cases hlt2 : k < n
    · obtain ⟨rb, ro, rfl, hrb, hrowA⟩ := (HR.out.below hbw).flat (by omega)
      have hrow := hrowA k hlt2
      clear hrowA
      have hrd := (HR.out.below hbw).rd k hlt2
      have hln := HR.out.len k hlt2
      have hwf := HR.out.wf k hlt2
      have hki : (k : Int) < (n : Int) := by omega
      have hLW : LogAt wr w1.heap.size w1.heap.size (max 0 0) (max 0 0) [] (.slice none 0 0) := HL2.out.frm hF (by unfold at1; omega) (by simp [Value.ownBlock])
      have HLW := Lib.hid hLW
      clear hLW
      generalize L k = m at hrow hln hwf
      generalize C k = cc at hrow hwf
      generalize A k = A' at hrow hrd
      generalize hZ : Z k = z at hrd hln hwf
      clear hZ
      by_cases hm : m = 4
      · subst hm
        obtain ⟨z0, z1, z2, z3, rfl⟩ : ∃ a b c d, z = [a, b, c, d] := by
          match z, hln with
          | [a, b, c, d], _ => exact ⟨a, b, c, d, rfl⟩
        obtain ⟨zb, zo, rfl, hzb, hq⟩ := hrd.flat (by simp)
        have q0 := hq 0 (.int .i64 z0) rfl
        have q1 := hq 1 (.int .i64 z1) rfl
        have q2 := hq 2 (.int .i64 z2) rfl
        have q3 := hq 3 (.int .i64 z3) rfl
        simp at q0
        clear hq
        have w1b := hwf.2.2 z1 (by simp)
        clear hrd hln hwf
        have c0 := hB.cell 0
        have c1 := hB.cell 1
        simp at c0 c1
        by_cases n1 : z1 < 0
        · go_wp2
          go_roundw
          case rel => exact ⟨k + 1, t, f, by omega, by go_num, rfl, rfl, hB, hF⟩
          case measure => simp [intOf]; omega
        by_cases n2 : 7 ≤ z1
        · go_wp2
          go_roundw
          case rel => exact ⟨k + 1, t, f, by omega, by go_num, rfl, rfl, hB, hF⟩
          case measure => simp [intOf]; omega
        have hBl := hB.lt
        have fz0 := hB.free 0
        have fz1 := hB.free 1
        cases hb : (bits BinOp.and IntKind.i64 z3 1 == 1) with
        | true =>
          by_cases ht : t < z0
          · skip
            have hx1 : decide (z0 < t) = false := by simp; omega
            have hx3 : (z0 == t) = false := by simp; omega
            go_wp2
            have n0 : ¬ wr.heap.size = w.heap.size := by omega
            have n2 : ¬ wr.heap.size = rb := by omega
            have n3 : ¬ wr.heap.size = zb := by omega
            have d0 : (wr.alloc (.cells #[.int .i64 0, .int .i64 0] 23)).cell? ⟨w.heap.size, 0, none⟩ = some (.int .i64 t) := (hB.alloc _).cell 0
            have d1 : (wr.alloc (.cells #[.int .i64 0, .int .i64 0] 23)).cell? ⟨w.heap.size, 1, none⟩ = some (.int .i64 f) := (hB.alloc _).cell 1
            have dr : (wr.alloc (.cells #[.int .i64 0, .int .i64 0] 23)).cell? ⟨rb, ro + k, none⟩ = some (.slice (some ⟨zb, zo, none⟩) 4 cc) := by rw [World.cell?_alloc_past _ _ _ hrb]; exact hrow
            have dz : (wr.alloc (.cells #[.int .i64 0, .int .i64 0] 23)).cell? ⟨zb, zo, none⟩ = some (.int .i64 z0) := by rw [World.cell?_alloc_past _ _ _ hzb]; exact q0
            have dz1 : (wr.alloc (.cells #[.int .i64 0, .int .i64 0] 23)).cell? ⟨zb, zo + 1, none⟩ = some (.int .i64 z1) := by rw [World.cell?_alloc_past _ _ _ hzb]; exact q1
            have dz2 : (wr.alloc (.cells #[.int .i64 0, .int .i64 0] 23)).cell? ⟨zb, zo + 2, none⟩ = some (.int .i64 z2) := by rw [World.cell?_alloc_past _ _ _ hzb]; exact q2
            go_region_held3 (fun w' => w'.cell? ⟨w.heap.size, 0, none⟩ = some (.int .i64 t) ∧ w'.cell? ⟨w.heap.size, 1, none⟩ = some (.int .i64 f) ∧ w'.cell? ⟨rb, ro + k, none⟩ = some (.slice (some ⟨zb, zo, none⟩) 4 cc) ∧ w'.cell? ⟨zb, zo, none⟩ = some (.int .i64 z0))
              (first | exact ⟨d0, d1, dr, dz⟩ | exact ⟨e0, e1, er, ez⟩ | (simp only [cell_set_if, n0, n2, n3, false_and, if_false]; exact ⟨e0, e1, er, ez⟩))
              (first
                | (go_at_call 14; refine (see_yes _ _ _ _ ht).mono ?_; rintro e w3 ⟨rfl, hb3⟩; have e0 := (below_cells hb3).1 w.heap.size 0 (by simp; omega); have e1 := (below_cells hb3).1 w.heap.size 1 (by simp; omega); have er := (below_cells hb3).1 rb (ro + k) (by simp; omega); have ez := (below_cells hb3).1 zb zo (by simp; omega); have ez1 := (below_cells hb3).1 zb (zo + 1) (by simp; omega); rw [World.cell?_drew] at e0 e1 er ez ez1; rw [d0] at e0; rw [d1] at e1; rw [dr] at er; rw [dz] at ez; rw [dz1] at ez1; obtain ⟨hc, hf⟩ := below_cells hb3))
            go_wp2
            refine wp_region_quiet_lit (by kernel_rfl) (by exact onceLex) ?_
            dsimp only [List.append]
            repeat (go_big_quiet_step (fail))
            refine wpQuiet_nil ?_
            intro _ hw'
            obtain ⟨nq, hw''⟩ := hw'
            subst hw''
            go_wp2
            go_roundw
            case rel => exact ⟨k + 1, z0, (-1), by omega, by go_num, rfl, rfl, (once_end hB hF hF.size hb3).1, (once_end hB hF hF.size hb3).2⟩
            case measure => simp [intOf]; omega
          · skip
            have hx1 : decide (t < t) = false := by simp
            have hx3 : (t == t) = true := by simp
            have hx4 : (f != f) = false := by simp
            have ht' : z0 ≤ t := by omega
            go_wp2
            have n0 : ¬ wr.heap.size = w.heap.size := by omega
            have n2 : ¬ wr.heap.size = rb := by omega
            have n3 : ¬ wr.heap.size = zb := by omega
            have d0 : (wr.alloc (.cells #[.int .i64 0, .int .i64 0] 23)).cell? ⟨w.heap.size, 0, none⟩ = some (.int .i64 t) := (hB.alloc _).cell 0
            have d1 : (wr.alloc (.cells #[.int .i64 0, .int .i64 0] 23)).cell? ⟨w.heap.size, 1, none⟩ = some (.int .i64 f) := (hB.alloc _).cell 1
            have dr : (wr.alloc (.cells #[.int .i64 0, .int .i64 0] 23)).cell? ⟨rb, ro + k, none⟩ = some (.slice (some ⟨zb, zo, none⟩) 4 cc) := by rw [World.cell?_alloc_past _ _ _ hrb]; exact hrow
            have dz : (wr.alloc (.cells #[.int .i64 0, .int .i64 0] 23)).cell? ⟨zb, zo, none⟩ = some (.int .i64 z0) := by rw [World.cell?_alloc_past _ _ _ hzb]; exact q0
            have dz1 : (wr.alloc (.cells #[.int .i64 0, .int .i64 0] 23)).cell? ⟨zb, zo + 1, none⟩ = some (.int .i64 z1) := by rw [World.cell?_alloc_past _ _ _ hzb]; exact q1
            have dz2 : (wr.alloc (.cells #[.int .i64 0, .int .i64 0] 23)).cell? ⟨zb, zo + 2, none⟩ = some (.int .i64 z2) := by rw [World.cell?_alloc_past _ _ _ hzb]; exact q2
            go_region_held3 (fun w' => w'.cell? ⟨w.heap.size, 0, none⟩ = some (.int .i64 t) ∧ w'.cell? ⟨w.heap.size, 1, none⟩ = some (.int .i64 f) ∧ w'.cell? ⟨rb, ro + k, none⟩ = some (.slice (some ⟨zb, zo, none⟩) 4 cc) ∧ w'.cell? ⟨zb, zo, none⟩ = some (.int .i64 z0))
              (first | exact ⟨d0, d1, dr, dz⟩ | exact ⟨e0, e1, er, ez⟩ | (simp only [cell_set_if, n0, n2, n3, false_and, if_false]; exact ⟨e0, e1, er, ez⟩))
              (first
                | (go_at_call 14; refine (see_no _ _ _ _ ht').mono ?_; rintro e w3 ⟨rfl, hb3⟩; have e0 := (below_cells hb3).1 w.heap.size 0 (by simp; omega); have e1 := (below_cells hb3).1 w.heap.size 1 (by simp; omega); have er := (below_cells hb3).1 rb (ro + k) (by simp; omega); have ez := (below_cells hb3).1 zb zo (by simp; omega); have ez1 := (below_cells hb3).1 zb (zo + 1) (by simp; omega); rw [World.cell?_drew] at e0 e1 er ez ez1; rw [d0] at e0; rw [d1] at e1; rw [dr] at er; rw [dz] at ez; rw [dz1] at ez1; obtain ⟨hc, hf⟩ := below_cells hb3))
            go_wp2
            refine wp_region_quiet_lit (by kernel_rfl) (by exact onceLex) ?_
            dsimp only [List.append]
            repeat (go_big_quiet_step (fail))
            refine wpQuiet_nil ?_
            intro _ hw'
            obtain ⟨nq, hw''⟩ := hw'
            subst hw''
            go_wp2
            go_roundw
            case rel => exact ⟨k + 1, t, f, by omega, by go_num, rfl, rfl, (once_end hB hF hF.size hb3).1, (once_end hB hF hF.size hb3).2⟩
            case measure => simp [intOf]; omega
        | false =>
          by_cases ht : t < z0
          · skip
            have hx1 : decide (z0 < t) = false := by simp; omega
            have hx3 : (z0 == t) = false := by simp; omega
            have hx4 : (z0 != z0) = false := by simp
            have hx5 : (z1 != z1) = false := by simp
            go_wp2
            have n0 : ¬ wr.heap.size = w.heap.size := by omega
            have n2 : ¬ wr.heap.size = rb := by omega
            have n3 : ¬ wr.heap.size = zb := by omega
            have d0 : (wr.alloc (.cells #[.int .i64 0, .int .i64 0] 23)).cell? ⟨w.heap.size, 0, none⟩ = some (.int .i64 t) := (hB.alloc _).cell 0
            have d1 : (wr.alloc (.cells #[.int .i64 0, .int .i64 0] 23)).cell? ⟨w.heap.size, 1, none⟩ = some (.int .i64 f) := (hB.alloc _).cell 1
            have dr : (wr.alloc (.cells #[.int .i64 0, .int .i64 0] 23)).cell? ⟨rb, ro + k, none⟩ = some (.slice (some ⟨zb, zo, none⟩) 4 cc) := by rw [World.cell?_alloc_past _ _ _ hrb]; exact hrow
            have dz : (wr.alloc (.cells #[.int .i64 0, .int .i64 0] 23)).cell? ⟨zb, zo, none⟩ = some (.int .i64 z0) := by rw [World.cell?_alloc_past _ _ _ hzb]; exact q0
            have dz1 : (wr.alloc (.cells #[.int .i64 0, .int .i64 0] 23)).cell? ⟨zb, zo + 1, none⟩ = some (.int .i64 z1) := by rw [World.cell?_alloc_past _ _ _ hzb]; exact q1
            have dz2 : (wr.alloc (.cells #[.int .i64 0, .int .i64 0] 23)).cell? ⟨zb, zo + 2, none⟩ = some (.int .i64 z2) := by rw [World.cell?_alloc_past _ _ _ hzb]; exact q2
            go_region_held3 (fun w' => w'.cell? ⟨w.heap.size, 0, none⟩ = some (.int .i64 t) ∧ w'.cell? ⟨w.heap.size, 1, none⟩ = some (.int .i64 f) ∧ w'.cell? ⟨rb, ro + k, none⟩ = some (.slice (some ⟨zb, zo, none⟩) 4 cc) ∧ w'.cell? ⟨zb, zo, none⟩ = some (.int .i64 z0) ∧ w'.cell? ⟨zb, zo + 1, none⟩ = some (.int .i64 z1) ∧ w'.cell? ⟨zb, zo + 2, none⟩ = some (.int .i64 z2))
              (first | exact ⟨d0, d1, dr, dz, dz1, dz2⟩ | exact ⟨e0, e1, er, ez, ez1, ez2⟩ | (simp only [cell_set_if, n0, n2, n3, false_and, if_false]; exact ⟨e0, e1, er, ez, ez1, ez2⟩))
              (first
                | (go_at_call 15; refine (grant_new_true t f z0 z1 z2 1 _ _ ht (by exact (HLW.out.below (((Below.refl _ _).alloc (Nat.le_refl _) _).drew)).asked z2 1)).mono ?_; rintro e w3 ⟨rfl, hb3⟩; have e0 := (below_cells hb3).1 w.heap.size 0 (by simp; omega); have e1 := (below_cells hb3).1 w.heap.size 1 (by simp; omega); have er := (below_cells hb3).1 rb (ro + k) (by simp; omega); have ez := (below_cells hb3).1 zb zo (by simp; omega); have ez1 := (below_cells hb3).1 zb (zo + 1) (by simp; omega); rw [World.cell?_drew] at e0 e1 er ez ez1; rw [d0] at e0; rw [d1] at e1; rw [dr] at er; rw [dz] at ez; rw [dz1] at ez1; have ez2 := (below_cells hb3).1 zb (zo + 2) (by simp; omega); rw [World.cell?_drew] at ez2; rw [dz2] at ez2; obtain ⟨hc, hf⟩ := below_cells hb3))
            go_wp2
            refine wp_region_quiet_lit (by kernel_rfl) (by exact onceLex) ?_
            dsimp only [List.append]
            repeat (go_big_quiet_step (fail))
            refine wpQuiet_nil ?_
            intro _ hw'
            obtain ⟨nq, hw''⟩ := hw'
            subst hw''
            go_wp2
            go_roundw
            case rel => exact ⟨k + 1, z0, z1, by omega, by go_num, rfl, rfl, (once_end hB hF hF.size hb3).1, (once_end hB hF hF.size hb3).2⟩
            case measure => simp [intOf]; omega
          by_cases hs2 : z0 < t
          · skip
            have hx1 : decide (t < t) = false := by simp
            have hx3 : (t == t) = true := by simp
            have hx4 : (f != f) = false := by simp
            go_wp2
            have n0 : ¬ wr.heap.size = w.heap.size := by omega
            have n2 : ¬ wr.heap.size = rb := by omega
            have n3 : ¬ wr.heap.size = zb := by omega
            have d0 : (wr.alloc (.cells #[.int .i64 0, .int .i64 0] 23)).cell? ⟨w.heap.size, 0, none⟩ = some (.int .i64 t) := (hB.alloc _).cell 0
            have d1 : (wr.alloc (.cells #[.int .i64 0, .int .i64 0] 23)).cell? ⟨w.heap.size, 1, none⟩ = some (.int .i64 f) := (hB.alloc _).cell 1
            have dr : (wr.alloc (.cells #[.int .i64 0, .int .i64 0] 23)).cell? ⟨rb, ro + k, none⟩ = some (.slice (some ⟨zb, zo, none⟩) 4 cc) := by rw [World.cell?_alloc_past _ _ _ hrb]; exact hrow
            have dz : (wr.alloc (.cells #[.int .i64 0, .int .i64 0] 23)).cell? ⟨zb, zo, none⟩ = some (.int .i64 z0) := by rw [World.cell?_alloc_past _ _ _ hzb]; exact q0
            have dz1 : (wr.alloc (.cells #[.int .i64 0, .int .i64 0] 23)).cell? ⟨zb, zo + 1, none⟩ = some (.int .i64 z1) := by rw [World.cell?_alloc_past _ _ _ hzb]; exact q1
            have dz2 : (wr.alloc (.cells #[.int .i64 0, .int .i64 0] 23)).cell? ⟨zb, zo + 2, none⟩ = some (.int .i64 z2) := by rw [World.cell?_alloc_past _ _ _ hzb]; exact q2
            go_region_held3 (fun w' => w'.cell? ⟨w.heap.size, 0, none⟩ = some (.int .i64 t) ∧ w'.cell? ⟨w.heap.size, 1, none⟩ = some (.int .i64 f) ∧ w'.cell? ⟨rb, ro + k, none⟩ = some (.slice (some ⟨zb, zo, none⟩) 4 cc) ∧ w'.cell? ⟨zb, zo, none⟩ = some (.int .i64 z0) ∧ w'.cell? ⟨zb, zo + 1, none⟩ = some (.int .i64 z1) ∧ w'.cell? ⟨zb, zo + 2, none⟩ = some (.int .i64 z2))
              (first | exact ⟨d0, d1, dr, dz, dz1, dz2⟩ | exact ⟨e0, e1, er, ez, ez1, ez2⟩ | (simp only [cell_set_if, n0, n2, n3, false_and, if_false]; exact ⟨e0, e1, er, ez, ez1, ez2⟩))
              (first
                | (go_at_call 15; refine (grant_low t f z0 z1 z2 1 _ _ hs2).mono ?_; rintro e w3 ⟨rfl, hb3⟩; have e0 := (below_cells hb3).1 w.heap.size 0 (by simp; omega); have e1 := (below_cells hb3).1 w.heap.size 1 (by simp; omega); have er := (below_cells hb3).1 rb (ro + k) (by simp; omega); have ez := (below_cells hb3).1 zb zo (by simp; omega); have ez1 := (below_cells hb3).1 zb (zo + 1) (by simp; omega); rw [World.cell?_drew] at e0 e1 er ez ez1; rw [d0] at e0; rw [d1] at e1; rw [dr] at er; rw [dz] at ez; rw [dz1] at ez1; have ez2 := (below_cells hb3).1 zb (zo + 2) (by simp; omega); rw [World.cell?_drew] at ez2; rw [dz2] at ez2; obtain ⟨hc, hf⟩ := below_cells hb3))
            go_wp2
            refine wp_region_quiet_lit (by kernel_rfl) (by exact onceLex) ?_
            dsimp only [List.append]
            repeat (go_big_quiet_step (fail))
            refine wpQuiet_nil ?_
            intro _ hw'
            obtain ⟨nq, hw''⟩ := hw'
            subst hw''
            go_wp2
            go_roundw
            case rel => exact ⟨k + 1, t, f, by omega, by go_num, rfl, rfl, (once_end hB hF hF.size hb3).1, (once_end hB hF hF.size hb3).2⟩
            case measure => simp [intOf]; omega
          obtain rfl : z0 = t := by omega
          have hx1 : decide (z0 < z0) = false := by simp
          have hx3 : (z0 == z0) = true := by simp
          have hx6 : (z0 != z0) = false := by simp
          have hx5 : (z1 != z1) = false := by simp
          have hx7 : (z1 != -1) = true := by simp; omega
          by_cases hf1 : f = -1
          · subst hf1
            have hx8 : ((-1 : Int) != -1) = false := by simp
            have hx9 : (z1 != (-1 : Int)) = true := hx7
            go_wp2
            have n0 : ¬ wr.heap.size = w.heap.size := by omega
            have n2 : ¬ wr.heap.size = rb := by omega
            have n3 : ¬ wr.heap.size = zb := by omega
            have d0 : (wr.alloc (.cells #[.int .i64 0, .int .i64 0] 23)).cell? ⟨w.heap.size, 0, none⟩ = some (.int .i64 z0) := (hB.alloc _).cell 0
            have d1 : (wr.alloc (.cells #[.int .i64 0, .int .i64 0] 23)).cell? ⟨w.heap.size, 1, none⟩ = some (.int .i64 (-1)) := (hB.alloc _).cell 1
            have dr : (wr.alloc (.cells #[.int .i64 0, .int .i64 0] 23)).cell? ⟨rb, ro + k, none⟩ = some (.slice (some ⟨zb, zo, none⟩) 4 cc) := by rw [World.cell?_alloc_past _ _ _ hrb]; exact hrow
            have dz : (wr.alloc (.cells #[.int .i64 0, .int .i64 0] 23)).cell? ⟨zb, zo, none⟩ = some (.int .i64 z0) := by rw [World.cell?_alloc_past _ _ _ hzb]; exact q0
            have dz1 : (wr.alloc (.cells #[.int .i64 0, .int .i64 0] 23)).cell? ⟨zb, zo + 1, none⟩ = some (.int .i64 z1) := by rw [World.cell?_alloc_past _ _ _ hzb]; exact q1
            have dz2 : (wr.alloc (.cells #[.int .i64 0, .int .i64 0] 23)).cell? ⟨zb, zo + 2, none⟩ = some (.int .i64 z2) := by rw [World.cell?_alloc_past _ _ _ hzb]; exact q2
            go_region_held3 (fun w' => w'.cell? ⟨w.heap.size, 0, none⟩ = some (.int .i64 z0) ∧ w'.cell? ⟨w.heap.size, 1, none⟩ = some (.int .i64 (-1)) ∧ w'.cell? ⟨rb, ro + k, none⟩ = some (.slice (some ⟨zb, zo, none⟩) 4 cc) ∧ w'.cell? ⟨zb, zo, none⟩ = some (.int .i64 z0) ∧ w'.cell? ⟨zb, zo + 1, none⟩ = some (.int .i64 z1) ∧ w'.cell? ⟨zb, zo + 2, none⟩ = some (.int .i64 z2))
              (first | exact ⟨d0, d1, dr, dz, dz1, dz2⟩ | exact ⟨e0, e1, er, ez, ez1, ez2⟩ | (simp only [cell_set_if, n0, n2, n3, false_and, if_false]; exact ⟨e0, e1, er, ez, ez1, ez2⟩))
              (first
                | (go_at_call 15; refine (grant_none_true z0 z1 z2 1 _ _ (by exact (HLW.out.below (((Below.refl _ _).alloc (Nat.le_refl _) _).drew)).asked z2 1)).mono ?_; rintro e w3 ⟨rfl, hb3⟩; have e0 := (below_cells hb3).1 w.heap.size 0 (by simp; omega); have e1 := (below_cells hb3).1 w.heap.size 1 (by simp; omega); have er := (below_cells hb3).1 rb (ro + k) (by simp; omega); have ez := (below_cells hb3).1 zb zo (by simp; omega); have ez1 := (below_cells hb3).1 zb (zo + 1) (by simp; omega); rw [World.cell?_drew] at e0 e1 er ez ez1; rw [d0] at e0; rw [d1] at e1; rw [dr] at er; rw [dz] at ez; rw [dz1] at ez1; have ez2 := (below_cells hb3).1 zb (zo + 2) (by simp; omega); rw [World.cell?_drew] at ez2; rw [dz2] at ez2; obtain ⟨hc, hf⟩ := below_cells hb3))
            go_wp2
            refine wp_region_quiet_lit (by kernel_rfl) (by exact onceLex) ?_
            dsimp only [List.append]
            repeat (go_big_quiet_step (fail))
            refine wpQuiet_nil ?_
            intro _ hw'
            obtain ⟨nq, hw''⟩ := hw'
            subst hw''
            go_wp2
            go_roundw
            case rel => exact ⟨k + 1, z0, z1, by omega, by go_num, rfl, rfl, (once_end hB hF hF.size hb3).1, (once_end hB hF hF.size hb3).2⟩
            case measure => simp [intOf]; omega
          by_cases hf2 : f = z1
          · subst hf2
            go_wp2
            have n0 : ¬ wr.heap.size = w.heap.size := by omega
            have n2 : ¬ wr.heap.size = rb := by omega
            have n3 : ¬ wr.heap.size = zb := by omega
            have d0 : (wr.alloc (.cells #[.int .i64 0, .int .i64 0] 23)).cell? ⟨w.heap.size, 0, none⟩ = some (.int .i64 z0) := (hB.alloc _).cell 0
            have d1 : (wr.alloc (.cells #[.int .i64 0, .int .i64 0] 23)).cell? ⟨w.heap.size, 1, none⟩ = some (.int .i64 f) := (hB.alloc _).cell 1
            have dr : (wr.alloc (.cells #[.int .i64 0, .int .i64 0] 23)).cell? ⟨rb, ro + k, none⟩ = some (.slice (some ⟨zb, zo, none⟩) 4 cc) := by rw [World.cell?_alloc_past _ _ _ hrb]; exact hrow
            have dz : (wr.alloc (.cells #[.int .i64 0, .int .i64 0] 23)).cell? ⟨zb, zo, none⟩ = some (.int .i64 z0) := by rw [World.cell?_alloc_past _ _ _ hzb]; exact q0
            have df : (wr.alloc (.cells #[.int .i64 0, .int .i64 0] 23)).cell? ⟨zb, zo + 1, none⟩ = some (.int .i64 f) := by rw [World.cell?_alloc_past _ _ _ hzb]; exact q1
            have dz2 : (wr.alloc (.cells #[.int .i64 0, .int .i64 0] 23)).cell? ⟨zb, zo + 2, none⟩ = some (.int .i64 z2) := by rw [World.cell?_alloc_past _ _ _ hzb]; exact q2
            go_region_held3 (fun w' => w'.cell? ⟨w.heap.size, 0, none⟩ = some (.int .i64 z0) ∧ w'.cell? ⟨w.heap.size, 1, none⟩ = some (.int .i64 f) ∧ w'.cell? ⟨rb, ro + k, none⟩ = some (.slice (some ⟨zb, zo, none⟩) 4 cc) ∧ w'.cell? ⟨zb, zo, none⟩ = some (.int .i64 z0) ∧ w'.cell? ⟨zb, zo + 1, none⟩ = some (.int .i64 f) ∧ w'.cell? ⟨zb, zo + 2, none⟩ = some (.int .i64 z2))
              (first | exact ⟨d0, d1, dr, dz, df, dz2⟩ | exact ⟨e0, e1, er, ez, ef, ez2⟩ | (simp only [cell_set_if, n0, n2, n3, false_and, if_false]; exact ⟨e0, e1, er, ez, ef, ez2⟩))
              (first
                | (go_at_call 15; refine (grant_same_true z0 f z2 1 _ _ hx7 (by exact (HLW.out.below (((Below.refl _ _).alloc (Nat.le_refl _) _).drew)).asked z2 1)).mono ?_; rintro e w3 ⟨rfl, hb3⟩; have e0 := (below_cells hb3).1 w.heap.size 0 (by simp; omega); have e1 := (below_cells hb3).1 w.heap.size 1 (by simp; omega); have er := (below_cells hb3).1 rb (ro + k) (by simp; omega); have ez := (below_cells hb3).1 zb zo (by simp; omega); have ef := (below_cells hb3).1 zb (zo + 1) (by simp; omega); rw [World.cell?_drew] at e0 e1 er ez ef; rw [d0] at e0; rw [d1] at e1; rw [dr] at er; rw [dz] at ez; rw [df] at ef; have ez2 := (below_cells hb3).1 zb (zo + 2) (by simp; omega); rw [World.cell?_drew] at ez2; rw [dz2] at ez2; obtain ⟨hc, hf⟩ := below_cells hb3))
            go_wp2
            refine wp_region_quiet_lit (by kernel_rfl) (by exact onceLex) ?_
            dsimp only [List.append]
            repeat (go_big_quiet_step (fail))
            refine wpQuiet_nil ?_
            intro _ hw'
            obtain ⟨nq, hw''⟩ := hw'
            subst hw''
            go_wp2
            go_roundw
            case rel => exact ⟨k + 1, z0, f, by omega, by go_num, rfl, rfl, (once_end hB hF hF.size hb3).1, (once_end hB hF hF.size hb3).2⟩
            case measure => simp [intOf]; omega
          · have hx8 : (f != -1) = true := by simpa using hf1
            have hx9 : (f != z1) = true := by simpa using hf2
            have hx4 : (f != f) = false := by simp
            go_wp2
            have n0 : ¬ wr.heap.size = w.heap.size := by omega
            have n2 : ¬ wr.heap.size = rb := by omega
            have n3 : ¬ wr.heap.size = zb := by omega
            have d0 : (wr.alloc (.cells #[.int .i64 0, .int .i64 0] 23)).cell? ⟨w.heap.size, 0, none⟩ = some (.int .i64 z0) := (hB.alloc _).cell 0
            have d1 : (wr.alloc (.cells #[.int .i64 0, .int .i64 0] 23)).cell? ⟨w.heap.size, 1, none⟩ = some (.int .i64 f) := (hB.alloc _).cell 1
            have dr : (wr.alloc (.cells #[.int .i64 0, .int .i64 0] 23)).cell? ⟨rb, ro + k, none⟩ = some (.slice (some ⟨zb, zo, none⟩) 4 cc) := by rw [World.cell?_alloc_past _ _ _ hrb]; exact hrow
            have dz : (wr.alloc (.cells #[.int .i64 0, .int .i64 0] 23)).cell? ⟨zb, zo, none⟩ = some (.int .i64 z0) := by rw [World.cell?_alloc_past _ _ _ hzb]; exact q0
            have dz1 : (wr.alloc (.cells #[.int .i64 0, .int .i64 0] 23)).cell? ⟨zb, zo + 1, none⟩ = some (.int .i64 z1) := by rw [World.cell?_alloc_past _ _ _ hzb]; exact q1
            have dz2 : (wr.alloc (.cells #[.int .i64 0, .int .i64 0] 23)).cell? ⟨zb, zo + 2, none⟩ = some (.int .i64 z2) := by rw [World.cell?_alloc_past _ _ _ hzb]; exact q2
            go_region_held3 (fun w' => w'.cell? ⟨w.heap.size, 0, none⟩ = some (.int .i64 z0) ∧ w'.cell? ⟨w.heap.size, 1, none⟩ = some (.int .i64 f) ∧ w'.cell? ⟨rb, ro + k, none⟩ = some (.slice (some ⟨zb, zo, none⟩) 4 cc) ∧ w'.cell? ⟨zb, zo, none⟩ = some (.int .i64 z0) ∧ w'.cell? ⟨zb, zo + 1, none⟩ = some (.int .i64 z1) ∧ w'.cell? ⟨zb, zo + 2, none⟩ = some (.int .i64 z2))
              (first | exact ⟨d0, d1, dr, dz, dz1, dz2⟩ | exact ⟨e0, e1, er, ez, ez1, ez2⟩ | (simp only [cell_set_if, n0, n2, n3, false_and, if_false]; exact ⟨e0, e1, er, ez, ez1, ez2⟩))
              (first
                | (go_at_call 15; refine (grant_other f z0 z1 z2 1 _ _ hx8 hx9).mono ?_; rintro e w3 ⟨rfl, hb3⟩; have e0 := (below_cells hb3).1 w.heap.size 0 (by simp; omega); have e1 := (below_cells hb3).1 w.heap.size 1 (by simp; omega); have er := (below_cells hb3).1 rb (ro + k) (by simp; omega); have ez := (below_cells hb3).1 zb zo (by simp; omega); have ez1 := (below_cells hb3).1 zb (zo + 1) (by simp; omega); rw [World.cell?_drew] at e0 e1 er ez ez1; rw [d0] at e0; rw [d1] at e1; rw [dr] at er; rw [dz] at ez; rw [dz1] at ez1; have ez2 := (below_cells hb3).1 zb (zo + 2) (by simp; omega); rw [World.cell?_drew] at ez2; rw [dz2] at ez2; obtain ⟨hc, hf⟩ := below_cells hb3))
            go_wp2
            refine wp_region_quiet_lit (by kernel_rfl) (by exact onceLex) ?_
            dsimp only [List.append]
            repeat (go_big_quiet_step (fail))
            refine wpQuiet_nil ?_
            intro _ hw'
            obtain ⟨nq, hw''⟩ := hw'
            subst hw''
            go_wp2
            go_roundw
            case rel => exact ⟨k + 1, z0, f, by omega, by go_num, rfl, rfl, (once_end hB hF hF.size hb3).1, (once_end hB hF hF.size hb3).2⟩
            case measure => simp [intOf]; omega
      · have h5 : ((m : Int) != 4) = true := by simp; omega
        clear hrd hln hwf
        go_wp2
        go_roundw
        case rel => exact ⟨k + 1, t, f, by omega, by go_num, rfl, rfl, hB, hF⟩
        case measure => simp [intOf]; omega
    · obtain rfl : k = n := by omega
      go_wp2
      go_ret
      exact ⟨rfl, hbw⟩
end Go.Proofs.Ytppfpiidfklkdaa
