/-
  The walk of the law RaftSafe where its arguments are few and in form. Conditions: those.
-/
import Derived.Test.YtmnndekpedacmaaSafeL
import Derived.Test.YtmnndekpedacmaaQuietNew
import Derived.Deep.LoopGhost
namespace Go.Proofs.Ytmnndekpedacmaa
open Go Go.RowKit
attribute [local go_sem] cell_set_if

set_option maxRecDepth 100000 in
set_option maxHeartbeats 8000000 in
theorem safe_good (Av A1 : Option Addr) (n c n1 c1 ld : Nat) (A : Nat → Option Addr) (L C : Nat → Nat) (Z : Nat → List Int) (mem : List Int) (term : Int) (w : World) (hr : RowsAt w Av n A L C Z) (hr1 : Rd w A1 (flatZ mem)) (hn1 : mem.length = n1)
    (h1 : (n : Int) ≤ 7) (h2 : (n1 : Int) ≤ 10) (h3 : ld < n) (h4 : rightV mem = true) :
    Calls Try.prog 3 #[.slice Av n c, .slice A1 n1 c1, .int .i64 ld, .int .i64 term] w fun e w' => e = .returned (.bool true) ∧ Below w.heap.size w w' := by
  obtain ⟨rb, ro, rfl, hrb, hrowA⟩ := hr.flat (by omega)
  have HR := Lib.hid hr
  have HRow := Lib.hid hrowA
  have HR1 := Lib.hid hr1
  have HN1 := Lib.hid hn1
  have h4i : (0 : Int) ≤ (ld : Int) := by omega
  have h5i : (ld : Int) < (n : Int) := by omega
  have hc := rright_any A1 n1 c1 mem w hr1 hn1 (by omega)
  rw [h4] at hc
  have HC := Lib.hid hc
  have HM := Lib.hid h4
  obtain ⟨i0, hi0, hz0, hz1, hz2⟩ := info_parts zinfo
  obtain ⟨i1, hi1, hy0, hy1, hy2⟩ := info_parts ptrInfo1
  obtain ⟨i2, hi2, hx0, hx1, hx2⟩ := info_parts ptrInfo2
  obtain ⟨E, hE⟩ : ∃ E : Nat → List Ent, E = fun i => risenE 0 0 ((Z i).map cutT) := ⟨_, rfl⟩
  have HE := Lib.hid hE
  have dd1 : decide ((7 : Int) < (n : Int)) = false := decide_eq_false (by omega)
  have dd2 : decide ((10 : Int) < (n1 : Int)) = false := decide_eq_false (by omega)
  have dd3 : decide ((ld : Int) < 0) = false := decide_eq_false (by omega)
  have dd4 : decide (n ≤ ld) = false := decide_eq_false (by omega)
  have dd5 : decide ((n : Int) ≤ (ld : Int)) = false := decide_eq_false (by omega)
  clear hr hrowA hr1 hn1 hc h4 hE
  go_enter Try.func3, Try.ntmps3
  go_wp2_with (first
    | (go_at_call 5; refine HC.out.mono ?_; rintro e w0 ⟨rfl, q0⟩)
    | (go_at_call 6; refine (alive25_any _).mono ?_; rintro e w1 ⟨rfl, b1⟩))
  have B1 : Below w.heap.size w w1 := below_of b1 (q0.below _) (q0.below 0).size
  clear HC b1
  go_loopw [9, 10, 11] (fun u9 u10 u11 wr => ∃ (i : Nat) (gs hs : List Nat), i ≤ n ∧ u11 = .int .i64 i ∧ Two wr w.heap.size E i u9 u10 gs hs ∧ Below w.heap.size w wr) (fun _ _ u11 _ => n - (intOf u11).toNat)
  case atStart => exact ⟨0, [], [], by omega, rfl, Two.nil _ _ _, B1⟩
  case round =>
    obtain ⟨i, gs, hs, hi, rfl, HT, hB⟩ := hrel
    obtain ⟨wo, rfl⟩ : ∃ wo : World, wo = wr := ⟨_, rfl⟩
    by_cases hlt : i < n
    · have hrow := cell_bb hB hrb (HRow.out i hlt)
      have hrd := (HR.out.rd i hlt).below hB
      have hln := HR.out.len i hlt
      have hEi : E i = risenE 0 0 ((Z i).map cutT) := by rw [HE.out]
      have hii : (i : Int) < (n : Int) := by omega
      rw [← flatZ_map] at hrd
      generalize hm : L i = m at hrow hln
      generalize C i = cc at hrow
      generalize A i = A' at hrow hrd
      generalize Z i = z at hrd hln hEi
      clear hm
      have HLn := Lib.hid hln
      have HEi := Lib.hid hEi
      clear hln hEi
      by_cases h12 : (12 : Int) < (m : Int)
      · go_wp2
        go_ret
        exact ⟨rfl, hB⟩
      have h12' : (m : Int) ≤ 12 := by omega
      have dd6 : decide ((12 : Int) < (m : Int)) = false := decide_eq_false (by omega)
      clear h12
      go_wp2_with fail
      go_loopw [12, 13] (fun u12 u13 wr => ∃ k : Nat, k ≤ m ∧ u13 = .int .i64 k ∧ wr.ownsRow wo.heap.size 3 1 u12 k (flatZ ((z.take k).map cutT)) ∧ Below wo.heap.size wo wr) (fun _ u13 _ => m - (intOf u13).toNat)
      case atStart => exact ⟨0, by omega, rfl, World.ownsRow_nil _ _ _ _, Below.refl _ _⟩
      case round =>
        obtain ⟨k, hk, rfl, hO, hB2⟩ := hrel
        have hrow2 := cell_b hB2 hrow
        by_cases hkm : k < m
        · obtain ⟨b1, o1, x, rfl, _, hx, d0⟩ := (hrd.below hB2).num (k := k) (by have := HLn.out; omega)
          have hki : (k : Int) < (m : Int) := by omega
          have HT2 : Hid ((z.take (k + 1)).map cutT = (z.take k).map cutT ++ [min (max x 0) 5]) := by
            unfold Hid; rw [List.take_add_one, hx, List.map_append]; rfl
          clear hx
          go_wp2_with (at_builtin; refine wpList_app rfl (.tmp 75) (.tmp 85) 23 rfl wo.heap.size 3 i0 _ 1 8 Try.underlying23 hi0 hz0 hz1 hz2 rfl (by omega) u12 k _ rfl (hO.alloc _) _ 1 1 _ rfl (Rd.one _ _ _) rfl (one_int _ _) (by unfold maxLen; omega) (by omega) (by have := hB2.size; simp; omega) ?_; intro v' w2 o2 _ b2 _)
          go_roundw
          case rel => exact ⟨k + 1, by omega, by go_num, by rw [HT2.out, flatZ_app]; exact o2, (hB2.alloc hB2.size _).trans b2⟩
          case measure => simp [intOf]; omega
        · obtain rfl : m = k := by omega
          obtain ⟨A2, c2, rfl, hc2⟩ := own_form hO
          have hzt : z.take m = z := List.take_of_length_le (by have := HLn.out; omega)
          rw [hzt] at hO
          have B2 := below_of hB2 hB hB.size
          have HLg : Hid (Calls Try.prog 7 #[.int .i64 0, .int .i64 0, .slice A2 m c2] wr fun e w' => ∃ g1 v1 g2 v2, e = .returned (.tuple #[.pointer (some ⟨g1, 0, none⟩), .pointer (some ⟨g2, 0, none⟩)]) ∧
              LogT 73 w' w.heap.size g1 0 0 (E i) v1 ∧ LogT 58 w' w.heap.size g2 0 0 (E i) v2 ∧ Below wr.heap.size wr w') := by
            refine (logs_any wr 0 0 A2 m c2 (z.map cutT) (by rw [← flatZ_map]; exact Rd.of_own hO) (by rw [List.length_map]; exact HLn.out) (by omega) (by omega)).mono ?_
            rintro e w' ⟨g1, v1, g2, v2, x1, x2, x3, x4, _⟩
            rw [HEi.out]
            exact ⟨g1, v1, g2, v2, x1, x2.base B2.size, x3.base B2.size, x4⟩
          have HT2 := HT.below hB2
          clear hzt hO HT
          go_wp2_with (first
            | (go_at_call 7; refine HLg.out.mono ?_; rintro e w3 ⟨g1, y1, g2, y2, rfl, L1, L2, b3⟩; have HT3 := HT2.below b3; have B3 := below_of b3 B2 B2.size; clear HT2)
            | (at_builtin; refine wpList_app rfl (.tmp 94) (.tmp 96) 26 rfl w.heap.size 28 i1 _ 1 8 Try.underlying26 hi1 hy0 hy1 hy2 rfl (by omega) u9 i _ rfl (HT3.o9.alloc _) _ 1 1 _ rfl (Rd.one _ _ _) rfl (by simp [Value.oneCell']) (by unfold maxLen; omega) (by omega) (by have := B3.size; simp; omega) ?_; intro v9' w4 o4 k4 b4 _; have O10 := own_frm_ty (HT3.o10.alloc _) (grown_frm k4) (TyS.own (HT3.o9.alloc _)) (by decide); have s4 := b4.size)
            | (at_builtin; refine wpList_app rfl (.tmp 98) (.tmp 100) 27 rfl w.heap.size 29 i2 _ 1 8 Try.underlying27 hi2 hx0 hx1 hx2 rfl (by omega) u10 i _ rfl (O10.alloc _) _ 1 1 _ rfl (Rd.one _ _ _) rfl (by simp [Value.oneCell']) (by unfold maxLen; omega) (by omega) (by have := B3.size; simp at s4; simp; omega) ?_; intro v10' w5 o5 k5 b5 _))
          go_roundw
          case rel =>
            have B4 : Below w.heap.size w w4 := (B3.alloc B3.size _).trans b4
            exact ⟨i + 1, gs ++ [g1], hs ++ [g2], by omega, by go_num, HT3.app L1 L2 ((Below.refl _ _).alloc (Nat.le_refl _) _) o4 k4 ((Below.refl _ _).alloc (Nat.le_refl _) _) o5 k5, (B4.alloc B4.size _).trans b5⟩
          case measure => simp [intOf]; omega
    · obtain rfl : n = i := by omega
      obtain ⟨q9, c9, g9, y9, rfl, hc9, p9, L9⟩ := HT.log9 h3
      obtain ⟨q10, c10, g10, y10, rfl, hc10, p10, L10⟩ := HT.log10 h3
      obtain ⟨M, hM⟩ : ∃ M, M = madeCells (Value.int .i64 0).cells (((n : Nat) : Int).toNat * i0.size) := ⟨_, rfl⟩
      have hMr : M.toList = flatZ (List.replicate n 0) := by
        rw [hM, hz1, flatZ_map]; simp [madeCells, Value.cells, Nat.mod_one, List.map_const']
      have hmk : ∀ W : World, (Instr.makeSlice 23 (.int .i64 (n : Int)) (.int .i64 (n : Int))).run Try.prog W = .ok (.slice (some ⟨W.heap.size, 0, none⟩) n n) (W.alloc (.cells M 3)) := fun W => by
        have h := run_make (P := Try.prog) W 23 3 i0 (.int .i64 0) Try.underlying23 hi0 hz0 .i64 .i64 (n : Int) (n : Int) (by omega) (by omega) (by rw [hz2]; omega) (by omega)
        rw [← hM] at h
        simpa using h
      have HMid : Mid w (wo.alloc (.cells M 3)) E ld n wo.heap.size (.slice (some ⟨q9, 0, none⟩) n c9) (.slice (some ⟨q10, 0, none⟩) n c10) gs hs (List.replicate n 0) := by
        refine ⟨?_, MatchOk.start E ld n, HT.below ((Below.refl _ _).alloc (Nat.le_refl _) _), hB.alloc hB.size _⟩
        have hMs : M.size = n * 1 := by rw [← Array.length_toList, hMr, flatZ_len]; simp
        exact ⟨by rw [flatZ_len]; simp, .inr ⟨wo.heap.size, n, M, rfl, hB.size, heap_alloc_new wo _, Nat.le_refl _, by unfold maxLen; omega, hMs, by rw [hMr, List.take_of_length_le (by rw [flatZ_len]; simp)]⟩⟩
      clear hM hMr HT L9 L10 p9 p10
      go_wp2_with fail
      clear hB
      go_loopw [17] (fun u17 wr => ∃ (j : Nat) (ms : List Int), j ≤ n ∧ u17 = .int .i64 j ∧ Mid w wr E ld n wo.heap.size (.slice (some ⟨q9, 0, none⟩) n c9) (.slice (some ⟨q10, 0, none⟩) n c10) gs hs ms) (fun u17 _ => n - (intOf u17).toNat)
      case atStart => exact ⟨0, _, by omega, rfl, HMid⟩
      case round =>
        generalize wo.heap.size = G at *
        obtain ⟨j, ms, hj, rfl, HD⟩ := hrel
        by_cases hjn : j < n
        · have hji : (j : Int) < (n : Int) := by omega
          obtain ⟨wj, rfl⟩ : ∃ wj : World, wj = wr := ⟨_, rfl⟩
          go_wp2_with fail
          go_loopg [18] ((E ld).length + 1) (fun gk u18 wr => ∃ ms : List Int, Mid w wr E ld n G (.slice (some ⟨q9, 0, none⟩) n c9) (.slice (some ⟨q10, 0, none⟩) n c10) gs hs ms ∧ ∀ m : Nat, ms[j]? = some (m : Int) → (E ld).length + 1 - m ≤ gk)
          case atStart => exact ⟨ms, HD, fun m _ => by omega⟩
          case round =>
            clear HD ms
            obtain ⟨ms, HD, hgk⟩ := hrel
            obtain ⟨m, hm, hml, cm⟩ := HD.cell hjn
            obtain ⟨gl, yl, pl, Ll⟩ := HD.log10 h3
            obtain ⟨gj, yj, pj, Lj⟩ := HD.log10 hjn
            have ql := NewM.cell pl
            have qj := NewM.cell pj
            have qm := NewM.cell cm
            have hLs : ∀ r : NewM wr, Calls Try.prog 8 #[.pointer (some ⟨gl, 0, none⟩)] r.w' fun e w'' => e = .returned (.int .i64 ((E ld).length : Int)) ∧ Below r.w'.heap.size r.w' w'' := fun r =>
              (ref_last_any _ _ _ _ _ _ _ (Ll.below r.h)).mono fun e w'' ⟨h1, h2⟩ => ⟨by rw [h1, Int.zero_add], h2.below _⟩
            have hA1 : ∀ W, Below wr.heap.size wr W → Calls Try.prog 9 #[.pointer (some ⟨gl, 0, none⟩), .int .i64 ((m : Int) + 1)] W fun e w'' => e = .returned (.tuple #[.int .i64 ((((E ld)[m]?).map (·.term)).getD 0), .bool (((E ld)[m]?).map (·.term)).isSome]) ∧ Below W.heap.size W w'' := fun W hW =>
              (ref_at_any _ _ _ _ _ _ _ _ (Ll.below hW)).mono fun e w'' ⟨h1, h2⟩ => ⟨by rw [h1, zero_termE], h2.below _⟩
            have hA2 : ∀ W, Below wr.heap.size wr W → Calls Try.prog 9 #[.pointer (some ⟨gj, 0, none⟩), .int .i64 ((m : Int) + 1)] W fun e w'' => e = .returned (.tuple #[.int .i64 ((((E j)[m]?).map (·.term)).getD 0), .bool (((E j)[m]?).map (·.term)).isSome]) ∧ Below W.heap.size W w'' := fun W hW =>
              (ref_at_any _ _ _ _ _ _ _ _ (Lj.below hW)).mono fun e w'' ⟨h1, h2⟩ => ⟨by rw [h1, zero_termE], h2.below _⟩
            have HLs := Lib.hid hLs
            have hmg := hgk m hm
            have hmo : (m : Int) ≤ 1000000000 := by have := Ll.n1; omega
            have HMm := Lib.hid hm
            have HGK := Lib.hid hgk
            by_cases hlt4 : m < (E ld).length
            · obtain ⟨tl, htl⟩ : ∃ tl, ((E ld)[m]?).map (·.term) = some tl := ⟨_, by rw [List.getElem?_eq_getElem hlt4]; rfl⟩
              obtain ⟨y, z, hA2', hyz⟩ : ∃ (y : Int) (z : Bool), (∀ W, Below wr.heap.size wr W → Calls Try.prog 9 #[.pointer (some ⟨gj, 0, none⟩), .int .i64 ((m : Int) + 1)] W fun e w'' => e = .returned (.tuple #[.int .i64 y, .bool z]) ∧ Below W.heap.size W w'') ∧
                  (z = false ∨ (z = true ∧ (tl != y) = true) ∨ (z = true ∧ y = tl ∧ Hid (((E j)[m]?).map (·.term) = some tl))) := by
                cases hoj : ((E j)[m]?).map (·.term) with
                | none => rw [hoj] at hA2; exact ⟨_, _, hA2, .inl rfl⟩
                | some tj =>
                  rw [hoj] at hA2
                  by_cases e : tj = tl
                  · subst e; exact ⟨_, _, hA2, .inr (.inr ⟨rfl, rfl, by unfold Hid; rfl⟩)⟩
                  · exact ⟨_, _, hA2, .inr (.inl ⟨rfl, by simp; exact fun h => e h.symm⟩)⟩
              rw [htl] at hA1
              have HTL := Lib.hid htl
              have HA1 := Lib.hid hA1
              have HA2 := Lib.hid hA2'
              have hmi : (m : Int) < ((E ld).length : Int) := by omega
              obtain ⟨N, hN⟩ : ∃ N, N = (E ld).length := ⟨_, rfl⟩
              rw [← hN] at HLs hmi
              have fm := HD.free j
              clear hLs hA1 hA2 hA2' htl hm hgk hN Ll Lj cm pl pj
              go_wp2_with fail
              refine wp_region_quiet_new (by kernel_rfl) (by kernel_rfl) ?_
              repeat (go_big_quiet_step (first | (go_at_call 8; with_reducible exact NewM.call (HLs.out _))))
              refine wpQuiet_nil ?_
              rintro _ ⟨r1, rfl⟩
              have ql1 := NewM.cell (ql r1)
              have qj1 := NewM.cell (qj r1)
              have qm1 := NewM.cell (qm r1)
              have HA1' : Hid (∀ r : NewM r1.w', Calls Try.prog 9 #[.pointer (some ⟨gl, 0, none⟩), .int .i64 ((m : Int) + 1)] r.w' fun e w'' => e = .returned (.tuple #[.int .i64 tl, .bool true]) ∧ Below r.w'.heap.size r.w' w'') := fun r => HA1.out _ (below_of r.h r1.h r1.h.size)
              clear ql qj qm
              go_wp2_with fail
              refine wp_region_quiet_new (by kernel_rfl) (by kernel_rfl) ?_
              repeat (go_big_quiet_step (first | (go_at_call 9; with_reducible exact NewM.call (HA1'.out _))))
              refine wpQuiet_nil ?_
              rintro _ ⟨r2, rfl⟩
              have qj2 := NewM.cell (qj1 r2)
              have qm2 := NewM.cell (qm1 r2)
              have HA2' : Hid (∀ r : NewM r2.w', Calls Try.prog 9 #[.pointer (some ⟨gj, 0, none⟩), .int .i64 ((m : Int) + 1)] r.w' fun e w'' => e = .returned (.tuple #[.int .i64 y, .bool z]) ∧ Below r.w'.heap.size r.w' w'') := fun r => HA2.out _ (below_of r.h (below_of r2.h r1.h r1.h.size) (Nat.le_trans r1.h.size r2.h.size))
              clear ql1 qj1 qm1
              go_wp2_with fail
              refine wp_region_quiet_new (by kernel_rfl) (by kernel_rfl) ?_
              repeat (go_big_quiet_step (first | (go_at_call 9; with_reducible exact NewM.call (HA2'.out _))))
              refine wpQuiet_nil ?_
              rintro _ ⟨r3, rfl⟩
              have HD3 := ((HD.below r1.h).below r2.h).below r3.h
              have cm3 := qm2 r3
              have fm3 := HD3.free j
              clear qj2 qm2
              rcases hyz with rfl | ⟨rfl, hy⟩ | ⟨rfl, rfl, hy⟩
              · go_wp2
                go_roundw
                case rel => exact ⟨j + 1, ms, by omega, by go_num, HD3⟩
                case measure => simp [intOf]; omega
              · go_wp2
                go_roundw
                case rel => exact ⟨j + 1, ms, by omega, by go_num, HD3⟩
                case measure => simp [intOf]; omega
              · go_wp2
                go_roundg (gk - 1)
                case rel =>
                  refine ⟨ms.set j ((m : Int) + 1), HD3.next HMm.out HTL.out hy.out, fun m' hm' => ?_⟩
                  rw [List.getElem?_set_self (List.getElem?_eq_some_iff.1 HMm.out).1] at hm'
                  have := Option.some.inj hm'
                  omega
                case measure => omega
            · have hmi : ((E ld).length : Int) ≤ (m : Int) := by omega
              obtain ⟨N, hN⟩ : ∃ N, N = (E ld).length := ⟨_, rfl⟩
              rw [← hN] at HLs hmi
              clear hLs hA1 hA2 hm hgk hN Ll Lj cm pl pj
              go_wp2_with fail
              refine wp_region_quiet_new (by kernel_rfl) (by kernel_rfl) ?_
              repeat (go_big_quiet_step (first | (go_at_call 8; with_reducible exact NewM.call (HLs.out _))))
              refine wpQuiet_nil ?_
              rintro _ ⟨r1, rfl⟩
              have HD1 := HD.below r1.h
              clear ql qj qm
              go_wp2
              go_roundw
              case rel => exact ⟨j + 1, ms, by omega, by go_num, HD1⟩
              case measure => simp [intOf]; omega
        · obtain rfl : n = j := by omega
          obtain ⟨gl, yl, pl, Ll⟩ := HD.log9 h3
          obtain ⟨gr, yr, pr, Lr⟩ := HD.log10 h3
          obtain ⟨K, hK⟩ : ∃ K, K = commV mem ms 0 0 (E ld) term 0 := ⟨_, rfl⟩
          have HC1 : Hid (∀ W, Below wr.heap.size wr W → Calls Try.prog 10 #[.slice A1 n1 c1, .pointer (some ⟨gl, 0, none⟩), .int .i64 term, .int .i64 0, .slice (some ⟨G, 0, none⟩) n n] W fun e w' => e = .returned (.int .i64 K) ∧ Below W.heap.size W w') := fun W hW => by
            rw [hK]
            exact pcommit_any A1 (some ⟨G, 0, none⟩) n1 c1 n n _ gl mem ms 0 0 (E ld) yl term 0 W ((HR1.out.below HD.bel).below hW) HN1.out ((Rd.of_own HD.own).below hW) HD.ok.len (by omega) (by omega) (Ll.below hW)
          have HC2 : Hid (∀ W, Below wr.heap.size wr W → Calls Try.prog 11 #[.slice A1 n1 c1, .pointer (some ⟨gr, 0, none⟩), .int .i64 term, .int .i64 0, .slice (some ⟨G, 0, none⟩) n n] W fun e w' => e = .returned (.int .i64 K) ∧ Below W.heap.size W w') := fun W hW => by
            rw [hK]
            exact (rcommit_any A1 (some ⟨G, 0, none⟩) n1 c1 n n _ gr mem ms 0 0 (E ld) yr term 0 W ((HR1.out.below HD.bel).below hW) HN1.out ((Rd.of_own HD.own).below hW) HD.ok.len (by omega) (by omega) (Lr.below hW)).mono fun e w' ⟨x1, x2⟩ => ⟨x1, x2.below _⟩
          have hKK : (K != K) = false := by simp
          have HK := Lib.hid hK
          clear hK Ll Lr
          go_wp2_with (first
            | (go_at_call 10; refine (HC1.out _ (Below.refl _ _)).mono ?_; rintro e w3 ⟨rfl, b3⟩; have D3 := HD.below b3; have pr3 := cell_b b3 pr)
            | (go_at_call 11; refine (HC2.out _ b3).mono ?_; rintro e w4 ⟨rfl, b4⟩; have D4 := D3.below b4))
          clear HC1 HC2 pl pr pr3 HD D3 b3 b4
          go_loopw [23] (fun u23 wr => ∃ i : Nat, i ≤ n ∧ u23 = .int .i64 i ∧ Mid w wr E ld n G (.slice (some ⟨q9, 0, none⟩) n c9) (.slice (some ⟨q10, 0, none⟩) n c10) gs hs ms) (fun u23 _ => n - (intOf u23).toNat)
          case atStart => exact ⟨0, by omega, rfl, D4⟩
          case round =>
            clear D4
            obtain ⟨i, hi, rfl, HD⟩ := hrel
            obtain ⟨wi, rfl⟩ : ∃ wi : World, wi = wr := ⟨_, rfl⟩
            by_cases hin : i < n
            · have hii : (i : Int) < (n : Int) := by omega
              obtain ⟨X, hX⟩ : ∃ X, X = 0 + ((E i).length : Int) := ⟨_, rfl⟩
              obtain ⟨Y, hY⟩ : ∃ Y, Y = lastT 0 (E i) := ⟨_, rfl⟩
              have HX := Lib.hid hX
              have HY := Lib.hid hY
              clear hX hY
              go_wp2_with fail
              go_loopw [24, 25] (fun u24 u25 wr => ∃ (k cnt : Nat) (ws : List Int), k ≤ n ∧ cnt ≤ k ∧ u25 = .int .i64 k ∧ wr.ownsRow wi.heap.size 3 1 u24 cnt (flatZ ws) ∧ Hid (WouldOk E i ws) ∧ Below wi.heap.size wi wr) (fun _ u25 _ => n - (intOf u25).toNat)
              case atStart => exact ⟨0, 0, [], by omega, by omega, rfl, World.ownsRow_nil _ _ _ _, WouldOk.nil E i, Below.refl _ _⟩
              case round =>
                obtain ⟨k, cnt, ws, hk, hck, rfl, hO, HW, hB⟩ := hrel
                have HDk := HD.below hB
                obtain ⟨gi, yi, pi, Li⟩ := HDk.log10 hin
                by_cases hkn : k < n
                · obtain ⟨gk, yk, pk, Lk⟩ := HDk.log9 hkn
                  have hki : (k : Int) < (n : Int) := by omega
                  obtain ⟨nw, hnw⟩ : ∃ nw, nw = newerB 0 0 (E k) X Y := ⟨_, rfl⟩
                  have HLs : Hid (∀ r : NewM wr, Calls Try.prog 8 #[.pointer (some ⟨gi, 0, none⟩)] r.w' fun e w'' => e = .returned (.int .i64 X) ∧ Below r.w'.heap.size r.w' w'') := fun r => by
                    rw [HX.out]
                    exact (ref_last_any _ _ _ _ _ _ _ (Li.below r.h)).mono fun e w'' ⟨h1, h2⟩ => ⟨h1, h2.below _⟩
                  have HLt : Hid (∀ r : NewM wr, Calls Try.prog 13 #[.pointer (some ⟨gi, 0, none⟩)] r.w' fun e w'' => e = .returned (.int .i64 Y) ∧ Below r.w'.heap.size r.w' w'') := fun r => by
                    rw [HY.out]
                    exact (ref_lastterm_any _ _ _ _ _ _ _ (Li.below r.h)).mono fun e w'' ⟨h1, h2⟩ => ⟨h1, h2.below _⟩
                  have HWo : Hid (∀ r : NewM wr, Calls Try.prog 12 #[.agg #[.int .i64 9, .int .i64 (-1)], .int .i64 10, .int .i64 X, .int .i64 Y, .pointer (some ⟨gk, 0, none⟩), .bool false] r.w' fun e w'' => e = .returned (.bool nw) ∧ Below r.w'.heap.size r.w' w'') := fun r => by
                    rw [hnw]
                    refine (would_any 9 (-1) 10 X Y _ false _ _ ((Lk.below r.h).asked X Y)).mono fun e w'' ⟨h1, h2⟩ => ⟨by rw [h1]; simp, h2⟩
                  have qi := NewM.cell pi
                  have qk := NewM.cell pk
                  have HNW := Lib.hid hnw
                  clear pi pk Li Lk hnw
                  go_wp2_with fail
                  refine wp_region_quiet_new (by kernel_rfl) (by kernel_rfl) ?_
                  repeat (go_big_quiet_step (first
                    | (go_at_call 8; with_reducible exact NewM.call (HLs.out _))
                    | (go_at_call 13; with_reducible exact NewM.call (HLt.out _))
                    | (go_at_call 12; with_reducible exact NewM.call (HWo.out _))))
                  refine wpQuiet_nil ?_
                  rintro _ ⟨r1, rfl⟩
                  have O1 := own_frm hO (Frm.of_below (S := no) r1.h) (fun _ _ => id)
                  have B1' := below_of r1.h hB hB.size
                  clear qi qk HLs HLt HWo hO
                  cases nw
                  · go_wp2
                    go_roundw
                    case rel => exact ⟨k + 1, cnt, ws, by omega, by omega, by go_num, O1, HW, B1'⟩
                    case measure => simp [intOf]; omega
                  · go_wp2_with (at_builtin; refine wpList_app rfl (.tmp 206) (.tmp 208) 23 rfl wi.heap.size 3 i0 _ 1 8 Try.underlying23 hi0 hz0 hz1 hz2 rfl (by omega) u24 cnt _ rfl (O1.alloc _) _ 1 1 _ rfl (Rd.one _ _ _) rfl (one_int _ _) (by unfold maxLen; omega) (by omega) (by have := B1'.size; simp; omega) ?_; intro v' w5 o5 _ b5 _)
                    go_roundw
                    case rel =>
                      have hap : Hid (WouldOk E i (ws ++ [(k : Int)])) := HW.out.app (by rw [← HX.out, ← HY.out]; exact HNW.out.symm)
                      exact ⟨k + 1, cnt + 1, ws ++ [(k : Int)], by omega, by omega, by go_num, by rw [flatZ_app]; exact o5, hap, (B1'.alloc B1'.size _).trans b5⟩
                    case measure => simp [intOf]; omega
                · obtain rfl : n = k := by omega
                  obtain ⟨A4, c4, rfl, hc4⟩ := own_form hO
                  have hwl : ws.length = cnt := by have := hO.1; rw [flatZ_len] at this; omega
                  obtain ⟨Q, hQ⟩ : ∃ Q, Q = quorV mem ws := ⟨_, rfl⟩
                  have HQ1 : Hid (∀ W, Below wr.heap.size wr W → Calls Try.prog 14 #[.slice A1 n1 c1, .slice A4 cnt c4] W fun e w' => e = .returned (.bool Q) ∧ Below W.heap.size W w') := fun W hW => by
                    rw [hQ]
                    exact (rquorum_any A1 A4 n1 c1 cnt c4 mem ws W ((HR1.out.below HDk.bel).below hW) HN1.out ((Rd.of_own hO).below hW) hwl (by omega) (by omega)).mono fun e w' ⟨x1, x2⟩ => ⟨x1, x2.below _⟩
                  have HLs : Hid (∀ W, Below wr.heap.size wr W → Calls Try.prog 8 #[.pointer (some ⟨gi, 0, none⟩)] W fun e w'' => e = .returned (.int .i64 X) ∧ Below W.heap.size W w'') := fun W hW => by
                    rw [HX.out]
                    exact (ref_last_any _ _ _ _ _ _ _ (Li.below hW)).mono fun e w'' ⟨h1, h2⟩ => ⟨h1, h2.below _⟩
                  have HLt : Hid (∀ W, Below wr.heap.size wr W → Calls Try.prog 13 #[.pointer (some ⟨gi, 0, none⟩)] W fun e w'' => e = .returned (.int .i64 Y) ∧ Below W.heap.size W w'') := fun W hW => by
                    rw [HY.out]
                    exact (ref_lastterm_any _ _ _ _ _ _ _ (Li.below hW)).mono fun e w'' ⟨h1, h2⟩ => ⟨h1, h2.below _⟩
                  have HLaw : Hid (Q = true → Y ≤ term → 0 < K → K ≤ X) := fun h1 h2 h5 => by
                    rw [HX.out]
                    exact safe_law mem ms E ld i term K ws HK.out h5 (fun k x hx => (HD.ok.ok k x hx).2.2) (fun j => by rw [HE.out]; exact risen_upE _) HW.out (by rw [← hQ]; exact h1) (by rw [← HY.out]; exact h2)
                  clear hQ hO hwl Li
                  cases Q
                  · go_wp2_with (go_at_call 14; refine (HQ1.out _ (Below.refl _ _)).mono ?_; rintro e w5 ⟨rfl, b5⟩)
                    go_roundw
                    case rel => exact ⟨i + 1, by omega, by go_num, HDk.below b5⟩
                    case measure => simp [intOf]; omega
                  · by_cases hYt : term < Y
                    · go_wp2_with (first
                        | (go_at_call 14; refine (HQ1.out _ (Below.refl _ _)).mono ?_; rintro e w5 ⟨rfl, b5⟩; have pi5 := cell_b b5 pi)
                        | (go_at_call 13; refine (HLt.out _ b5).mono ?_; rintro e w6 ⟨rfl, b6⟩; have b56 := below_of b6 b5 b5.size))
                      go_roundw
                      case rel => exact ⟨i + 1, by omega, by go_num, HDk.below b56⟩
                      case measure => simp [intOf]; omega
                    · have hYt' : Y ≤ term := by omega
                      clear hYt
                      by_cases hK0 : 0 < K
                      · have hKX := HLaw.out rfl hYt' hK0
                        go_wp2_with (first
                          | (go_at_call 14; refine (HQ1.out _ (Below.refl _ _)).mono ?_; rintro e w5 ⟨rfl, b5⟩; have pi5 := cell_b b5 pi)
                          | (go_at_call 13; refine (HLt.out _ b5).mono ?_; rintro e w6 ⟨rfl, b6⟩; have b56 := below_of b6 b5 b5.size; have pi6 := cell_b b56 pi)
                          | (go_at_call 8; refine (HLs.out _ b56).mono ?_; rintro e w7 ⟨rfl, b7⟩; have b57 := below_of b7 b56 b56.size))
                        go_roundw
                        case rel => exact ⟨i + 1, by omega, by go_num, HDk.below b57⟩
                        case measure => simp [intOf]; omega
                      · have hK0' : K ≤ 0 := by omega
                        clear hK0
                        go_wp2_with (first
                          | (go_at_call 14; refine (HQ1.out _ (Below.refl _ _)).mono ?_; rintro e w5 ⟨rfl, b5⟩; have pi5 := cell_b b5 pi)
                          | (go_at_call 13; refine (HLt.out _ b5).mono ?_; rintro e w6 ⟨rfl, b6⟩; have b56 := below_of b6 b5 b5.size))
                        go_roundw
                        case rel => exact ⟨i + 1, by omega, by go_num, HDk.below b56⟩
                        case measure => simp [intOf]; omega
            · go_wp2
              go_ret
              exact ⟨rfl, HD.bel⟩
end Go.Proofs.Ytmnndekpedacmaa
