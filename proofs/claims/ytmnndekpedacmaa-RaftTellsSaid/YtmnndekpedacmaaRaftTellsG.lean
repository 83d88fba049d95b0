/-
  The walk of the law RaftTells where its arguments are few and short. Conditions: those.
-/
import Derived.Test.YtmnndekpedacmaaRaftTellsReg
import Derived.Test.YtmnndekpedacmaaQuietNew
import Derived.Test.YtmnndekpedacmaaTellsRegs
namespace Go.Proofs.Ytmnndekpedacmaa
open Go Go.RowKit
attribute [local go_sem] cell_set_if

theorem bel_put {a w : World} {x j : Nat} (h : Below a.heap.size a w) (hp : a.heap.size ≤ x) (v : Value) : Below a.heap.size a (w.setCell ⟨x, j, none⟩ v) := h.setCell hp v
theorem blk_next (w : World) (o : Obj) (t : TypeId) (cs : Array Value) : Blk ((w.alloc o).alloc (.cells cs t)) (w.heap.size + 1) t cs := by
  have := Blk.new (w.alloc o) t cs
  simpa using this
theorem bel_alloc {a w : World} (h : Below a.heap.size a w) (o : Obj) : Below a.heap.size a (w.alloc o) := h.alloc h.size o
theorem bel_drew {a w : World} (h : Below a.heap.size a w) : Below a.heap.size a w.drew := h.drew
theorem bel_set {a w : World} {p : Addr} (h : Below a.heap.size a w) (hp : a.heap.size ≤ p.block) (v : Value) : Below a.heap.size a (w.setCell p v) := h.setCell hp v
theorem bel_call {a w w' : World} (h : Below a.heap.size a w) (b : Below w.heap.size w w') : Below a.heap.size a w' := below_of b h h.size
theorem blk_two {w : World} {x : Nat} {T : TypeId} {a b c d : Value} (Z : Blk w x T #[a, b]) : Blk ((w.setCell ⟨x, 0, none⟩ c).setCell ⟨x, 1, none⟩ d) x T #[c, d] := by
  have := (Z.set_ 0 c).set_ 1 d
  simpa using this
theorem blk_far2 {w : World} {g x : Nat} {T : TypeId} {cs : Array Value} {c d : Value} (Z : Blk w g T cs) (h : g ≠ x) : Blk ((w.setCell ⟨x, 0, none⟩ c).setCell ⟨x, 1, none⟩ d) g T cs := (Z.far (p := ⟨x, 0, none⟩) h c).far (p := ⟨x, 1, none⟩) h d
set_option maxRecDepth 100000 in
set_option maxHeartbeats 8000000 in
theorem tells25_good (t f i tm : Int) (A3 A4 A5 A6 : Option Addr) (n3 c3 n4 c4 n5 c5 c6 : Nat) (heard : Bool) (zt zm zx : List Int) (a0 a1 a2 a3 a4 : Int) (w : World) (h1 : (n3 : Int) ≤ 60) (h2 : (n4 : Int) ≤ 20) (h3 : (n5 : Int) ≤ 20) (h5 : i ≤ 1099511627776) (h6 : -5 ≤ i)
    (hr3 : Rd w A3 (flatZ zt)) (hn3 : zt.length = n3) (hr4 : Rd w A4 (flatZ zm)) (hn4 : zm.length = n4) (hr5 : Rd w A5 (flatZ zx)) (hn5 : zx.length = n5) (hr6 : Rd w A6 (flatZ [a0, a1, a2, a3, a4])) (ht : -9223372036854775808 ≤ t) (ha4 : a4 ≤ 9223372036854775807) :
    Calls Try.prog 4 #[bal t f, .int .i64 i, .int .i64 tm, .slice A3 n3 c3, .slice A4 n4 c4, .slice A5 n5 c5, .slice A6 5 c6, .bool heard] w fun e w' => e = .returned (.bool true) ∧ Below w.heap.size w w' := by
  have HR3 := Lib.hid hr3
  have HR4 := Lib.hid hr4
  have HR5 := Lib.hid hr5
  have HN3 := Lib.hid hn3
  have HN4 := Lib.hid hn4
  have HN5 := Lib.hid hn5
  obtain ⟨b6, o6, rfl, hb6, hc6⟩ := hr6.flat (by simp [flatZ_len])
  have k0 : w.cell? ⟨b6, o6, none⟩ = some (.int .i64 a0) := by have := hc6 0 _ (flatZ_at [a0, a1, a2, a3, a4] 0 a0 rfl); simpa using this
  have k1 : w.cell? ⟨b6, o6 + 1, none⟩ = some (.int .i64 a1) := hc6 1 _ (flatZ_at [a0, a1, a2, a3, a4] 1 a1 rfl)
  have k2 : w.cell? ⟨b6, o6 + 2, none⟩ = some (.int .i64 a2) := hc6 2 _ (flatZ_at [a0, a1, a2, a3, a4] 2 a2 rfl)
  have k3 : w.cell? ⟨b6, o6 + 3, none⟩ = some (.int .i64 a3) := hc6 3 _ (flatZ_at [a0, a1, a2, a3, a4] 3 a3 rfl)
  have k4 : w.cell? ⟨b6, o6 + 4, none⟩ = some (.int .i64 a4) := hc6 4 _ (flatZ_at [a0, a1, a2, a3, a4] 4 a4 rfl)
  have HK : Hid (∀ W, Below w.heap.size w W → W.cell? ⟨b6, o6, none⟩ = some (.int .i64 a0) ∧ W.cell? ⟨b6, o6 + 1, none⟩ = some (.int .i64 a1) ∧ W.cell? ⟨b6, o6 + 2, none⟩ = some (.int .i64 a2) ∧ W.cell? ⟨b6, o6 + 3, none⟩ = some (.int .i64 a3) ∧ W.cell? ⟨b6, o6 + 4, none⟩ = some (.int .i64 a4)) := fun W h => ⟨cell_b h k0, cell_b h k1, cell_b h k2, cell_b h k3, cell_b h k4⟩
  have T0 := Blk.new w 38 #[.int .i64 t, .int .i64 f]
  have B0 : Below w.heap.size w (w.alloc (.cells #[.int .i64 t, .int .i64 f] 38)) := (Below.refl _ _).alloc (Nat.le_refl _) _
  clear hr3 hr4 hr5 hr6 hn3 hn4 hn5 hc6 k0 k1 k2 k3 k4
  go_enter Try.func4, Try.ntmps4
  dsimp only [List.append]
  by_cases hbig : 4611686018427387904 < t
  · go_wp2_with (go_at_call 6; refine (alive25_any _).mono ?_; rintro e w1 ⟨rfl, b1⟩; have T1 := T0.below b1; have tc1 := T1.cell)
    go_ret
    exact ⟨rfl, below_of b1 B0 B0.size⟩
  have hsm : t ≤ 4611686018427387904 := by omega
  clear hbig
  go_wp2_with (go_at_call 6; refine (alive25_any _).mono ?_; rintro e w1 ⟨rfl, b1⟩; have T1 := T0.below b1; have tc1 := T1.cell; have B1 := below_of b1 B0 B0.size)
  have R31 := Lib.hid (HR3.out.below B1)
  go_loopw [17] (fun u17 wr => ∃ k : Nat, k ≤ n3 ∧ u17 = .int .i64 k ∧ wr = w1) (fun u17 _ => n3 - (intOf u17).toNat)
  case atStart => exact ⟨0, by omega, rfl, rfl⟩
  case round =>
    obtain ⟨k, hk, rfl, rfl⟩ := hrel
    by_cases hlt : k < n3
    · obtain ⟨b3, o3, x, rfl, _, hx, d0⟩ := R31.out.num (k := k) (by have := HN3.out; omega)
      have hki : (k : Int) < (n3 : Int) := by omega
      clear hx
      by_cases hx : 1099511627776 < x
      · go_wp2
        go_ret
        exact ⟨rfl, B1⟩
      · have hx' : x ≤ 1099511627776 := by omega
        clear hx
        go_wp2
        go_roundw
        case rel => exact ⟨k + 1, by omega, by go_num, by first | rfl | trivial⟩
        case measure => simp [intOf]; omega
    · have hkn : k = n3 := by omega
      have HLG : Hid (∀ t' : Int, Calls Try.prog 7 #[.int .i64 i, .int .i64 t', .slice A3 n3 c3] wr fun e w' => ∃ g1 v1 g2 v2 ii tt E, e = .returned (.tuple #[.pointer (some ⟨g1, 0, none⟩), .pointer (some ⟨g2, 0, none⟩)]) ∧ LogAt w' wr.heap.size g1 ii tt E v1 ∧ RefAt w' wr.heap.size g2 ii tt E v2 ∧ Below wr.heap.size wr w') := fun t' => by
        refine (logs_any wr i t' A3 n3 c3 zt (by rw [← flatZ_map]; exact R31.out) HN3.out (by omega) (by omega)).mono ?_
        rintro e w' ⟨g1, v1, g2, v2, x1, x2, x3, x4, _⟩
        exact ⟨g1, v1, g2, v2, _, _, _, x1, x2, x3, x4⟩
      clear hlt hk
      go_wp2_with (first
        | (go_at_call 7; refine (HLG.out _).mono ?_; rintro e w2 ⟨g1, v1, g2, v2, ii, tt, E, rfl, L2, M2, b2⟩; have T2 := T1.below b2; have tc2 := T2.cell; have B2 := below_of b2 B1 B1.size; have R42 := HR4.out.below B2; have R52 := HR5.out.below B2)
        | (go_at_call 15; with_reducible refine (lentZ_any A4 n4 c4 zm _ (R42.alloc _) HN4.out (by omega)).mono ?_; rintro e w3 ⟨⟨g3, q3, e3, hq3, hc3, rfl, ho3⟩, b3⟩; obtain rfl : q3 = n4 := by rw [← hq3, HN4.out])
        | (go_at_call 15; with_reducible refine (lentZ_any A5 n5 c5 zx _ (by exact ((R52.alloc _).below b3)) HN5.out (by omega)).mono ?_; rintro e w4 ⟨⟨g4, q4, e4, hq4, hc4, rfl, ho4⟩, b4⟩; obtain rfl : q4 = n5 := by rw [← hq4, HN5.out]))
      have T4 := ((T2.alloc (.cells #[.int .i64 t, .int .i64 f] 42)).below b3).below b4
      have P4 := ((Blk.new w2 42 #[.int .i64 t, .int .i64 f]).below b3).below b4
      have BP : Below w2.heap.size w2 (w2.alloc (.cells #[.int .i64 t, .int .i64 f] 42)) := (Below.refl _ _).alloc (Nat.le_refl _) _
      have B24 : Below w2.heap.size w2 w4 := below_of b4 (below_of b3 BP BP.size) (Nat.le_trans BP.size b3.size)
      have B4 := below_of B24 B2 B2.size
      have L4 := L2.below B24
      have M4 := M2.below B24
      have R44 := R42.below B24
      have R54 := R52.below B24
      have Q3 : Rd w4 (some ⟨g3, 0, none⟩) (flatZ (zm ++ [-77])) := (Rd.of_own ho3).below b4
      have Q4 : Rd w4 (some ⟨g4, 0, none⟩) (flatZ (zx ++ [-77])) := Rd.of_own ho4
      have Q31 : Rd w4 (some ⟨g3, 0, none⟩) (flatZ zm) := by have := Q3; rw [flatZ_app] at this; exact this.pre
      have Q41 : Rd w4 (some ⟨g4, 0, none⟩) (flatZ zx) := by have := Q4; rw [flatZ_app] at this; exact this.pre
      have hl3 : q3 ≤ 1000 := by omega
      have hl4 : q4 ≤ 1000 := by omega
      obtain ⟨X1, X2, xo, hG, hRG⟩ : ∃ (X1 X2 : Int) (xo : Bool), (∀ W, Below w4.heap.size w4 W → Calls Try.prog 16 #[bal t f, .int .i64 a0, .int .i64 a1, .int .i64 a2, .int .i64 a3, .pointer (some ⟨g1, 0, none⟩)] W fun e w' => e = .returned (.tuple #[bal X1 X2, .bool xo]) ∧ Below W.heap.size W w') ∧
          (∀ W, Below w4.heap.size w4 W → Calls Try.prog 17 #[bal t f, .int .i64 a0, .int .i64 a1, .int .i64 a2, .int .i64 a3, .pointer (some ⟨g2, 0, none⟩)] W fun e w' => e = .returned (.tuple #[bal X1 X2, .bool xo]) ∧ Below W.heap.size W w') :=
        ⟨_, _, _, fun W h => grant_any t f a0 a1 a2 a3 _ _ W ((L4.asked a2 a3).below h), fun W h => rgrant_any t f a0 a1 a2 a3 _ _ W ((M4.rasked a2 a3).below h)⟩
      obtain ⟨S1, S2, hSe, hRSe⟩ : ∃ (S1 S2 : Int), (∀ W, Calls Try.prog 18 #[bal t f, .int .i64 a0] W fun e w' => e = .returned (bal S1 S2) ∧ Below W.heap.size W w') ∧
          (∀ W, Calls Try.prog 19 #[bal t f, .int .i64 a0] W fun e w' => e = .returned (bal S1 S2) ∧ Below W.heap.size W w') :=
        ⟨_, _, fun W => see_any t f a0 W, fun W => rsee_any t f a0 W⟩
      obtain ⟨U1, U2, hSt, hRSt⟩ : ∃ (U1 U2 : Int), (∀ W, Calls Try.prog 20 #[bal t f, .int .i64 a1] W fun e w' => e = .returned (bal U1 U2) ∧ Below W.heap.size W w') ∧
          (∀ W, Calls Try.prog 21 #[bal t f, .int .i64 a1] W fun e w' => e = .returned (bal U1 U2) ∧ Below W.heap.size W w') :=
        ⟨_, _, fun W => stand_any t f a1 W ht hsm, fun W => rstand_any t f a1 W ht hsm⟩
      obtain ⟨wd, hWo, hRWo⟩ : ∃ wd : Bool, (∀ W, Below w4.heap.size w4 W → Calls Try.prog 12 #[bal t f, .int .i64 a0, .int .i64 a2, .int .i64 a3, .pointer (some ⟨g1, 0, none⟩), .bool heard] W fun e w' => e = .returned (.bool wd) ∧ Below W.heap.size W w') ∧
          (∀ W, Below w4.heap.size w4 W → Calls Try.prog 22 #[bal t f, .int .i64 a0, .int .i64 a2, .int .i64 a3, .pointer (some ⟨g2, 0, none⟩), .bool heard] W fun e w' => e = .returned (.bool wd) ∧ Below W.heap.size W w') :=
        ⟨_, fun W h => would_any t f a0 a2 a3 _ heard _ W ((L4.asked a2 a3).below h), fun W h => rwould_any t f a0 a2 a3 _ heard _ W ((M4.rasked a2 a3).below h)⟩
      obtain ⟨cm, hCo, hRCo⟩ : ∃ cm : Int, (∀ W, Below w4.heap.size w4 W → Calls Try.prog 10 #[.slice (some ⟨g3, 0, none⟩) q3 e3, .pointer (some ⟨g1, 0, none⟩), .int .i64 a0, .int .i64 a4, .slice (some ⟨g4, 0, none⟩) q4 e4] W fun e w' => e = .returned (.int .i64 cm) ∧ Below W.heap.size W w') ∧
          (∀ W, Below w4.heap.size w4 W → Calls Try.prog 11 #[.slice A4 q3 c4, .pointer (some ⟨g2, 0, none⟩), .int .i64 a0, .int .i64 a4, .slice A5 q4 c5] W fun e w' => e = .returned (.int .i64 cm) ∧ Below W.heap.size W w') :=
        ⟨_, fun W h => pcommit_any _ _ q3 e3 q4 e4 _ g1 zm zx ii tt E v1 a0 a4 W (Q31.below h) HN4.out (Q41.below h) HN5.out hl3 hl4 (L4.below h), fun W h => (rcommit_any A4 A5 q3 c4 q4 c5 _ g2 zm zx ii tt E v2 a0 a4 W (R44.below h) HN4.out (R54.below h) HN5.out hl3 hl4 (M4.below h)).mono fun e w' ⟨x, y⟩ => ⟨x, y.below _⟩⟩
      obtain ⟨sf, hSa, hRSa⟩ : ∃ sf : Bool, (∀ W, Below w4.heap.size w4 W → Calls Try.prog 23 #[.slice (some ⟨g3, 0, none⟩) q3 e3, .slice (some ⟨g4, 0, none⟩) q4 e4, .int .i64 a4] W fun e w' => e = .returned (.bool sf) ∧ Below W.heap.size W w') ∧
          (∀ W, Below w4.heap.size w4 W → Calls Try.prog 24 #[.slice A4 q3 c4, .slice A5 q4 c5, .int .i64 a4] W fun e w' => e = .returned (.bool sf) ∧ Below W.heap.size W w') :=
        ⟨_, fun W h => psafe_any _ _ q3 e3 q4 e4 zm zx a4 W (Q31.below h) HN4.out (Q41.below h) HN5.out hl3 hl4, fun W h => (rsafe_any A4 A5 q3 c4 q4 c5 zm zx a4 W (R44.below h) HN4.out (R54.below h) HN5.out hl3 hl4).mono fun e w' ⟨x, y⟩ => ⟨x, y.below _⟩⟩
      have hS3 : ∀ W, Below w4.heap.size w4 W → Calls Try.prog 26 #[.slice (some ⟨g3, 0, none⟩) q3 e3, .slice A4 q3 c4] W fun e w' => e = .returned (.bool true) ∧ Below W.heap.size W w' := fun W h => (staysZ_any A4 g3 q3 0 e3 c4 zm W (Q3.below h) (R44.below h) HN4.out hc3 (by omega)).mono fun e w' ⟨x, y⟩ => ⟨x, y.below _⟩
      have hS4 : ∀ W, Below w4.heap.size w4 W → Calls Try.prog 26 #[.slice (some ⟨g4, 0, none⟩) q4 e4, .slice A5 q4 c5] W fun e w' => e = .returned (.bool true) ∧ Below W.heap.size W w' := fun W h => (staysZ_any A5 g4 q4 0 e4 c5 zx W (Q4.below h) (R54.below h) HN5.out hc4 (by omega)).mono fun e w' ⟨x, y⟩ => ⟨x, y.below _⟩
      have hKA : ∀ W, Below w4.heap.size w4 W → (W.cell? ⟨b6, o6, none⟩ = some (.int .i64 a0) ∧ W.cell? ⟨b6, o6 + 1, none⟩ = some (.int .i64 a1) ∧ W.cell? ⟨b6, o6 + 2, none⟩ = some (.int .i64 a2) ∧ W.cell? ⟨b6, o6 + 3, none⟩ = some (.int .i64 a3) ∧ W.cell? ⟨b6, o6 + 4, none⟩ = some (.int .i64 a4)) ∧ (W.cell? ⟨w.heap.size, 0, none⟩ = some (.int .i64 t) ∧ W.cell? ⟨w.heap.size, 1, none⟩ = some (.int .i64 f)) ∧ W.cell? ⟨w2.heap.size, 0, none⟩ = some (.int .i64 t) ∧ W.cell? ⟨w2.heap.size, 1, none⟩ = some (.int .i64 f) :=
        fun W h => ⟨HK.out W (below_of h B4 B4.size), ⟨(T4.below h).cell 0, (T4.below h).cell 1⟩, (P4.below h).cell 0, (P4.below h).cell 1⟩
      have HG := Lib.hid hG
      have HRG := Lib.hid hRG
      have HSe := Lib.hid hSe
      have HRSe := Lib.hid hRSe
      have HSt := Lib.hid hSt
      have HRSt := Lib.hid hRSt
      have HWo := Lib.hid hWo
      have HRWo := Lib.hid hRWo
      have HCo := Lib.hid hCo
      have HRCo := Lib.hid hRCo
      have HSa := Lib.hid hSa
      have HRSa := Lib.hid hRSa
      have HS3 := Lib.hid hS3
      have HS4 := Lib.hid hS4
      have HKA := Lib.hid hKA
      have HB4 := Lib.hid B4
      clear hG hRG hSe hRSe hSt hRSt hWo hRWo hCo hRCo hSa hRSa hS3 hS4 hKA T4 P4 BP B24 L4 M4 R44 R54 Q3 Q4 Q31 Q41 ho3 ho4 T2 T1 T0 L2 M2 R42 R52 b2 b3 b4 tc1 tc2 b1 B0 B1 B2 B4
      generalize w2.heap.size = gp at *
      generalize hgt : w.heap.size = gt at *
      have B40 : Below w4.heap.size w4 w4 := Below.refl _ _
      go_cut [23, 24] from 97 to 114 (fun u v wx => ∃ x, u = .pointer (some ⟨x, 0, none⟩) ∧ v = .bool xo ∧ Blk wx x 38 #[.int .i64 X1, .int .i64 X2] ∧ Below w4.heap.size w4 wx)
      case first =>
        have hS : ∀ W, Below w4.heap.size w4 W → W.cell? ⟨b6, o6, none⟩ = some (.int .i64 a0) ∧ W.cell? ⟨b6, o6 + 1, none⟩ = some (.int .i64 a1) ∧ W.cell? ⟨b6, o6 + 2, none⟩ = some (.int .i64 a2) ∧ W.cell? ⟨b6, o6 + 3, none⟩ = some (.int .i64 a3) ∧ W.cell? ⟨gt, 0, none⟩ = some (.int .i64 t) ∧ W.cell? ⟨gt, 1, none⟩ = some (.int .i64 f) := fun W h => by
          obtain ⟨⟨q0, q1, q2, q3', q4'⟩, ⟨r0, r1⟩, s0, s1⟩ := HKA.out W h
          exact ⟨q0, q1, q2, q3', r0, r1⟩
        have HSS := Lib.hid hS
        have BD := (B40).drew
        have BZ := ((B40).alloc (B40).size (.cells #[.int .i64 0, .int .i64 0] 38)).drew
        have A0 := hS _ BD
        have Az := hS _ BZ
        have hb6' : b6 < w4.heap.size := block_lt_of_cell (hS w4 (Below.refl _ _)).1
        have hbk' : gt < w4.heap.size := block_lt_of_cell (hS w4 (Below.refl _ _)).2.2.2.2.1
        have hne : ((w4).heap.size = b6) = False := by have := (B40).size; simp; omega
        have hne2 : ((w4).heap.size = gt) = False := by have := (B40).size; simp; omega
        clear hS hb6' hbk'
        go_region_held3 (fun W => W.cell? ⟨b6, o6, none⟩ = some (.int .i64 a0) ∧ W.cell? ⟨b6, o6 + 1, none⟩ = some (.int .i64 a1) ∧ W.cell? ⟨b6, o6 + 2, none⟩ = some (.int .i64 a2) ∧ W.cell? ⟨b6, o6 + 3, none⟩ = some (.int .i64 a3) ∧ W.cell? ⟨gt, 0, none⟩ = some (.int .i64 t) ∧ W.cell? ⟨gt, 1, none⟩ = some (.int .i64 f))
          (first | exact A0 | exact Az | with_reducible assumption | (simp only [cell_set_if, hne, hne2, false_and, if_false]; with_reducible assumption))
          (first
          | (go_at_call 16; with_reducible refine (HG.out _ BD).mono ?_; rintro e w5 ⟨rfl, b5⟩; have B5 : Below w4.heap.size w4 w5 := below_of b5 BD BD.size; have D5 := HSS.out _ B5; have D5z := HSS.out _ (B5.alloc B5.size (.cells #[.int .i64 0, .int .i64 0] 38)); have D5v := HSS.out _ (B5.alloc B5.size (.cells #[.int .i64 X1, .int .i64 X2] 38)))
          | (go_at_call 16; with_reducible refine (HG.out _ BZ).mono ?_; rintro e w5 ⟨rfl, b5⟩; have B5 : Below w4.heap.size w4 w5 := below_of b5 BZ BZ.size; have D5 := HSS.out _ B5; have Z5 := (Blk.new (w4) 38 #[.int .i64 0, .int .i64 0]).drew.below b5; have zc := Z5.cell; have zf := Z5.free))
        all_goals (go_wp2_with fail; go_meet)
        all_goals first
          | exact ⟨w5.heap.size, rfl, rfl, Blk.new _ _ _, B5.alloc B5.size _⟩
          | exact ⟨(w4).heap.size, rfl, rfl, (Z5.set_ 0 (.int .i64 X1)).set_ 1 (.int .i64 X2), (B5.setCell (p := ⟨(w4).heap.size, 0, none⟩) (B40).size _).setCell (p := ⟨(w4).heap.size, 1, none⟩) (B40).size _⟩
      case rest =>
      obtain ⟨gx41, rfl, rfl, X41, B41⟩ := hcut
      go_upto_region 16 with fail
      go_cut [25, 26] from 115 to 132 (fun u v wx => ∃ x, u = .pointer (some ⟨x, 0, none⟩) ∧ v = .bool xo ∧ Blk wx x 42 #[.int .i64 X1, .int .i64 X2] ∧ Blk wx gx41 38 #[.int .i64 X1, .int .i64 X2] ∧ Below w4.heap.size w4 wx)
      case first =>
        have hS : ∀ W, Below w4.heap.size w4 W → W.cell? ⟨b6, o6, none⟩ = some (.int .i64 a0) ∧ W.cell? ⟨b6, o6 + 1, none⟩ = some (.int .i64 a1) ∧ W.cell? ⟨b6, o6 + 2, none⟩ = some (.int .i64 a2) ∧ W.cell? ⟨b6, o6 + 3, none⟩ = some (.int .i64 a3) ∧ W.cell? ⟨gp, 0, none⟩ = some (.int .i64 t) ∧ W.cell? ⟨gp, 1, none⟩ = some (.int .i64 f) := fun W h => by
          obtain ⟨⟨q0, q1, q2, q3', q4'⟩, ⟨r0, r1⟩, s0, s1⟩ := HKA.out W h
          exact ⟨q0, q1, q2, q3', s0, s1⟩
        have HSS := Lib.hid hS
        have BD := (B41).drew
        have BZ := ((B41).alloc (B41).size (.cells #[.int .i64 0, .int .i64 0] 42)).drew
        have A0 := hS _ BD
        have Az := hS _ BZ
        have hb6' : b6 < w4.heap.size := block_lt_of_cell (hS w4 (Below.refl _ _)).1
        have hbk' : gp < w4.heap.size := block_lt_of_cell (hS w4 (Below.refl _ _)).2.2.2.2.1
        have hne : ((wc).heap.size = b6) = False := by have := (B41).size; simp; omega
        have hne2 : ((wc).heap.size = gp) = False := by have := (B41).size; simp; omega
        clear hS hb6' hbk'
        go_region_held3 (fun W => W.cell? ⟨b6, o6, none⟩ = some (.int .i64 a0) ∧ W.cell? ⟨b6, o6 + 1, none⟩ = some (.int .i64 a1) ∧ W.cell? ⟨b6, o6 + 2, none⟩ = some (.int .i64 a2) ∧ W.cell? ⟨b6, o6 + 3, none⟩ = some (.int .i64 a3) ∧ W.cell? ⟨gp, 0, none⟩ = some (.int .i64 t) ∧ W.cell? ⟨gp, 1, none⟩ = some (.int .i64 f))
          (first | exact A0 | exact Az | with_reducible assumption | (simp only [cell_set_if, hne, hne2, false_and, if_false]; with_reducible assumption))
          (first
          | (go_at_call 17; with_reducible refine (HRG.out _ BD).mono ?_; rintro e w5 ⟨rfl, b5⟩; have B5 : Below w4.heap.size w4 w5 := below_of b5 BD BD.size; have D5 := HSS.out _ B5; have D5z := HSS.out _ (B5.alloc B5.size (.cells #[.int .i64 0, .int .i64 0] 42)); have D5v := HSS.out _ (B5.alloc B5.size (.cells #[.int .i64 X1, .int .i64 X2] 42)))
          | (go_at_call 17; with_reducible refine (HRG.out _ BZ).mono ?_; rintro e w5 ⟨rfl, b5⟩; have B5 : Below w4.heap.size w4 w5 := below_of b5 BZ BZ.size; have D5 := HSS.out _ B5; have Z5 := (Blk.new (wc) 42 #[.int .i64 0, .int .i64 0]).drew.below b5; have zc := Z5.cell; have zf := Z5.free))
        all_goals (go_wp2_with fail; go_meet)
        all_goals first
          | exact ⟨w5.heap.size, rfl, rfl, Blk.new _ _ _, ((X41).drew.below b5).alloc _, B5.alloc B5.size _⟩
          | exact ⟨(wc).heap.size, rfl, rfl, (Z5.set_ 0 (.int .i64 X1)).set_ 1 (.int .i64 X2), (((((X41).alloc (.cells #[.int .i64 0, .int .i64 0] 42)).drew.below b5).far (p := ⟨(wc).heap.size, 0, none⟩) (by have := (X41).lt; show gx41 ≠ (wc).heap.size; omega) _).far (p := ⟨(wc).heap.size, 1, none⟩) (by have := (X41).lt; show gx41 ≠ (wc).heap.size; omega) _), (B5.setCell (p := ⟨(wc).heap.size, 0, none⟩) (B41).size _).setCell (p := ⟨(wc).heap.size, 1, none⟩) (B41).size _⟩
      case rest =>
      obtain ⟨gx42, rfl, rfl, X42, X41_42, B42⟩ := hcut
      go_upto_region 17 with fail
      go_cut [27, 28] from 133 to 142 (fun u v wx => ∃ x y, u = .pointer (some ⟨x, 0, none⟩) ∧ v = .pointer (some ⟨y, 0, none⟩) ∧ Blk wx x 38 #[.int .i64 S1, .int .i64 S2] ∧ Blk wx y 42 #[.int .i64 S1, .int .i64 S2] ∧ Blk wx gx42 42 #[.int .i64 X1, .int .i64 X2] ∧ Blk wx gx41 38 #[.int .i64 X1, .int .i64 X2] ∧ Below w4.heap.size w4 wx)
      case first =>
        rename_i J K' hJ hK
        obtain ⟨⟨k0, k1, k2, k3, k4⟩, ⟨r0, r1⟩, s0, s1⟩ := HKA.out _ B42
        refine region17 wc b6 o6 c6 gp gt t f a0 S1 S2 _ _ (by intro d hd; simp at hd ⊢; omega) rfl rfl rfl k0 r0 r1 s0 s1 HSe.out HRSe.out ?_
        intro a w' hA hB hD
        obtain ⟨x, h27, hx⟩ := hD 12 (by omega)
        obtain ⟨y, h28, hy⟩ := hD 13 (by omega)
        rw [hA.form]
        simp only [List.foldl_cons, List.foldl_nil, List.setIfInBounds_toArray, List.set_cons_succ, List.set_cons_zero]
        refine hK _ _ (Met.intro (hJ _ _ ?_))
        repeat apply Exists.intro
        refine ⟨?rel17, rfl⟩
        exact ⟨x, y, h27, h28, hx, hy, X42.below hB, X41_42.below hB, bel_call B42 hB⟩
      case rest =>
      obtain ⟨gr43, gf43, rfl, rfl, R43, F43, X42_43, X41_43, B43⟩ := hcut
      go_upto_region 18 with fail
      go_cut [29, 30] from 143 to 152 (fun u v wx => ∃ x y, u = .pointer (some ⟨x, 0, none⟩) ∧ v = .pointer (some ⟨y, 0, none⟩) ∧ Blk wx x 38 #[.int .i64 U1, .int .i64 U2] ∧ Blk wx y 42 #[.int .i64 U1, .int .i64 U2] ∧ Blk wx gx42 42 #[.int .i64 X1, .int .i64 X2] ∧ Blk wx gx41 38 #[.int .i64 X1, .int .i64 X2] ∧ Blk wx gr43 38 #[.int .i64 S1, .int .i64 S2] ∧ Blk wx gf43 42 #[.int .i64 S1, .int .i64 S2] ∧ Below w4.heap.size w4 wx)
      case first =>
        rename_i J K' hJ hK
        obtain ⟨⟨k0, k1, k2, k3, k4⟩, ⟨r0, r1⟩, s0, s1⟩ := HKA.out _ B43
        refine region18 wc b6 o6 c6 gp gt t f a1 U1 U2 _ _ (by intro d hd; simp at hd ⊢; omega) rfl rfl rfl k1 r0 r1 s0 s1 HSt.out HRSt.out ?_
        intro a w' hA hB hD
        obtain ⟨x, h27, hx⟩ := hD 12 (by omega)
        obtain ⟨y, h28, hy⟩ := hD 13 (by omega)
        rw [hA.form]
        simp only [List.foldl_cons, List.foldl_nil, List.setIfInBounds_toArray, List.set_cons_succ, List.set_cons_zero]
        refine hK _ _ (Met.intro (hJ _ _ ?_))
        repeat apply Exists.intro
        refine ⟨?rel18, rfl⟩
        exact ⟨x, y, h27, h28, hx, hy, X42_43.below hB, X41_43.below hB, R43.below hB, F43.below hB, bel_call B43 hB⟩
      case rest =>
      obtain ⟨gr44, gf44, rfl, rfl, R44, F44, X42_44, X41_44, R43_44, F43_44, B44⟩ := hcut
      obtain ⟨y4, hy4⟩ : ∃ y, max a4 0 = y := ⟨_, rfl⟩
      obtain ⟨d4, hd4⟩ : ∃ d, y4 % 10 = d := ⟨_, rfl⟩
      have hy40 : 0 ≤ y4 := by omega
      have hdt : Int.tmod y4 10 = d4 := by rw [Int.tmod_eq_emod_of_nonneg hy40]; exact hd4
      have hd40 : 0 ≤ d4 ∧ d4 < 10 := by omega
      obtain ⟨y1, hy1⟩ : ∃ y, max a1 0 = y := ⟨_, rfl⟩
      have hy10 : 0 ≤ y1 := by omega
      have HPa : Hid (∀ (id : Int) (w : World), 0 ≤ id → id ≤ 1000 → Calls Try.prog 25 #[.int .i64 id, .int .i64 a4] w fun e w' => e = .returned (.int .i64 (id + (10 + d4))) ∧ w' = w) := fun id w p q => by
        have := patience_any id a4 w p q ha4
        rwa [hy4, hd4] at this
      have hEq : ∀ id : Int, (id + (10 + d4) == 10 + id + d4) = true := fun id => by simp; omega
      have hEq2 : ((100 : Int) + (10 + d4) == 110 + d4) = true := by simp; omega
      have hEq3 : ((100 : Int) + (10 + d4) == 10 + 100 + d4) = true := by simp; omega
      have xc := X41_44.cell
      have yc := X42_44.cell
      have rc := R43_44.cell
      have fc := F43_44.cell
      have uc := R44.cell
      have gc := F44.cell
      obtain ⟨⟨k0, k1, k2, k3, k4⟩, ⟨r0, r1⟩, s0, s1⟩ := HKA.out _ B44
      have t1 : (X1 == X1) = true := by simp
      have t2 : (X2 == X2) = true := by simp
      have t3 : (S1 == S1) = true := by simp
      have t4 : (S2 == S2) = true := by simp
      have t5 : (U1 == U1) = true := by simp
      have t6 : (U2 == U2) = true := by simp
      have t7 : (xo == xo) = true := by simp
      have t8 : (wd == wd) = true := by simp
      have t9 : (sf == sf) = true := by simp
      have t10 : (cm == cm) = true := by simp
      have hid1 : ∃ id1, id1 = min y1 100 := ⟨_, rfl⟩
      obtain ⟨id1, hid1⟩ := hid1
      have hmin : min y1 100 = id1 := hid1.symm
      have hidb : 0 ≤ id1 ∧ id1 ≤ 100 := by omega
      have hcase : (y1 ≤ 100 ∧ id1 = y1) ∨ (100 < y1 ∧ id1 = 100) := by omega
      clear HG HRG HSe HRSe HSt HRSt HLG R31 HK hid1
      go_upto_region 20 with fail
      go_cut [32] from 158 to 162 (fun u wx => u = .int .i64 id1 ∧ wx = wc)
      case first =>
        rcases hcase with ⟨hc1, rfl⟩ | ⟨hc1, rfl⟩
        all_goals
          go_wp2
          go_meet
          exact ⟨rfl, rfl⟩
      case rest =>
      obtain ⟨rfl, rfl⟩ := hcut
      have hi0 : 0 ≤ id1 := hidb.1
      have hi1 : id1 ≤ 100 := hidb.2
      have hEq1 := hEq id1
      clear hcase hEq hEq2 hEq3
      go_upto_region 21 with fail
      have k0 := NewM.cell k0
      have k1 := NewM.cell k1
      have k2 := NewM.cell k2
      have k3 := NewM.cell k3
      have k4 := NewM.cell k4
      have r0 := NewM.cell r0
      have r1 := NewM.cell r1
      have s0 := NewM.cell s0
      have s1 := NewM.cell s1
      have x0 := NewM.cell (show _ = some (.int .i64 X1) from xc 0)
      have x1 := NewM.cell (show _ = some (.int .i64 X2) from xc 1)
      have y0' := NewM.cell (show _ = some (.int .i64 X1) from yc 0)
      have y1' := NewM.cell (show _ = some (.int .i64 X2) from yc 1)
      have rc0 := NewM.cell (show _ = some (.int .i64 S1) from rc 0)
      have rc1 := NewM.cell (show _ = some (.int .i64 S2) from rc 1)
      have fc0 := NewM.cell (show _ = some (.int .i64 S1) from fc 0)
      have fc1 := NewM.cell (show _ = some (.int .i64 S2) from fc 1)
      have uc0 := NewM.cell (show _ = some (.int .i64 U1) from uc 0)
      have uc1 := NewM.cell (show _ = some (.int .i64 U2) from uc 1)
      have gc0 := NewM.cell (show _ = some (.int .i64 U1) from gc 0)
      have gc1 := NewM.cell (show _ = some (.int .i64 U2) from gc 1)
      have hi2 : id1 ≤ 1000 := by omega
      clear xc yc rc fc uc gc
      refine wp_region_quiet_new (by kernel_rfl) (by exact tellsLex) ?_
      repeat (go_big_quiet_step (first
        | (go_at_call 12; with_reducible exact NewM.call (HWo.out _ (bel_call B44 (NewM.h _))))
        | (go_at_call 22; with_reducible exact NewM.call (HRWo.out _ (bel_call B44 (NewM.h _))))
        | (go_at_call 10; with_reducible exact NewM.call (HCo.out _ (bel_call B44 (NewM.h _))))
        | (go_at_call 11; with_reducible exact NewM.call (HRCo.out _ (bel_call B44 (NewM.h _))))
        | (go_at_call 23; with_reducible exact NewM.call (HSa.out _ (bel_call B44 (NewM.h _))))
        | (go_at_call 24; with_reducible exact NewM.call (HRSa.out _ (bel_call B44 (NewM.h _))))
        | (go_at_call 25; with_reducible exact NewM.call_same (HPa.out _ _ hi0 hi2))
        | (go_at_call 26; with_reducible exact NewM.call (HS3.out _ (bel_call B44 (NewM.h _))))
        | (go_at_call 26; with_reducible exact NewM.call (HS4.out _ (bel_call B44 (NewM.h _))))))
      refine wpQuiet_nil ?_
      rintro _ ⟨rr, rfl⟩
      go_wp2
      go_ret
      have hB4 := HB4.out
      rw [← hgt] at hB4
      exact ⟨rfl, below_of (bel_call B44 rr.h) hB4 hB4.size⟩
end Go.Proofs.Ytmnndekpedacmaa
