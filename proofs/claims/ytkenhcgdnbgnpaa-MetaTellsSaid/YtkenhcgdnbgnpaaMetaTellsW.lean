/-
  The walk of the law MetaTells: for every input it returns true and changes nothing that was there. No condition.
-/
import Derived.Test.YtkenhcgdnbgnpaaMetaRefChoose
namespace Go.Proofs.Ytkenhcgdnbgnpaa
open Go Go.RowKit
attribute [local go_sem] cell_set_if

theorem mplain_any (a r f p : Int) (w : World) :
    Calls Try.prog 7 #[m4 a r f p] w fun e w' => e = .returned (m4 a r f p) ∧ Below w.heap.size w w' := by
  go_enter Try.func7, Try.ntmps7
  go_wp2
  refine bodyPost_ret (v := m4 a r f p) (by simp only [results, show Try.f7.results = #[.cell 2 29] from rfl]; go_simp) rfl ⟨rfl, ?_⟩
  repeat (refine Below.setCell ?_ (by simp) _)
  exact ((Below.refl _ _).alloc (Nat.le_refl _) _).alloc (by simp) _
theorem mreal_any (a r f p : Int) (w : World) :
    Calls Try.prog 15 #[m4 a r f p] w fun e w' => e = .returned (m4 a r f p) ∧ Below w.heap.size w w' := by
  go_enter Try.func15, Try.ntmps15
  go_wp2
  refine bodyPost_ret (v := m4 a r f p) (by simp only [results, show Try.f15.results = #[.cell 2 23] from rfl]; go_simp) rfl ⟨rfl, ?_⟩
  repeat (refine Below.setCell ?_ (by simp) _)
  exact ((Below.refl _ _).alloc (Nat.le_refl _) _).alloc (by simp) _
theorem read_pos (b : List UInt8) (h : errM b = 0) : 0 < (mReadM b).tx := by
  unfold mReadM
  rw [if_pos h]
  have := (errM_ok h).1.1
  omega
theorem NewM.cell4 {w : World} {g : Nat} {T : TypeId} {a b c d : Value} (h : Blk w g T #[a, b, c, d]) : (∀ r : NewM w, r.w'.cell? ⟨g, 0, none⟩ = some a) ∧ (∀ r : NewM w, r.w'.cell? ⟨g, 1, none⟩ = some b) ∧ (∀ r : NewM w, r.w'.cell? ⟨g, 2, none⟩ = some c) ∧ (∀ r : NewM w, r.w'.cell? ⟨g, 3, none⟩ = some d) :=
  ⟨NewM.cell (h.cell 0), NewM.cell (h.cell 1), NewM.cell (h.cell 2), NewM.cell (h.cell 3)⟩
/-- What Choose gives, by both. -/
theorem chooses (a b : ByteArray) (ha : a.size ≤ 100000) (hb : b.size ≤ 100000) : ∃ (x1 x2 x3 x4 c : Int), (∀ w, Calls Try.prog 13 #[.string a, .string b] w fun e w' => e = .returned (.tuple #[m4 x1 x2 x3 x4, .int .i64 c]) ∧ Below w.heap.size w w')
    ∧ (∀ w, Calls Try.prog 14 #[.string a, .string b] w fun e w' => e = .returned (.tuple #[m4 x1 x2 x3 x4, .int .i64 c]) ∧ Below w.heap.size w w') :=
  ⟨_, _, _, _, _, fun w => choose_any a b _ _ _ _ (fun w => mread_any a w ha) (fun w => mread_any b w hb) w, fun w => refchoose_any a b _ _ _ _ (fun w => refmread_any a w ha) (fun w => refmread_any b w hb) (read_pos _) (read_pos _) w⟩
theorem reads6 (a : ByteArray) (ha : a.size ≤ 100000) : ∃ (x1 x2 x3 x4 c : Int), (∀ w, Calls Try.prog 11 #[.string a] w fun e w' => e = .returned (.tuple #[m4 x1 x2 x3 x4, .int .i64 c]) ∧ Below w.heap.size w w')
    ∧ (∀ w, Calls Try.prog 12 #[.string a] w fun e w' => e = .returned (.tuple #[m4 x1 x2 x3 x4, .int .i64 c]) ∧ Below w.heap.size w w') :=
  ⟨_, _, _, _, _, fun w => mread_any a w ha, fun w => refmread_any a w ha⟩
set_option maxRecDepth 100000 in
set_option maxHeartbeats 4000000 in
theorem metatells_walk (g r f u : Int) (a b : ByteArray) (w : World) (hza : a.size ≤ 9223372036854775807) (hzb : b.size ≤ 9223372036854775807) :
    Calls Try.prog 3 #[m4 g r f u, .string a, .string b] w fun e w' => e = .returned (.bool true) ∧ Below w.heap.size w w' := by
  have B0 : Below w.heap.size w (w.alloc (.cells #[.int .i64 g, .int .i64 r, .int .i64 f, .int .i64 u] 23)) := (Below.refl _ _).alloc (Nat.le_refl _) _
  by_cases hbig : 600 < a.size ∨ 600 < b.size
  · have hc : (600 : Int) < a.size ∨ ((a.size : Int) ≤ 600 ∧ (600 : Int) < b.size) := by omega
    rcases hc with h1 | ⟨h1, h2⟩
    all_goals
      go_enter Try.func3, Try.ntmps3
      go_wp2_with (go_at_call 4; refine (alive6_any _).mono ?_; rintro e w1 ⟨rfl, b1⟩)
      go_ret
      exact ⟨rfl, below_of b1 B0 B0.size⟩
  have h1 : (a.size : Int) ≤ 600 := by omega
  have h2 : (b.size : Int) ≤ 600 := by omega
  have hV := fun w => mvalid_any g r f u w
  have hRV := fun w => refmvalid_any g r f u w
  have hP := fun w => mplain_any g r f u w
  have hSl := fun w => slot_any g w
  obtain ⟨ok, hok⟩ : ∃ ok, ok = decide (okM ⟨g, r, f, u⟩) := ⟨_, rfl⟩
  rw [← hok] at hV hRV
  obtain ⟨S, E, hS0, hL, hcase⟩ : ∃ (S : ByteArray) (E : Int), S.size ≤ 100000 ∧ (∀ w, Calls Try.prog 5 #[m4 g r f u] w fun e w' => e = .returned (.tuple #[.string S, .int .i64 E]) ∧ Below w.heap.size w w') ∧
      ((ok = true ∧ E = 0 ∧ (∃ t : Nat, g = (t : Int)) ∧ ∀ w, Calls Try.prog 9 #[m4 g r f u] w fun e w' => e = .returned (.string S) ∧ Below w.heap.size w w') ∨ (ok = false ∧ E = 1 ∧ S = ⟨#[]⟩)) := by
    by_cases h : okM ⟨g, r, f, u⟩
    · obtain ⟨g', r', f', u', e⟩ := okM_nats h
      injection e with e1 e2 e3 e4
      subst e1 e2 e3 e4
      refine ⟨bs (layM ⟨g', r', f', u'⟩), 0, by rw [bs_size, layM_len h]; omega, fun w => mlay_ok g' r' f' u' w h, .inl ⟨by rw [hok]; exact decide_eq_true h, rfl, ⟨g', rfl⟩, fun w => refmlay_any g' r' f' u' w h⟩⟩
    · exact ⟨⟨#[]⟩, 1, by decide, fun w => mlay_no g r f u w h, .inr ⟨by rw [hok]; exact decide_eq_false h, rfl, rfl⟩⟩
  obtain ⟨x1, x2, x3, x4, xc, hR1, hR2⟩ := reads6 a (by omega)
  obtain ⟨z1, z2, z3, z4, zc, hC1, hC2⟩ := chooses a b (by omega) (by omega)
  obtain ⟨v1, v2, v3, v4, vc, hD1, hD2⟩ := chooses S a hS0 (by omega)
  clear hok hS0 hbig
  have HV := Lib.hid hV
  have HRV := Lib.hid hRV
  have HP := Lib.hid hP
  have HSl := Lib.hid hSl
  have HL := Lib.hid hL
  have HR1 := Lib.hid hR1
  have HR2 := Lib.hid hR2
  have HC1 := Lib.hid hC1
  have HC2 := Lib.hid hC2
  have HD1 := Lib.hid hD1
  have HD2 := Lib.hid hD2
  have T0 := Blk.new w 23 #[.int .i64 g, .int .i64 r, .int .i64 f, .int .i64 u]
  clear hV hRV hP hSl hL hR1 hR2 hC1 hC2 hD1 hD2
  go_enter Try.func3, Try.ntmps3
  go_wp2_with (first
    | (go_at_call 4; refine (alive6_any _).mono ?_; rintro e w1 ⟨rfl, b1⟩; have T1 := T0.below b1; have B1 := below_of b1 B0 B0.size; have tc1 := T1.cell)
    | (go_at_call 5; refine (HL.out _).mono ?_; rintro e w2 ⟨rfl, b2⟩; have T2 := T1.below b2; have B2 := below_of b2 B1 B1.size; have tc2 := T2.cell)
    | (go_at_call 7; refine (HP.out _).mono ?_; rintro e w3 ⟨rfl, b3⟩; have T3 := T2.below b3; have B3 := below_of b3 B2 B2.size; have tc3 := T3.cell)
    | (go_at_call 6; refine (HRV.out _).mono ?_; rintro e w4 ⟨rfl, b4⟩; have T4 := T3.below b4; have B4 := below_of b4 B3 B3.size; have tc4 := T4.cell))
  go_cut [81] from 43 to 81 (fun u81 wx => u81 = .bool false ∧ Below w4.heap.size w4 wx)
  case first =>
    have q0 := NewM.cell (show w4.cell? ⟨w.heap.size, 0, none⟩ = some (.int .i64 g) from T4.cell 0)
    have q1 := NewM.cell (show w4.cell? ⟨w.heap.size, 1, none⟩ = some (.int .i64 r) from T4.cell 1)
    have q2 := NewM.cell (show w4.cell? ⟨w.heap.size, 2, none⟩ = some (.int .i64 f) from T4.cell 2)
    have q3 := NewM.cell (show w4.cell? ⟨w.heap.size, 3, none⟩ = some (.int .i64 u) from T4.cell 3)
    rcases hcase with ⟨rfl, rfl, ⟨t, rfl⟩, hY⟩ | ⟨rfl, rfl, rfl⟩
    · have HY := Lib.hid hY
      have hSS : (S.toList == S.toList) = true := by simp
      obtain ⟨i, hi⟩ : ∃ i, (t : Int) % 2 = i := ⟨_, rfl⟩
      have hii : (i == i) = true := by simp
      have HSi : Hid (∀ w, Calls Try.prog 10 #[.int .i64 t] w fun e w' => e = .returned (.int .i64 i) ∧ w' = w) := fun w => by have := HSl.out w; rwa [hi] at this
      clear hY
      refine wp_region_quiet_new (by kernel_rfl) (by kernel_rfl) ?_
      repeat (go_big_quiet_step (first
        | (go_at_call 8; with_reducible exact NewM.call (HV.out _))
        | (go_at_call 7; with_reducible exact NewM.call (HP.out _))
        | (go_at_call 9; with_reducible exact NewM.call (HY.out _))
        | (go_at_call 10; with_reducible exact NewM.call_same (HSi.out _))))
      refine wpQuiet_nil ?_
      rintro _ ⟨rr, rfl⟩
      go_wp2
      go_meet
      exact ⟨rfl, rr.h⟩
    · refine wp_region_quiet_new (by kernel_rfl) (by kernel_rfl) ?_
      repeat (go_big_quiet_step (first
        | (go_at_call 8; with_reducible exact NewM.call (HV.out _))
        | (go_at_call 7; with_reducible exact NewM.call (HP.out _))))
      refine wpQuiet_nil ?_
      rintro _ ⟨rr, rfl⟩
      go_wp2
      go_meet
      exact ⟨rfl, rr.h⟩
  case rest =>
  obtain ⟨rfl, B5⟩ := hcut
  have BB5 := below_of B5 B4 B4.size
  go_wp2_with (first
    | (go_at_call 11; with_reducible refine (HR1.out _).mono ?_; rintro e w6 ⟨rfl, b6⟩; have P0_0 := Blk.new w6 23 #[.int .i64 x1, .int .i64 x2, .int .i64 x3, .int .i64 x4]; have C6 := below_of b6 BB5 BB5.size; have C6a := C6.alloc C6.size (.cells #[.int .i64 x1, .int .i64 x2, .int .i64 x3, .int .i64 x4] 23))
    | (go_at_call 12; with_reducible refine (HR2.out _).mono ?_; rintro e w7 ⟨rfl, b7⟩; have P0_1 := (P0_0.below b7).alloc (.cells #[.int .i64 x1, .int .i64 x2, .int .i64 x3, .int .i64 x4] 29); have P1_1 := Blk.new w7 29 #[.int .i64 x1, .int .i64 x2, .int .i64 x3, .int .i64 x4]; have C7 := below_of b7 C6a C6a.size; have C7a := C7.alloc C7.size (.cells #[.int .i64 x1, .int .i64 x2, .int .i64 x3, .int .i64 x4] 29))
    | (go_at_call 13; with_reducible refine (HC1.out _).mono ?_; rintro e w8 ⟨rfl, b8⟩; have P0_2 := (P0_1.below b8).alloc (.cells #[.int .i64 z1, .int .i64 z2, .int .i64 z3, .int .i64 z4] 23); have P1_2 := (P1_1.below b8).alloc (.cells #[.int .i64 z1, .int .i64 z2, .int .i64 z3, .int .i64 z4] 23); have P2_2 := Blk.new w8 23 #[.int .i64 z1, .int .i64 z2, .int .i64 z3, .int .i64 z4]; have C8 := below_of b8 C7a C7a.size; have C8a := C8.alloc C8.size (.cells #[.int .i64 z1, .int .i64 z2, .int .i64 z3, .int .i64 z4] 23))
    | (go_at_call 14; with_reducible refine (HC2.out _).mono ?_; rintro e w9 ⟨rfl, b9⟩; have P0_3 := (P0_2.below b9).alloc (.cells #[.int .i64 z1, .int .i64 z2, .int .i64 z3, .int .i64 z4] 29); have P1_3 := (P1_2.below b9).alloc (.cells #[.int .i64 z1, .int .i64 z2, .int .i64 z3, .int .i64 z4] 29); have P2_3 := (P2_2.below b9).alloc (.cells #[.int .i64 z1, .int .i64 z2, .int .i64 z3, .int .i64 z4] 29); have P3_3 := Blk.new w9 29 #[.int .i64 z1, .int .i64 z2, .int .i64 z3, .int .i64 z4]; have C9 := below_of b9 C8a C8a.size; have C9a := C9.alloc C9.size (.cells #[.int .i64 z1, .int .i64 z2, .int .i64 z3, .int .i64 z4] 29))
    | (go_at_call 13; with_reducible refine (HD1.out _).mono ?_; rintro e w10 ⟨rfl, b10⟩; have P0_4 := (P0_3.below b10).alloc (.cells #[.int .i64 v1, .int .i64 v2, .int .i64 v3, .int .i64 v4] 23); have P1_4 := (P1_3.below b10).alloc (.cells #[.int .i64 v1, .int .i64 v2, .int .i64 v3, .int .i64 v4] 23); have P2_4 := (P2_3.below b10).alloc (.cells #[.int .i64 v1, .int .i64 v2, .int .i64 v3, .int .i64 v4] 23); have P3_4 := (P3_3.below b10).alloc (.cells #[.int .i64 v1, .int .i64 v2, .int .i64 v3, .int .i64 v4] 23); have P4_4 := Blk.new w10 23 #[.int .i64 v1, .int .i64 v2, .int .i64 v3, .int .i64 v4]; have C10 := below_of b10 C9a C9a.size; have C10a := C10.alloc C10.size (.cells #[.int .i64 v1, .int .i64 v2, .int .i64 v3, .int .i64 v4] 23))
    | (go_at_call 14; with_reducible refine (HD2.out _).mono ?_; rintro e w11 ⟨rfl, b11⟩; have P0_5 := (P0_4.below b11).alloc (.cells #[.int .i64 v1, .int .i64 v2, .int .i64 v3, .int .i64 v4] 29); have P1_5 := (P1_4.below b11).alloc (.cells #[.int .i64 v1, .int .i64 v2, .int .i64 v3, .int .i64 v4] 29); have P2_5 := (P2_4.below b11).alloc (.cells #[.int .i64 v1, .int .i64 v2, .int .i64 v3, .int .i64 v4] 29); have P3_5 := (P3_4.below b11).alloc (.cells #[.int .i64 v1, .int .i64 v2, .int .i64 v3, .int .i64 v4] 29); have P4_5 := (P4_4.below b11).alloc (.cells #[.int .i64 v1, .int .i64 v2, .int .i64 v3, .int .i64 v4] 29); have P5_5 := Blk.new w11 29 #[.int .i64 v1, .int .i64 v2, .int .i64 v3, .int .i64 v4]; have C11 := below_of b11 C10a C10a.size; have C11a := C11.alloc C11.size (.cells #[.int .i64 v1, .int .i64 v2, .int .i64 v3, .int .i64 v4] 29)))
  have ex1 : (x1 == x1) = true := by simp
  have ex2 : (x2 == x2) = true := by simp
  have ex3 : (x3 == x3) = true := by simp
  have ex4 : (x4 == x4) = true := by simp
  have ez1 : (z1 == z1) = true := by simp
  have ez2 : (z2 == z2) = true := by simp
  have ez3 : (z3 == z3) = true := by simp
  have ez4 : (z4 == z4) = true := by simp
  have ev1 : (v1 == v1) = true := by simp
  have ev2 : (v2 == v2) = true := by simp
  have ev3 : (v3 == v3) = true := by simp
  have ev4 : (v4 == v4) = true := by simp
  have exc : (xc == xc) = true := by simp
  have ezc : (zc == zc) = true := by simp
  have evc : (vc == vc) = true := by simp
  obtain ⟨p00, p01, p02, p03⟩ := NewM.cell4 P0_5
  obtain ⟨p10, p11, p12, p13⟩ := NewM.cell4 P1_5
  obtain ⟨p20, p21, p22, p23⟩ := NewM.cell4 P2_5
  obtain ⟨p30, p31, p32, p33⟩ := NewM.cell4 P3_5
  obtain ⟨p40, p41, p42, p43⟩ := NewM.cell4 P4_5
  obtain ⟨p50, p51, p52, p53⟩ := NewM.cell4 P5_5
  have HX : Hid (∀ w, Calls Try.prog 15 #[m4 x1 x2 x3 x4] w fun e w' => e = .returned (m4 x1 x2 x3 x4) ∧ Below w.heap.size w w') := fun w => mreal_any _ _ _ _ w
  have HZ : Hid (∀ w, Calls Try.prog 15 #[m4 z1 z2 z3 z4] w fun e w' => e = .returned (m4 z1 z2 z3 z4) ∧ Below w.heap.size w w') := fun w => mreal_any _ _ _ _ w
  have HW : Hid (∀ w, Calls Try.prog 15 #[m4 v1 v2 v3 v4] w fun e w' => e = .returned (m4 v1 v2 v3 v4) ∧ Below w.heap.size w w') := fun w => mreal_any _ _ _ _ w
  refine wp_region_quiet_new (by kernel_rfl) (by kernel_rfl) ?_
  repeat (go_big_quiet_step (first
    | (go_at_call 15; with_reducible exact NewM.call (HX.out _))
    | (go_at_call 15; with_reducible exact NewM.call (HZ.out _))
    | (go_at_call 15; with_reducible exact NewM.call (HW.out _))))
  refine wpQuiet_nil ?_
  rintro _ ⟨rr, rfl⟩
  go_wp2
  go_ret
  exact ⟨rfl, below_of rr.h C11a C11a.size⟩
end Go.Proofs.Ytkenhcgdnbgnpaa
