/-
  What Valid, right, Size of children give, and the document's ValidKid and RightKids. Condition: no more children than a million.
-/
import Derived.Test.YtldkhhipfoeckaaGreatKidP
import Derived.Test.YtldkhhipfoeckaaGreatQuietNew
namespace Go.Proofs.YtldkhhipfoeckaaGreat
open Go Go.RowKit
attribute [local go_sem] cell_set_if

theorem cell_b {w w' : World} {p : Addr} {v : Value} (hb : Below w.heap.size w w') (h : w.cell? p = some v) : w'.cell? p = some v := (hb.cell (block_lt_of_cell h)).trans h
theorem cell_bb {w w' : World} {B b o : Nat} {v : Value} (hb : Below B w w') (hB : b < B) (h : w.cell? ⟨b, o, none⟩ = some v) : w'.cell? ⟨b, o, none⟩ = some v := ((below_cells hb).1 b o hB).trans h
/-- A child as a value. -/
abbrev kidV (k : Kd) : Value := .agg #[.string k.key, .int .i64 k.page]
theorem okK_cases (k : Kd) : (32 < (k.key.size : Int) ∧ okK k = false) ∨ ((k.key.size : Int) ≤ 32 ∧ k.page < 2 ∧ okK k = false) ∨ ((k.key.size : Int) ≤ 32 ∧ 2 ≤ k.page ∧ 4000 ≤ k.page ∧ okK k = false) ∨ ((k.key.size : Int) ≤ 32 ∧ 2 ≤ k.page ∧ k.page < 4000 ∧ okK k = true) := by
  unfold okK
  by_cases h1 : k.key.size ≤ 32 <;> by_cases h2 : 2 ≤ k.page <;> by_cases h3 : k.page < 4000 <;> simp [h1, h2, h3] <;> omega
theorem kvalid_any (k : Kd) (w : World) :
    Calls Tryz.prog 33 #[kidV k] w fun e w' => e = .returned (.bool (okK k)) ∧ Below w.heap.size w w' := by
  rcases okK_cases k with ⟨h1, h⟩ | ⟨h1, h2, h⟩ | ⟨h1, h2, h3, h⟩ | ⟨h1, h2, h3, h⟩
  all_goals
    rw [h]
    clear h
    go_enter Tryz.func33, Tryz.ntmps33
    go_wp2
    go_ret
    exact ⟨ret_bool (by first | rfl | (simp; omega)), (Below.refl _ _).alloc (Nat.le_refl _) _⟩
theorem rkvalid_any (k : Kd) (w : World) :
    Calls Tryz.prog 34 #[kidV k] w fun e w' => e = .returned (.bool (okK k)) ∧ Below w.heap.size w w' := by
  rcases okK_cases k with ⟨h1, h⟩ | ⟨h1, h2, h⟩ | ⟨h1, h2, h3, h⟩ | ⟨h1, h2, h3, h⟩
  all_goals
    rw [h]
    clear h
    go_enter Tryz.func34, Tryz.ntmps34
    go_wp2
    go_ret
    exact ⟨ret_bool (by first | rfl | (simp; omega)), (Below.refl _ _).alloc (Nat.le_refl _) _⟩
theorem ksize_any (A : Option Addr) (n c : Nat) (ks : List Kd) (w : World) (hr : Rd w A (flatK ks)) (hn : ks.length = n) (hs : sumK ks ≤ 1099511627776) :
    Calls Tryz.prog 30 #[.slice A n c] w fun e w' => e = .returned (.int .i64 (1 + sumK ks)) ∧ Below w.heap.size w w' := by
  have HR := Lib.hid hr
  have HN := Lib.hid hn
  have HS := Lib.hid hs
  have HT : Hid (ks.take n = ks) := List.take_of_length_le (by omega)
  have hnn : (n : Int) ≤ 1099511627776 := by have := sumK_len ks; omega
  clear hr hn hs
  go_enter Tryz.func30, Tryz.ntmps30
  go_wp2
  go_loopw [3, 8] (fun u3 u8 wr => ∃ k : Nat, k ≤ n ∧ u8 = .int .i64 k ∧ u3 = .int .i64 (1 + sumK (ks.take k)) ∧ Below w.heap.size w wr) (fun _ u8 _ => n - (intOf u8).toNat)
  case atStart => exact ⟨0, by omega, rfl, rfl, Below.refl _ _⟩
  case round =>
    obtain ⟨k, hk, rfl, rfl, hB⟩ := hrel
    by_cases hlt : k < n
    · obtain ⟨bb, o, x, rfl, hbb, hx, d0, d1⟩ := HR.out.kid (k := k) (by have := HN.out; omega)
      have c0 := cell_bb hB hbb d0
      have c1 := cell_bb hB hbb d1
      have hst := Lib.hid (sumK_take ks k x hx)
      have hl1 := sumK_le ks (k + 1)
      rw [hst.out] at hl1
      have hs := HS.out
      have e0 : (sumK (ks.take k) : Int) + (4 + (x.key.size : Int)) ≤ 1099511627776 := by omega
      have e1 : (0 : Int) ≤ (sumK (ks.take k) : Int) := by omega
      have e2 : (0 : Int) ≤ (x.key.size : Int) := by omega
      generalize hq : sumK (ks.take k) = q at *
      have HQ := Lib.hid hq
      clear hq d0 d1 hx hl1 hs
      go_wp2
      go_roundw
      case rel => exact ⟨k + 1, by omega, by go_num, by rw [hst.out]; congr 1; omega, hB.alloc hB.size _⟩
      case measure => simp [intOf]; omega
    · obtain rfl : k = n := by omega
      go_wp2
      go_ret
      exact ⟨by rw [HT.out]; rfl, hB⟩

/-- The first k children are right. -/
structure UpTo (ks : List Kd) (k : Nat) : Prop where
  ok : ∀ (i : Nat) x, i < k → ks[i]? = some x → okK x = true
  up : ∀ (i : Nat) x y, i + 1 < k → ks[i]? = some x → ks[i + 1]? = some y → ltB x.key y.key = true
theorem UpTo.zero (ks : List Kd) : UpTo ks 0 := ⟨fun _ _ h => by omega, fun _ _ _ h => by omega⟩
theorem UpTo.next {ks : List Kd} {k : Nat} (h : UpTo ks k) {x : Kd} (hx : ks[k]? = some x) (ho : okK x = true) (hu : ∀ j y, k = j + 1 → ks[j]? = some y → ltB y.key x.key = true) : UpTo ks (k + 1) := by
  refine ⟨fun i y hi hy => ?_, fun i y z hi hy hz => ?_⟩
  · by_cases hc : i < k
    · exact h.ok i y hc hy
    · obtain rfl : i = k := by omega
      rw [hx] at hy; injection hy with hy; subst hy; exact ho
  · by_cases hc : i + 1 < k
    · exact h.up i y z hc hy hz
    · obtain rfl : k = i + 1 := by omega
      rw [hx] at hz; injection hz with hz; subst hz; exact hu i y rfl hy
theorem UpTo.all {ks : List Kd} (h : UpTo ks ks.length) : RightK ks :=
  ⟨fun i x hx => h.ok i x (List.getElem?_eq_some_iff.1 hx).1 hx, fun i x y hx hy => h.up i x y (List.getElem?_eq_some_iff.1 hy).1 hx hy⟩

set_option maxRecDepth 100000 in
set_option maxHeartbeats 1000000 in
theorem kright_any (A : Option Addr) (n c : Nat) (ks : List Kd) (w : World) (hr : Rd w A (flatK ks)) (hn : ks.length = n) (hm : n ≤ 1000000) :
    Calls Tryz.prog 92 #[.slice A n c] w fun e w' => TellsB e (RightK ks) ∧ Below w.heap.size w w' := by
  have HR := Lib.hid hr
  have HN := Lib.hid hn
  have hnn : (n : Int) ≤ 1000000 := by omega
  clear hr hn
  go_enter Tryz.func92, Tryz.ntmps92
  go_wp2
  go_loopw [2, 3, 7] (fun u2 u3 u7 wr => ∃ k : Nat, k ≤ n ∧ u7 = .int .i64 k ∧ UpTo ks k ∧ Below w.heap.size w wr) (fun _ _ u7 _ => n - (intOf u7).toNat)
  case atStart => exact ⟨0, by omega, rfl, UpTo.zero ks, Below.refl _ _⟩
  case round =>
    obtain ⟨k, hk, rfl, hU, hB⟩ := hrel
    have HU := Lib.hid hU
    clear hU
    by_cases hlt : k < n
    · obtain ⟨bb, o, x, rfl, hbb, hx, d0, d1⟩ := HR.out.kid (k := k) (by have := HN.out; omega)
      have HX := Lib.hid hx
      have c0 := cell_bb hB hbb d0
      have c1 := cell_bb hB hbb d1
      have hV := fun w => kvalid_any x w
      have hki : (k : Int) < (n : Int) := by omega
      have B1 := hB.alloc hB.size (.cells #[.string x.key, .int .i64 x.page] 65)
      have K1 := Blk.new wr 65 #[.string x.key, .int .i64 x.page]
      clear hx d0 d1
      go_upto_region 4 with fail
      generalize wr.alloc (.cells #[.string x.key, .int .i64 x.page] 65) = W at B1 K1 ⊢
      have k0 : W.cell? ⟨wr.heap.size, 0, none⟩ = some (.string x.key) := K1.cell 0
      have k1 : W.cell? ⟨wr.heap.size, 1, none⟩ = some (.int .i64 x.page) := K1.cell 1
      have q0 := NewM.cell k0
      have q1 := NewM.cell k1
      go_cut [29] from 12 to 29 (fun u wx => ∃ bad : Bool, u = .bool bad ∧ (bad = true → ¬ RightK ks) ∧ (bad = false → UpTo ks (k + 1)) ∧ Below w.heap.size w wx)
      case first =>
        cases hok : okK x
        · rw [hok] at hV
          have HV := Lib.hid hV
          have HNO : Hid (¬ RightK ks) := fun h => by have := h.ok k x HX.out; rw [hok] at this; cases this
          clear hV hok
          refine wp_region_quiet_new (by kernel_rfl) (by kernel_rfl) ?_
          repeat (go_big_quiet_step ((go_at_call 33; exact NewM.call (HV.out _))))
          refine wpQuiet_nil ?_
          rintro _ ⟨r, rfl⟩
          go_wp2
          go_meet
          exact ⟨true, rfl, fun _ => HNO.out, (fun h => by cases h), below_of r.h B1 B1.size⟩
        · rw [hok] at hV
          have HV := Lib.hid hV
          have HOK := Lib.hid hok
          clear hV hok
          by_cases hk0 : k = 0
          · have hz : decide (0 < k) = false := by simp; omega
            have HK := Lib.hid hk0
            clear hk0
            refine wp_region_quiet_new (by kernel_rfl) (by kernel_rfl) ?_
            repeat (go_big_quiet_step ((go_at_call 33; exact NewM.call (HV.out _))))
            refine wpQuiet_nil ?_
            rintro _ ⟨r, rfl⟩
            go_wp2
            go_meet
            exact ⟨false, rfl, (fun h => by cases h), fun _ => HU.out.next HX.out HOK.out (fun j y hj => by have := HK.out; omega), below_of r.h B1 B1.size⟩
          · obtain ⟨j, hj⟩ : ∃ j, k = j + 1 := ⟨k - 1, by omega⟩
            obtain ⟨b2, o2, y, e2, hb2, hy, f0, f1⟩ := HR.out.kid (k := j) (by have := HN.out; omega)
            injection e2 with e2
            injection e2 with e21 e22
            subst e21 e22
            have HY := Lib.hid hy
            have p0 := NewM.cell (cell_bb B1 hbb f0)
            have hwp : IntKind.i64.wrap ((k : Int) - 1) = (j : Int) := by rw [hj, show (((j + 1 : Nat) : Int) - 1) = (j : Int) by omega]; exact IntWalk.i64_in _ (by omega)
            have hz : decide (0 < k) = true := by simp; omega
            have hz' : 0 < k := by omega
            have hjn : (j : Int) < (n : Int) := by omega
            have HJ := Lib.hid hj
            have hcmp := leq_eq x.key y.key
            clear hy f0 f1 hk0 hj
            cases hlt2 : ltB y.key x.key
            · rw [hlt2] at hcmp
              have HNO : Hid (¬ RightK ks) := fun h => by have := h.up j y x HY.out (by rw [← HJ.out]; exact HX.out); rw [hlt2] at this; cases this
              clear hlt2
              simp only [Bool.not_false] at hcmp
              refine wp_region_quiet_new (by kernel_rfl) (by kernel_rfl) ?_
              repeat (go_big_quiet_step ((go_at_call 33; exact NewM.call (HV.out _))))
              refine wpQuiet_nil ?_
              rintro _ ⟨r, rfl⟩
              go_wp2
              go_meet
              exact ⟨true, rfl, fun _ => HNO.out, (fun h => by cases h), below_of r.h B1 B1.size⟩
            · rw [hlt2] at hcmp
              have HUP := Lib.hid hlt2
              clear hlt2
              simp only [Bool.not_true] at hcmp
              refine wp_region_quiet_new (by kernel_rfl) (by kernel_rfl) ?_
              repeat (go_big_quiet_step ((go_at_call 33; exact NewM.call (HV.out _))))
              refine wpQuiet_nil ?_
              rintro _ ⟨r, rfl⟩
              go_wp2
              go_meet
              exact ⟨false, rfl, (fun h => by cases h), fun _ => HU.out.next HX.out HOK.out (fun i z hi hz => by
                obtain rfl : i = j := by have := HJ.out; omega
                have := HY.out; rw [hz] at this; injection this with this; subst this; exact HUP.out), below_of r.h B1 B1.size⟩
      case rest =>
      obtain ⟨bad, rfl, hb1, hb2, hB2⟩ := hcut
      have HB1 := Lib.hid hb1
      have HB2 := Lib.hid hb2
      clear hb1 hb2
      cases bad
      · go_wp2
        go_roundw
        case rel => exact ⟨k + 1, by omega, by go_num, HB2.out rfl, hB2⟩
        case measure => simp [intOf]; omega
      · go_wp2
        go_ret
        exact ⟨⟨false, rfl, by have := HB1.out; simpa using this⟩, hB2⟩
    · obtain rfl : k = n := by omega
      go_wp2
      go_ret
      exact ⟨⟨true, rfl, by simp only [true_iff]; exact (show UpTo ks ks.length by rw [HN.out]; exact HU.out).all⟩, hB⟩
set_option maxRecDepth 100000 in
set_option maxHeartbeats 1000000 in
theorem rkright_any (A : Option Addr) (n c : Nat) (ks : List Kd) (w : World) (hr : Rd w A (flatK ks)) (hn : ks.length = n) (hm : n ≤ 1000000) :
    Calls Tryz.prog 94 #[.slice A n c] w fun e w' => TellsB e (RightK ks ∧ ks ≠ []) ∧ Below w.heap.size w w' := by
  have HR := Lib.hid hr
  have HN := Lib.hid hn
  have hnn : (n : Int) ≤ 1000000 := by omega
  clear hr hn
  go_enter Tryz.func94, Tryz.ntmps94
  go_wp2
  go_loopw [2, 3] (fun u2 u3 wr => ∃ k : Nat, k ≤ n ∧ u3 = .int .i64 k ∧ UpTo ks k ∧ Below w.heap.size w wr) (fun _ u3 _ => n - (intOf u3).toNat)
  case atStart => exact ⟨0, by omega, rfl, UpTo.zero ks, Below.refl _ _⟩
  case round =>
    obtain ⟨k, hk, rfl, hU, hB⟩ := hrel
    have HU := Lib.hid hU
    clear hU
    by_cases hlt : k < n
    · obtain ⟨bb, o, x, rfl, hbb, hx, d0, d1⟩ := HR.out.kid (k := k) (by have := HN.out; omega)
      have HX := Lib.hid hx
      have c0 := cell_bb hB hbb d0
      have c1 := cell_bb hB hbb d1
      have hV := fun w => rkvalid_any x w
      have hki : (k : Int) < (n : Int) := by omega
      clear hx d0 d1
      go_upto_region 4 with fail
      have q0 := NewM.cell c0
      have q1 := NewM.cell c1
      go_cut [33] from 10 to 33 (fun u wx => ∃ bad : Bool, u = .bool bad ∧ (bad = true → ¬ RightK ks) ∧ (bad = false → UpTo ks (k + 1)) ∧ Below w.heap.size w wx)
      case first =>
        cases hok : okK x
        · rw [hok] at hV
          have HV := Lib.hid hV
          have HNO : Hid (¬ RightK ks) := fun h => by have := h.ok k x HX.out; rw [hok] at this; cases this
          clear hV hok
          refine wp_region_quiet_new (by kernel_rfl) (by kernel_rfl) ?_
          repeat (go_big_quiet_step ((go_at_call 34; exact NewM.call (HV.out _))))
          refine wpQuiet_nil ?_
          rintro _ ⟨r, rfl⟩
          go_wp2
          go_meet
          exact ⟨true, rfl, fun _ => HNO.out, (fun h => by cases h), below_of r.h hB hB.size⟩
        · rw [hok] at hV
          have HV := Lib.hid hV
          have HOK := Lib.hid hok
          clear hV hok
          by_cases hk0 : k = 0
          · have hz : decide (0 < k) = false := by simp; omega
            have HK := Lib.hid hk0
            clear hk0
            refine wp_region_quiet_new (by kernel_rfl) (by kernel_rfl) ?_
            repeat (go_big_quiet_step ((go_at_call 34; exact NewM.call (HV.out _))))
            refine wpQuiet_nil ?_
            rintro _ ⟨r, rfl⟩
            go_wp2
            go_meet
            exact ⟨false, rfl, (fun h => by cases h), fun _ => HU.out.next HX.out HOK.out (fun j y hj => by have := HK.out; omega), below_of r.h hB hB.size⟩
          · obtain ⟨j, hj⟩ : ∃ j, k = j + 1 := ⟨k - 1, by omega⟩
            obtain ⟨b2, o2, y, e2, hb2, hy, f0, f1⟩ := HR.out.kid (k := j) (by have := HN.out; omega)
            injection e2 with e2
            injection e2 with e21 e22
            subst e21 e22
            have HY := Lib.hid hy
            have p0 := NewM.cell (cell_bb hB hbb f0)
            have hwp : IntKind.i64.wrap ((k : Int) - 1) = (j : Int) := by rw [hj, show (((j + 1 : Nat) : Int) - 1) = (j : Int) by omega]; exact IntWalk.i64_in _ (by omega)
            have hz : decide (0 < k) = true := by simp; omega
            have hz' : 0 < k := by omega
            have hjn : (j : Int) < (n : Int) := by omega
            have HJ := Lib.hid hj
            have hcmp := geq_eq y.key x.key
            clear hy f0 f1 hk0 hj
            cases hlt2 : ltB y.key x.key
            · rw [hlt2] at hcmp
              have HNO : Hid (¬ RightK ks) := fun h => by have := h.up j y x HY.out (by rw [← HJ.out]; exact HX.out); rw [hlt2] at this; cases this
              clear hlt2
              simp only [Bool.not_false] at hcmp
              refine wp_region_quiet_new (by kernel_rfl) (by kernel_rfl) ?_
              repeat (go_big_quiet_step ((go_at_call 34; exact NewM.call (HV.out _))))
              refine wpQuiet_nil ?_
              rintro _ ⟨r, rfl⟩
              go_wp2
              go_meet
              exact ⟨true, rfl, fun _ => HNO.out, (fun h => by cases h), below_of r.h hB hB.size⟩
            · rw [hlt2] at hcmp
              have HUP := Lib.hid hlt2
              clear hlt2
              simp only [Bool.not_true] at hcmp
              refine wp_region_quiet_new (by kernel_rfl) (by kernel_rfl) ?_
              repeat (go_big_quiet_step ((go_at_call 34; exact NewM.call (HV.out _))))
              refine wpQuiet_nil ?_
              rintro _ ⟨r, rfl⟩
              go_wp2
              go_meet
              exact ⟨false, rfl, (fun h => by cases h), fun _ => HU.out.next HX.out HOK.out (fun i z hi hz => by
                obtain rfl : i = j := by have := HJ.out; omega
                have := HY.out; rw [hz] at this; injection this with this; subst this; exact HUP.out), below_of r.h hB hB.size⟩
      case rest =>
      obtain ⟨bad, rfl, hb1, hb2, hB2⟩ := hcut
      have HB1 := Lib.hid hb1
      have HB2 := Lib.hid hb2
      clear hb1 hb2
      cases bad
      · go_wp2
        go_roundw
        case rel => exact ⟨k + 1, by omega, by go_num, HB2.out rfl, hB2⟩
        case measure => simp [intOf]; omega
      · go_wp2
        go_ret
        exact ⟨⟨false, rfl, by have := HB1.out; simp at this; simp [this]⟩, hB2⟩
    · obtain rfl : k = n := by omega
      have hall : RightK ks := (show UpTo ks ks.length by rw [HN.out]; exact HU.out).all
      have HALL := Lib.hid hall
      clear hall
      by_cases hk0 : k = 0
      · have hz : decide (0 < k) = false := by simp; omega
        have hz' : ¬ 0 < k := by omega
        have HE : Hid (ks = []) := List.eq_nil_of_length_eq_zero (by have := HN.out; omega)
        clear hk0
        go_wp2
        go_ret
        exact ⟨⟨false, ret_bool (by simp), by simp [HE.out]⟩, hB⟩
      · have hz : decide (0 < k) = true := by simp; omega
        have hz' : 0 < k := by omega
        have HE : Hid (ks ≠ []) := fun h => by have := HN.out; rw [h] at this; simp at this; omega
        clear hk0
        go_wp2
        go_ret
        exact ⟨⟨true, ret_bool (by simp), by simp [HE.out, HALL.out]⟩, hB⟩
end Go.Proofs.YtldkhhipfoeckaaGreat
