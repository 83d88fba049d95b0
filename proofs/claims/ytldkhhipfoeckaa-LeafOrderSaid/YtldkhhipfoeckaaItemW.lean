/-
  What Valid, right, Size of items give, and the document's ValidItem and RightItems. Condition: no more items than a million.
-/
import Derived.Test.YtldkhhipfoeckaaItemP
import Derived.Test.YtldkhhipfoeckaaQuietNew
namespace Go.Proofs.Ytldkhhipfoeckaa
open Go Go.RowKit
attribute [local go_sem] cell_set_if

theorem cell_b {w w' : World} {p : Addr} {v : Value} (hb : Below w.heap.size w w') (h : w.cell? p = some v) : w'.cell? p = some v := (hb.cell (block_lt_of_cell h)).trans h
theorem cell_bb {w w' : World} {B b o : Nat} {v : Value} (hb : Below B w w') (hB : b < B) (h : w.cell? ⟨b, o, none⟩ = some v) : w'.cell? ⟨b, o, none⟩ = some v := ((below_cells hb).1 b o hB).trans h
/-- An item as a value. -/
abbrev itemV (k : Im) : Value := .agg #[.string k.key, .string k.val, .int .i64 k.kind]
theorem okI_cases (k : Im) : ((k.key.size : Int) < 1 ∧ okI k = false) ∨ (1 ≤ (k.key.size : Int) ∧ 32 < (k.key.size : Int) ∧ okI k = false) ∨ (1 ≤ (k.key.size : Int) ∧ (k.key.size : Int) ≤ 32 ∧ k.kind < 0 ∧ okI k = false) ∨ (1 ≤ (k.key.size : Int) ∧ (k.key.size : Int) ≤ 32 ∧ 0 ≤ k.kind ∧ 2 < k.kind ∧ okI k = false) ∨
    (1 ≤ (k.key.size : Int) ∧ (k.key.size : Int) ≤ 32 ∧ 0 ≤ k.kind ∧ k.kind ≤ 2 ∧ 96 < (k.val.size : Int) ∧ okI k = false) ∨ (1 ≤ (k.key.size : Int) ∧ (k.key.size : Int) ≤ 32 ∧ 0 ≤ k.kind ∧ k.kind ≤ 2 ∧ (k.val.size : Int) ≤ 96 ∧ okI k = true) := by
  unfold okI
  by_cases h1 : 1 ≤ k.key.size <;> by_cases h2 : k.key.size ≤ 32 <;> by_cases h3 : 0 ≤ k.kind <;> by_cases h4 : k.kind ≤ 2 <;> by_cases h5 : k.val.size ≤ 96 <;> simp [h1, h2, h3, h4, h5] <;> omega
theorem ivalid_any (k : Im) (w : World) :
    Calls Try.prog 158 #[itemV k] w fun e w' => e = .returned (.bool (okI k)) ∧ Below w.heap.size w w' := by
  rcases okI_cases k with ⟨h1, h⟩ | ⟨h1, h2, h⟩ | ⟨h1, h2, h3, h⟩ | ⟨h1, h2, h3, h4, h⟩ | ⟨h1, h2, h3, h4, h5, h⟩ | ⟨h1, h2, h3, h4, h5, h⟩
  all_goals
    rw [h]
    clear h
    go_enter Try.func158, Try.ntmps158
    go_wp2
    go_ret
    exact ⟨ret_bool (by first | rfl | (simp; omega)), (Below.refl _ _).alloc (Nat.le_refl _) _⟩
theorem rivalid_any (k : Im) (w : World) :
    Calls Try.prog 66 #[itemV k] w fun e w' => e = .returned (.bool (okI k)) ∧ Below w.heap.size w w' := by
  rcases okI_cases k with ⟨h1, h⟩ | ⟨h1, h2, h⟩ | ⟨h1, h2, h3, h⟩ | ⟨h1, h2, h3, h4, h⟩ | ⟨h1, h2, h3, h4, h5, h⟩ | ⟨h1, h2, h3, h4, h5, h⟩
  all_goals
    rw [h]
    clear h
    go_enter Try.func66, Try.ntmps66
    go_wp2
    go_ret
    exact ⟨ret_bool (by first | rfl | (simp; omega)), (Below.refl _ _).alloc (Nat.le_refl _) _⟩
theorem isize_any (A : Option Addr) (n c : Nat) (ks : List Im) (w : World) (hr : Rd w A (flatI ks)) (hn : ks.length = n) (hs : sumI ks ≤ 1099511627776) :
    Calls Try.prog 64 #[.slice A n c] w fun e w' => e = .returned (.int .i64 (1 + sumI ks)) ∧ Below w.heap.size w w' := by
  have HR := Lib.hid hr
  have HN := Lib.hid hn
  have HS := Lib.hid hs
  have HT : Hid (ks.take n = ks) := List.take_of_length_le (by omega)
  have hnn : (n : Int) ≤ 1099511627776 := by have := sumI_len ks; omega
  clear hr hn hs
  go_enter Try.func64, Try.ntmps64
  go_wp2
  go_loopw [3, 8] (fun u3 u8 wr => ∃ k : Nat, k ≤ n ∧ u8 = .int .i64 k ∧ u3 = .int .i64 (1 + sumI (ks.take k)) ∧ Below w.heap.size w wr) (fun _ u8 _ => n - (intOf u8).toNat)
  case atStart => exact ⟨0, by omega, rfl, rfl, Below.refl _ _⟩
  case round =>
    obtain ⟨k, hk, rfl, rfl, hB⟩ := hrel
    by_cases hlt : k < n
    · obtain ⟨bb, o, x, rfl, hbb, hx, d0, d1, d2⟩ := HR.out.item (k := k) (by have := HN.out; omega)
      have c0 := cell_bb hB hbb d0
      have c1 := cell_bb hB hbb d1
      have c2 := cell_bb hB hbb d2
      have hst := Lib.hid (sumI_take ks k x hx)
      have hl1 := sumI_le ks (k + 1)
      rw [hst.out] at hl1
      have hs := HS.out
      have e0 : (sumI (ks.take k) : Int) + (5 + (x.key.size : Int) + (x.val.size : Int)) ≤ 1099511627776 := by omega
      have e1 : (0 : Int) ≤ (sumI (ks.take k) : Int) := by omega
      have e2 : (0 : Int) ≤ (x.key.size : Int) := by omega
      have e3 : (0 : Int) ≤ (x.val.size : Int) := by omega
      generalize hq : sumI (ks.take k) = q at *
      have HQ := Lib.hid hq
      clear hq d0 d1 d2 hx hl1 hs
      go_wp2
      go_roundw
      case rel => exact ⟨k + 1, by omega, by go_num, by rw [hst.out]; congr 1; omega, hB.alloc hB.size _⟩
      case measure => simp [intOf]; omega
    · obtain rfl : k = n := by omega
      go_wp2
      go_ret
      exact ⟨by rw [HT.out]; rfl, hB⟩

/-- The first k children are right. -/
structure UpTo (ks : List Im) (k : Nat) : Prop where
  ok : ∀ (i : Nat) x, i < k → ks[i]? = some x → okI x = true
  up : ∀ (i : Nat) x y, i + 1 < k → ks[i]? = some x → ks[i + 1]? = some y → ltB x.key y.key = true
theorem UpTo.zero (ks : List Im) : UpTo ks 0 := ⟨fun _ _ h => by omega, fun _ _ _ h => by omega⟩
theorem UpTo.next {ks : List Im} {k : Nat} (h : UpTo ks k) {x : Im} (hx : ks[k]? = some x) (ho : okI x = true) (hu : ∀ j y, k = j + 1 → ks[j]? = some y → ltB y.key x.key = true) : UpTo ks (k + 1) := by
  refine ⟨fun i y hi hy => ?_, fun i y z hi hy hz => ?_⟩
  · by_cases hc : i < k
    · exact h.ok i y hc hy
    · obtain rfl : i = k := by omega
      rw [hx] at hy; injection hy with hy; subst hy; exact ho
  · by_cases hc : i + 1 < k
    · exact h.up i y z hc hy hz
    · obtain rfl : k = i + 1 := by omega
      rw [hx] at hz; injection hz with hz; subst hz; exact hu i y rfl hy
theorem UpTo.all {ks : List Im} (h : UpTo ks ks.length) : RightI ks :=
  ⟨fun i x hx => h.ok i x (List.getElem?_eq_some_iff.1 hx).1 hx, fun i x y hx hy => h.up i x y (List.getElem?_eq_some_iff.1 hy).1 hx hy⟩

set_option maxRecDepth 100000 in
set_option maxHeartbeats 1000000 in
theorem iright_any (A : Option Addr) (n c : Nat) (ks : List Im) (w : World) (hr : Rd w A (flatI ks)) (hn : ks.length = n) (hm : n ≤ 1000000) :
    Calls Try.prog 126 #[.slice A n c] w fun e w' => TellsB e (RightI ks) ∧ Below w.heap.size w w' := by
  have HR := Lib.hid hr
  have HN := Lib.hid hn
  have hnn : (n : Int) ≤ 1000000 := by omega
  clear hr hn
  go_enter Try.func126, Try.ntmps126
  go_wp2
  go_loopw [2, 3, 7] (fun u2 u3 u7 wr => ∃ k : Nat, k ≤ n ∧ u7 = .int .i64 k ∧ UpTo ks k ∧ Below w.heap.size w wr) (fun _ _ u7 _ => n - (intOf u7).toNat)
  case atStart => exact ⟨0, by omega, rfl, UpTo.zero ks, Below.refl _ _⟩
  case round =>
    obtain ⟨k, hk, rfl, hU, hB⟩ := hrel
    have HU := Lib.hid hU
    clear hU
    by_cases hlt : k < n
    · obtain ⟨bb, o, x, rfl, hbb, hx, d0, d1, d2⟩ := HR.out.item (k := k) (by have := HN.out; omega)
      have HX := Lib.hid hx
      have c0 := cell_bb hB hbb d0
      have c1 := cell_bb hB hbb d1
      have c2 := cell_bb hB hbb d2
      have hV := fun w => ivalid_any x w
      have hki : (k : Int) < (n : Int) := by omega
      have B1 := hB.alloc hB.size (.cells #[.string x.key, .string x.val, .int .i64 x.kind] 108)
      have K1 := Blk.new wr 108 #[.string x.key, .string x.val, .int .i64 x.kind]
      clear hx d0 d1 d2
      go_upto_region 4 with fail
      generalize wr.alloc (.cells #[.string x.key, .string x.val, .int .i64 x.kind] 108) = W at B1 K1 ⊢
      have k0 : W.cell? ⟨wr.heap.size, 0, none⟩ = some (.string x.key) := K1.cell 0
      have k1 : W.cell? ⟨wr.heap.size, 1, none⟩ = some (.string x.val) := K1.cell 1
      have k2 : W.cell? ⟨wr.heap.size, 2, none⟩ = some (.int .i64 x.kind) := K1.cell 2
      have q0 := NewM.cell k0
      have q1 := NewM.cell k1
      have q2 := NewM.cell k2
      go_cut [29] from 12 to 29 (fun u wx => ∃ bad : Bool, u = .bool bad ∧ (bad = true → ¬ RightI ks) ∧ (bad = false → UpTo ks (k + 1)) ∧ Below w.heap.size w wx)
      case first =>
        cases hok : okI x
        · rw [hok] at hV
          have HV := Lib.hid hV
          have HNO : Hid (¬ RightI ks) := fun h => by have := h.ok k x HX.out; rw [hok] at this; cases this
          clear hV hok
          refine wp_region_quiet_new (by kernel_rfl) (by kernel_rfl) ?_
          repeat (go_big_quiet_step ((go_at_call 158; exact NewM.call (HV.out _))))
          refine wpQuiet_nil ?_
          rintro _ ⟨r, rfl⟩
          go_wp2
          go_meet
          exact ⟨true, rfl, fun _ => HNO.out, (fun h => by cases h), below_of r.h B1 B1.size⟩
        · rw [hok] at hV
          have HV := Lib.hid hV
          have HOK := Lib.hid hok
          clear hV hok
          by_cases hk0 : k = 0
          · have hz : decide (0 < k) = false := by simp; omega
            have HK := Lib.hid hk0
            clear hk0
            refine wp_region_quiet_new (by kernel_rfl) (by kernel_rfl) ?_
            repeat (go_big_quiet_step ((go_at_call 158; exact NewM.call (HV.out _))))
            refine wpQuiet_nil ?_
            rintro _ ⟨r, rfl⟩
            go_wp2
            go_meet
            exact ⟨false, rfl, (fun h => by cases h), fun _ => HU.out.next HX.out HOK.out (fun j y hj => by have := HK.out; omega), below_of r.h B1 B1.size⟩
          · obtain ⟨j, hj⟩ : ∃ j, k = j + 1 := ⟨k - 1, by omega⟩
            obtain ⟨b2, o2, y, e2, hb2, hy, f0, f1, f2⟩ := HR.out.item (k := j) (by have := HN.out; omega)
            injection e2 with e2
            injection e2 with e21 e22
            subst e21 e22
            have HY := Lib.hid hy
            have p0 := NewM.cell (cell_bb B1 hbb f0)
            have hwp : IntKind.i64.wrap ((k : Int) - 1) = (j : Int) := by rw [hj, show (((j + 1 : Nat) : Int) - 1) = (j : Int) by omega]; exact IntWalk.i64_in _ (by omega)
            have hz : decide (0 < k) = true := by simp; omega
            have hz' : 0 < k := by omega
            have hjn : (j : Int) < (n : Int) := by omega
            have HJ := Lib.hid hj
            have hcmp := leq_eq x.key y.key
            clear hy f0 f1 f2 hk0 hj
            cases hlt2 : ltB y.key x.key
            · rw [hlt2] at hcmp
              have HNO : Hid (¬ RightI ks) := fun h => by have := h.up j y x HY.out (by rw [← HJ.out]; exact HX.out); rw [hlt2] at this; cases this
              clear hlt2
              simp only [Bool.not_false] at hcmp
              refine wp_region_quiet_new (by kernel_rfl) (by kernel_rfl) ?_
              repeat (go_big_quiet_step ((go_at_call 158; exact NewM.call (HV.out _))))
              refine wpQuiet_nil ?_
              rintro _ ⟨r, rfl⟩
              go_wp2
              go_meet
              exact ⟨true, rfl, fun _ => HNO.out, (fun h => by cases h), below_of r.h B1 B1.size⟩
            · rw [hlt2] at hcmp
              have HUP := Lib.hid hlt2
              clear hlt2
              simp only [Bool.not_true] at hcmp
              refine wp_region_quiet_new (by kernel_rfl) (by kernel_rfl) ?_
              repeat (go_big_quiet_step ((go_at_call 158; exact NewM.call (HV.out _))))
              refine wpQuiet_nil ?_
              rintro _ ⟨r, rfl⟩
              go_wp2
              go_meet
              exact ⟨false, rfl, (fun h => by cases h), fun _ => HU.out.next HX.out HOK.out (fun i z hi hz => by
                obtain rfl : i = j := by have := HJ.out; omega
                have := HY.out; rw [hz] at this; injection this with this; subst this; exact HUP.out), below_of r.h B1 B1.size⟩
      case rest =>
      obtain ⟨bad, rfl, hb1, hb2, hB2⟩ := hcut
      have HB1 := Lib.hid hb1
      have HB2 := Lib.hid hb2
      clear hb1 hb2
      cases bad
      · go_wp2
        go_roundw
        case rel => exact ⟨k + 1, by omega, by go_num, HB2.out rfl, hB2⟩
        case measure => simp [intOf]; omega
      · go_wp2
        go_ret
        exact ⟨⟨false, rfl, by have := HB1.out; simpa using this⟩, hB2⟩
    · obtain rfl : k = n := by omega
      go_wp2
      go_ret
      exact ⟨⟨true, rfl, by simp only [true_iff]; exact (show UpTo ks ks.length by rw [HN.out]; exact HU.out).all⟩, hB⟩
set_option maxRecDepth 100000 in
set_option maxHeartbeats 1000000 in
theorem riright_any (A : Option Addr) (n c : Nat) (ks : List Im) (w : World) (hr : Rd w A (flatI ks)) (hn : ks.length = n) (hm : n ≤ 1000000) :
    Calls Try.prog 58 #[.slice A n c] w fun e w' => TellsB e (RightI ks) ∧ Below w.heap.size w w' := by
  have HR := Lib.hid hr
  have HN := Lib.hid hn
  have hnn : (n : Int) ≤ 1000000 := by omega
  clear hr hn
  go_enter Try.func58, Try.ntmps58
  go_wp2
  go_loopw [2, 3] (fun u2 u3 wr => ∃ k : Nat, k ≤ n ∧ u3 = .int .i64 k ∧ UpTo ks k ∧ Below w.heap.size w wr) (fun _ u3 _ => n - (intOf u3).toNat)
  case atStart => exact ⟨0, by omega, rfl, UpTo.zero ks, Below.refl _ _⟩
  case round =>
    obtain ⟨k, hk, rfl, hU, hB⟩ := hrel
    have HU := Lib.hid hU
    clear hU
    by_cases hlt : k < n
    · obtain ⟨bb, o, x, rfl, hbb, hx, d0, d1, d2⟩ := HR.out.item (k := k) (by have := HN.out; omega)
      have HX := Lib.hid hx
      have c0 := cell_bb hB hbb d0
      have c1 := cell_bb hB hbb d1
      have c2 := cell_bb hB hbb d2
      have hV := fun w => rivalid_any x w
      have hki : (k : Int) < (n : Int) := by omega
      clear hx d0 d1 d2
      go_upto_region 4 with fail
      have q0 := NewM.cell c0
      have q1 := NewM.cell c1
      have q2 := NewM.cell c2
      go_cut [33] from 10 to 33 (fun u wx => ∃ bad : Bool, u = .bool bad ∧ (bad = true → ¬ RightI ks) ∧ (bad = false → UpTo ks (k + 1)) ∧ Below w.heap.size w wx)
      case first =>
        cases hok : okI x
        · rw [hok] at hV
          have HV := Lib.hid hV
          have HNO : Hid (¬ RightI ks) := fun h => by have := h.ok k x HX.out; rw [hok] at this; cases this
          clear hV hok
          refine wp_region_quiet_new (by kernel_rfl) (by kernel_rfl) ?_
          repeat (go_big_quiet_step ((go_at_call 66; exact NewM.call (HV.out _))))
          refine wpQuiet_nil ?_
          rintro _ ⟨r, rfl⟩
          go_wp2
          go_meet
          exact ⟨true, rfl, fun _ => HNO.out, (fun h => by cases h), below_of r.h hB hB.size⟩
        · rw [hok] at hV
          have HV := Lib.hid hV
          have HOK := Lib.hid hok
          clear hV hok
          by_cases hk0 : k = 0
          · have hz : decide (0 < k) = false := by simp; omega
            have HK := Lib.hid hk0
            clear hk0
            refine wp_region_quiet_new (by kernel_rfl) (by kernel_rfl) ?_
            repeat (go_big_quiet_step ((go_at_call 66; exact NewM.call (HV.out _))))
            refine wpQuiet_nil ?_
            rintro _ ⟨r, rfl⟩
            go_wp2
            go_meet
            exact ⟨false, rfl, (fun h => by cases h), fun _ => HU.out.next HX.out HOK.out (fun j y hj => by have := HK.out; omega), below_of r.h hB hB.size⟩
          · obtain ⟨j, hj⟩ : ∃ j, k = j + 1 := ⟨k - 1, by omega⟩
            obtain ⟨b2, o2, y, e2, hb2, hy, f0, f1, f2⟩ := HR.out.item (k := j) (by have := HN.out; omega)
            injection e2 with e2
            injection e2 with e21 e22
            subst e21 e22
            have HY := Lib.hid hy
            have p0 := NewM.cell (cell_bb hB hbb f0)
            have hwp : IntKind.i64.wrap ((k : Int) - 1) = (j : Int) := by rw [hj, show (((j + 1 : Nat) : Int) - 1) = (j : Int) by omega]; exact IntWalk.i64_in _ (by omega)
            have hz : decide (0 < k) = true := by simp; omega
            have hz' : 0 < k := by omega
            have hjn : (j : Int) < (n : Int) := by omega
            have HJ := Lib.hid hj
            have hcmp := geq_eq y.key x.key
            clear hy f0 f1 f2 hk0 hj
            cases hlt2 : ltB y.key x.key
            · rw [hlt2] at hcmp
              have HNO : Hid (¬ RightI ks) := fun h => by have := h.up j y x HY.out (by rw [← HJ.out]; exact HX.out); rw [hlt2] at this; cases this
              clear hlt2
              simp only [Bool.not_false] at hcmp
              refine wp_region_quiet_new (by kernel_rfl) (by kernel_rfl) ?_
              repeat (go_big_quiet_step ((go_at_call 66; exact NewM.call (HV.out _))))
              refine wpQuiet_nil ?_
              rintro _ ⟨r, rfl⟩
              go_wp2
              go_meet
              exact ⟨true, rfl, fun _ => HNO.out, (fun h => by cases h), below_of r.h hB hB.size⟩
            · rw [hlt2] at hcmp
              have HUP := Lib.hid hlt2
              clear hlt2
              simp only [Bool.not_true] at hcmp
              refine wp_region_quiet_new (by kernel_rfl) (by kernel_rfl) ?_
              repeat (go_big_quiet_step ((go_at_call 66; exact NewM.call (HV.out _))))
              refine wpQuiet_nil ?_
              rintro _ ⟨r, rfl⟩
              go_wp2
              go_meet
              exact ⟨false, rfl, (fun h => by cases h), fun _ => HU.out.next HX.out HOK.out (fun i z hi hz => by
                obtain rfl : i = j := by have := HJ.out; omega
                have := HY.out; rw [hz] at this; injection this with this; subst this; exact HUP.out), below_of r.h hB hB.size⟩
      case rest =>
      obtain ⟨bad, rfl, hb1, hb2, hB2⟩ := hcut
      have HB1 := Lib.hid hb1
      have HB2 := Lib.hid hb2
      clear hb1 hb2
      cases bad
      · go_wp2
        go_roundw
        case rel => exact ⟨k + 1, by omega, by go_num, HB2.out rfl, hB2⟩
        case measure => simp [intOf]; omega
      · go_wp2
        go_ret
        exact ⟨⟨false, rfl, by have := HB1.out; simpa using this⟩, hB2⟩
    · obtain rfl : k = n := by omega
      have hall : RightI ks := (show UpTo ks ks.length by rw [HN.out]; exact HU.out).all
      have HALL := Lib.hid hall
      clear hall
      go_wp2
      go_ret
      exact ⟨⟨true, rfl, by simpa using HALL.out⟩, hB⟩
end Go.Proofs.Ytldkhhipfoeckaa
