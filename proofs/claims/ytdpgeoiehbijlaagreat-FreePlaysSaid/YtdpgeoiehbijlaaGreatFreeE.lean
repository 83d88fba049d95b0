/-
  slices.IndexFunc and slices.DeleteFunc of what is pending, over Release's closure. Conditions: a row of the call's own; no more than a million.
-/
import Derived.Test.YtdpgeoiehbijlaaGreatFreeC
import Derived.Test.YtdpgeoiehbijlaaGreatClear
import Derived.Lib.BufferMore
namespace Go.Proofs.YtdpgeoiehbijlaaGreat
open Go Go.RowKit
attribute [local go_sem] cell_set_if

theorem flatP_set (xs : List (Int × Int)) (k : Nat) (x : Int × Int) : ((flatP xs).set (k * 2) (.int .i64 x.1)).set (k * 2 + 1) (.int .i64 x.2) = flatP (xs.set k x) := by
  induction xs generalizing k with
  | nil => rfl
  | cons y ys ih =>
    have e : ∀ (z : Int × Int) zs, flatP (z :: zs) = .int .i64 z.1 :: .int .i64 z.2 :: flatP zs := fun _ _ => rfl
    cases k with
    | zero => rw [e]; rfl
    | succ k =>
      rw [e, List.set_cons_succ, e, ← ih k, show (k + 1) * 2 + 1 = (k * 2 + 1) + 1 + 1 by omega, show (k + 1) * 2 = k * 2 + 1 + 1 by omega, List.set_cons_succ, List.set_cons_succ, List.set_cons_succ, List.set_cons_succ]
theorem flatP_take (xs : List (Int × Int)) (k : Nat) : (flatP xs).take (k * 2) = flatP (xs.take k) := by
  induction xs generalizing k with
  | nil => simp [flatP]
  | cons y ys ih =>
    have e : ∀ (z : Int × Int) zs, flatP (z :: zs) = .int .i64 z.1 :: .int .i64 z.2 :: flatP zs := fun _ _ => rfl
    cases k with
    | zero => simp [flatP]
    | succ k => rw [e, List.take_succ_cons, e, ← ih k, show (k + 1) * 2 = k * 2 + 1 + 1 by omega, List.take_succ_cons, List.take_succ_cons]
theorem rclos_any (x : Int × Int) (id : Int) (gk : Nat) (w : World) (hk : w.cell? ⟨gk, 0, none⟩ = some (.int .i64 id)) :
    Calls Tryz.prog 37 #[.agg #[.int .i64 x.1, .int .i64 x.2], .pointer (some ⟨gk, 0, none⟩)] w fun e w' => e = .returned (.bool (decide (x.1 < id))) ∧ Below w.heap.size w w' := by
  have hl := block_lt_of_cell hk
  go_enter Tryz.func37, Tryz.ntmps37
  go_wp2
  go_ret
  exact ⟨rfl, (Below.refl _ _).alloc (Nat.le_refl _) _⟩

set_option maxRecDepth 100000 in
set_option maxHeartbeats 1000000 in
theorem ixfR_any (A : Option Addr) (n c gk : Nat) (ks : List (Int × Int)) (id : Int) (w : World) (hr : Rd w A (flatP ks)) (hn : ks.length = n) (hk : w.cell? ⟨gk, 0, none⟩ = some (.int .i64 id)) (hm : n ≤ 1000000) :
    Calls Tryz.prog 81 #[.slice A n c, .func (.func 37) #[] #[.pointer (some ⟨gk, 0, none⟩)]] w fun e w' => e = .returned (.int .i64 (ixV (fun x => decide (x.1 < id)) ks)) ∧ Below w.heap.size w w' := by
  have HR := Lib.hid hr
  have HN := Lib.hid hn
  have HH := Lib.hid hk
  have hni : (n : Int) ≤ 1000000 := by omega
  clear hr hn hk
  go_enter Tryz.func81, Tryz.ntmps81
  go_wp2
  go_loopw [8] (fun u8 wr => ∃ k : Nat, k ≤ n ∧ u8 = .int .i64 k ∧ Hid (∀ (j : Nat) y, j < k → ks[j]? = some y → (decide (y.1 < id)) = false) ∧ Below w.heap.size w wr) (fun u8 _ => n - (intOf u8).toNat)
  case atStart => exact ⟨0, by omega, rfl, fun j y hj => by omega, Below.refl _ _⟩
  case round =>
    obtain ⟨k, hkn, rfl, hno, hB⟩ := hrel
    have HB := Lib.hid hB
    clear hB
    by_cases hlt : k < n
    · obtain ⟨b1, o1, x, rfl, _, hx, d0, d1⟩ := (HR.out.below (HB.out)).pair (k := k) (by have := HN.out; omega)
      have hki : (k : Int) < (n : Int) := by omega
      have hkk := cell_b HB.out HH.out
      have hcl := rclos_any x id gk wr hkk
      obtain ⟨q, hq⟩ : ∃ q, q = (decide (x.1 < id)) := ⟨_, rfl⟩
      rw [← hq] at hcl
      have HCL := Lib.hid hcl
      have HX := Lib.hid hx
      have HQ := Lib.hid hq
      clear hcl hq hx hkk
      cases q
      · have HY : Hid (∀ (j : Nat) y, j < k + 1 → ks[j]? = some y → (decide (y.1 < id)) = false) := fun j y hj hy => by
          by_cases e : j = k
          · subst e; rw [HX.out] at hy; rw [← Option.some.inj hy]; exact HQ.out.symm
          · exact hno.out j y (by omega) hy
        go_wp2_with (go_at_call 37; refine HCL.out.mono ?_; rintro e w2 ⟨rfl, b2⟩; have B2 := Lib.hid b2; clear b2)
        go_roundw
        case rel => exact ⟨k + 1, by omega, by go_num, HY, HB.out.trans (B2.out.mono HB.out.size)⟩
        case measure => simp [intOf]; omega
      · have HV : Hid (ixV (fun x => decide (x.1 < id)) ks = (k : Int)) := ixV_at HX.out HQ.out.symm hno.out
        go_wp2_with (go_at_call 37; refine HCL.out.mono ?_; rintro e w2 ⟨rfl, b2⟩; have B2 := Lib.hid b2; clear b2)
        go_ret
        exact ⟨by (rw [HV.out]) <;> rfl, HB.out.trans (B2.out.mono HB.out.size)⟩
    · obtain rfl : n = k := by omega
      have HV : Hid (ixV (fun x => decide (x.1 < id)) ks = -1) := ixV_none fun x hx => by
        obtain ⟨j, hj⟩ := List.mem_iff_getElem?.1 hx
        exact hno.out j x (by have := (List.getElem?_eq_some_iff.1 hj).1; have := HN.out; omega) hj
      go_wp2
      go_ret
      exact ⟨by (rw [HV.out]) <;> rfl, HB.out⟩
set_option maxRecDepth 100000 in
set_option maxHeartbeats 4000000 in
theorem delP_any (base n c gk : Nat) (A : Option Addr) (ks : List (Int × Int)) (id : Int) (w : World) (ho : w.ownsRow base 71 2 (.slice A n c) n (flatP ks)) (hn : ks.length = n) (hk : w.cell? ⟨gk, 0, none⟩ = some (.int .i64 id)) (hne : (Value.slice A n c).ownBlock ≠ some gk) (hm : n ≤ 1000000) :
    Calls Tryz.prog 36 #[.slice A n c, .func (.func 37) #[] #[.pointer (some ⟨gk, 0, none⟩)]] w fun e w' => ∃ m, m ≤ n ∧ (ks.filter fun x => !decide (x.1 < id)).length = m ∧ e = .returned (.slice A m c) ∧
      w'.ownsRow base 71 2 (.slice A m c) m (flatP (ks.filter fun x => !decide (x.1 < id))) ∧ Frm (fun k => (Value.slice A n c).ownBlock = some k) w w' := by
  obtain ⟨i0, hi0, hz0, hz1, hz2⟩ := info_parts pendInfo
  have hni : (n : Int) ≤ 1000000 := by omega
  have hI := ixfR_any A n c gk ks id w (Rd.of_own ho) hn hk hm
  have hnc : n ≤ c := by obtain ⟨A, d, e, h⟩ := own_form ho; injection e with e1 e2 e3; omega
  have hnci : (n : Int) ≤ (c : Int) := by omega
  have HN := Lib.hid hn
  by_cases hall : ∀ x ∈ ks, decide (x.1 < id) = false
  · have hf : (ks.filter fun x => !decide (x.1 < id)) = ks := by rw [List.filter_eq_self]; intro x hx; rw [hall x hx]; rfl
    rw [ixV_none hall] at hI
    rw [hf]
    have HI := Lib.hid hI
    clear hI hall hf hn
    go_enter Tryz.func36, Tryz.ntmps36
    go_wp2_with (go_at_call 81; refine HI.out.mono ?_; rintro e w2 ⟨rfl, b2⟩)
    go_ret
    exact ⟨n, Nat.le_refl _, HN.out, rfl, own_frm ho (Frm.of_below (S := no) b2) (fun _ _ h => h), Frm.of_below b2⟩
  · obtain ⟨k, x, hx, hp, hno⟩ : ∃ (k : Nat) (x : Int × Int), ks[k]? = some x ∧ decide (x.1 < id) = true ∧ ∀ (j : Nat) y, j < k → ks[j]? = some y → decide (y.1 < id) = false := by
      have he : (ks.findIdx? fun x => decide (x.1 < id)).isSome = true := by
        rw [List.findIdx?_isSome]
        simp only [List.any_eq_true]
        apply Classical.byContradiction
        intro h
        apply hall
        intro x hx
        cases hxi : decide (x.1 < id) with
        | false => rfl
        | true => exact absurd ⟨x, hx, hxi⟩ h
      obtain ⟨k, hk⟩ := Option.isSome_iff_exists.1 he
      rw [List.findIdx?_eq_some_iff_getElem] at hk
      obtain ⟨h1, h2, h3⟩ := hk
      refine ⟨k, ks[k], List.getElem?_eq_getElem h1, h2, fun j y hj hy => ?_⟩
      have h4 := h3 j hj
      rw [List.getElem?_eq_getElem (by omega)] at hy
      rw [← Option.some.inj hy]
      simpa using h4
    rw [ixV_at hx hp hno] at hI
    have HI := Lib.hid hI
    have hD := DelI.start (p := fun x : Int × Int => decide (x.1 < id)) hx hp hno
    have hkn : k < n := by have := (List.getElem?_eq_some_iff.1 hx).1; omega
    have HD := Lib.hid hD
    have hk1 : ((k : Int) == -1) = false := by rw [beq_eq_false_iff_ne]; omega
    obtain ⟨g, cc, e1, hbg, hlc⟩ := ho.form (by omega)
    obtain rfl : A = some ⟨g, 0, none⟩ := by injection e1
    have hgk : gk ≠ g := fun e => hne (by rw [e]; rfl)
    have HKK := Lib.hid hk
    clear hI hD hx hp hno hn hall hk e1 hne
    go_enter Tryz.func36, Tryz.ntmps36
    go_wp2_with (go_at_call 81; refine HI.out.mono ?_; rintro e w2 ⟨rfl, b2⟩; have O2 := own_frm ho (Frm.of_below (S := no) b2) (fun _ _ h => h))
    go_loopw [5, 6] (fun u5 u6 wr => ∃ (i j : Nat) (cur : List (Int × Int)), j ≤ n ∧ i < j ∧ u5 = .int .i64 i ∧ u6 = .int .i64 j ∧ Hid (DelI (fun x : Int × Int => decide (x.1 < id)) ks cur i j) ∧ Hid (wr.ownsRow base 71 2 (.slice (some ⟨g, 0, none⟩) n c) n (flatP cur)) ∧ Hid (Frm (at1 g) w wr)) (fun _ u6 _ => n - (intOf u6).toNat)
    case atStart => exact ⟨k, k + 1, ks, by omega, by omega, rfl, by go_num, HD, O2, Frm.of_below b2⟩
    case round =>
      obtain ⟨i, j, cur, hjn, hij, rfl, rfl, HD2, HO, HF⟩ := hrel
      clear HD O2
      have hkw : wr.cell? ⟨gk, 0, none⟩ = some (.int .i64 id) := (HF.out.cell (p := ⟨gk, 0, none⟩) (block_lt_of_cell HKK.out) (show ¬ at1 g gk from fun e => hgk e)).trans HKK.out
      by_cases hlt : j < n
      · obtain ⟨x, hx⟩ : ∃ x, ks[j]? = some x := ⟨ks[j]'(by have := HN.out; omega), List.getElem?_eq_getElem _⟩
        have hcx : cur[j]? = some x := by rw [HD2.out.rest j (Nat.le_refl _)]; exact hx
        have hil : i < cur.length := by have := HD2.out.len; have := HN.out; omega
        have hcl : ∀ w', Below wr.heap.size wr w' → Calls Tryz.prog 37 #[.agg #[.int .i64 x.1, .int .i64 x.2], .pointer (some ⟨gk, 0, none⟩)] w' fun e w'' => e = .returned (.bool (decide (x.1 < id))) ∧ Below w'.heap.size w' w'' := fun w' hb => rclos_any x id gk w' (cell_b hb hkw)
        have cj0 : wr.cell? ⟨g, j * 2, none⟩ = some (.int .i64 x.1) := by
          have := HO.out.cells (g := g) rfl (j * 2) _ (flatP_at cur j x hcx 0 _ rfl)
          rwa [add_flat, Nat.zero_add] at this
        have cj1 : wr.cell? ⟨g, j * 2 + 1, none⟩ = some (.int .i64 x.2) := by
          have := HO.out.cells (g := g) rfl (j * 2 + 1) _ (flatP_at cur j x hcx 1 _ rfl)
          rwa [add_flat, Nat.zero_add] at this
        obtain ⟨q, hq⟩ : ∃ q, q = decide (x.1 < id) := ⟨_, rfl⟩
        rw [← hq] at hcl
        have hji : (j : Int) < (n : Int) := by omega
        have hii : (i : Int) < (n : Int) := by omega
        have HCL := Lib.hid hcl
        have HX := Lib.hid hx
        have HQ := Lib.hid hq
        have HIL := Lib.hid hil
        have O3 := HO.out.alloc (.cells #[.int .i64 x.1, .int .i64 x.2] 71)
        have hb3 := (Below.refl wr.heap.size wr).alloc (Nat.le_refl _) (.cells #[.int .i64 x.1, .int .i64 x.2] 71)
        have HB3 := Lib.hid hb3
        have K := Blk.new wr 71 #[.int .i64 x.1, .int .i64 x.2]
        clear hcl hq hx hcx hil hb3
        cases q
        · have HK2 := Lib.hid (HD2.out.keep HX.out HQ.out.symm)
          have ci : ∃ y : Int × Int, cur[i]? = some y := ⟨_, List.getElem?_eq_getElem HIL.out⟩
          obtain ⟨y, hy⟩ := ci
          have HY := Lib.hid hy
          clear hy
          go_wp2_with (go_at_call 37; refine (HCL.out _ HB3.out).mono ?_; rintro e w5 ⟨rfl, b5⟩
                       have O5 := own_frm O3 (Frm.of_below (S := no) b5) (fun _ _ h => h)
                       have K5 := K.below b5
                       have y0 : w5.cell? ⟨wr.heap.size, 0, none⟩ = some (.int .i64 x.1) := K5.cell 0
                       have y1 : w5.cell? ⟨wr.heap.size, 1, none⟩ = some (.int .i64 x.2) := K5.cell 1
                       have ci0 : w5.cell? ⟨g, i * 2, none⟩ = some (.int .i64 y.1) := by
                         have := O5.cells (g := g) rfl (i * 2) _ (flatP_at cur i y HY.out 0 _ rfl)
                         rwa [add_flat, Nat.zero_add] at this
                       have ci1 : w5.cell? ⟨g, i * 2 + 1, none⟩ = some (.int .i64 y.2) := by
                         have := O5.cells (g := g) rfl (i * 2 + 1) _ (flatP_at cur i y HY.out 1 _ rfl)
                         rwa [add_flat, Nat.zero_add] at this
                       have fi0 := own_free O5 (i * 2)
                       have fi1 := own_free O5 (i * 2 + 1))
          go_roundw
          case rel =>
            refine ⟨i + 1, j + 1, cur.set i x, by omega, by omega, by go_num, by go_num, HK2, ?_, ((((HF.out.alloc _).step b5).setCell (p := ⟨g, i * 2, none⟩) (fun _ => rfl) _).setCell (p := ⟨g, i * 2 + 1, none⟩) (fun _ => rfl) _)⟩
            have := own_put (x := .int .i64 x.2) (own_put (x := .int .i64 x.1) O5 (p := i * 2) (by omega)) (p := i * 2 + 1) (by omega)
            rwa [flatP_set] at this
          case measure => simp [intOf]; omega
        · have HK2 := Lib.hid (HD2.out.drop HX.out HQ.out.symm)
          go_wp2_with (go_at_call 37; refine (HCL.out _ HB3.out).mono ?_; rintro e w5 ⟨rfl, b5⟩
                       have O5 := own_frm O3 (Frm.of_below (S := no) b5) (fun _ _ h => h))
          go_roundw
          case rel => exact ⟨i, j + 1, cur, by omega, by omega, rfl, by go_num, HK2, O5, (HF.out.alloc _).step b5⟩
          case measure => simp [intOf]; omega
      · obtain rfl : n = j := by omega
        have hdone : cur.take i = ks.filter fun x => !decide (x.1 < id) := by
          have := HD2.out
          rw [← HN.out] at this
          exact this.done
        have hil : (ks.filter fun x => !decide (x.1 < id)).length = i := by
          rw [← hdone, List.length_take]; have := HD2.out.len; have := HN.out; omega
        have hO := HO.out
        obtain ⟨zs, hzs⟩ : ∃ zs : List Value, zs = (Builtin.zeroCells (Value.agg #[.int .i64 0, .int .i64 0]).cells (n - i)).toList := ⟨_, rfl⟩
        have hzl : zs.length = (n - i) * 2 := by rw [hzs, Array.length_toList, size_zeroCells]; rfl
        have hzm : ∀ u ∈ zs, u.oneCell' = true := fun u hu => by
          rw [hzs] at hu
          unfold Builtin.zeroCells at hu
          rw [Array.toList_map, List.mem_map] at hu
          obtain ⟨q, _, rfl⟩ := hu
          have hsz : (Value.agg #[.int .i64 0, .int .i64 0]).cells = #[.int .i64 0, .int .i64 0] := by kernel_rfl
          rw [hsz]
          show (#[Value.int .i64 0, Value.int .i64 0][q % 2]!).oneCell' = true
          have : q % 2 = 0 ∨ q % 2 = 1 := by omega
          rcases this with h | h <;> rw [h] <;> rfl
        have hcl2 := own_cleared (zs := zs) hO (i := i) (by omega) hzl
        have hclr : ∀ ty, (Builtin.clear_ #[63] ty #[.slice (some ⟨g, i * 2, none⟩) (n - i) (c - i)]).run Tryz.prog wr = .ok (.tuple #[]) (wr.setCells g (i * 2) zs) := fun ty => by
          obtain ⟨cu, hB, _, _, _, hcs, _⟩ := own_open hO
          have h1 : i * 2 + (n - i) * 2 = n * 2 := by omega
          have h2 : n * 2 ≤ c * 2 := by omega
          refine run_clear_sz wr _ _ ty (.agg #[.int .i64 0, .int .i64 0]) Tryz.underlying63 (by simp [zeroValue, typeInfo, hi0, hz0]) g (i * 2) _ _ zs ?_ (by omega) hzm (fun t ht => ?_) (fun t _ => own_free hO _)
          · exact hzs.symm
          · rw [hzl] at ht
            rw [hB.cell, Array.getElem?_eq_getElem (by omega)]; rfl
        have HO2 : Hid ((wr.setCells g (i * 2) zs).ownsRow base 71 2 (.slice (some ⟨g, 0, none⟩) i c) i (flatP (ks.filter fun x => !decide (x.1 < id)))) := by
          have := hcl2.1
          rw [flatP_take, hdone] at this
          exact this
        have HF2 := Lib.hid (HF.out.then_ hcl2.2)
        have HIL := Lib.hid hil
        have hin : (i : Int) ≤ (n : Int) := by omega
        have hin2 : i ≤ n := by omega
        have hic : i ≤ c := by omega
        clear hdone hil hzs hcl2 hO hzm hzl
        have hci : ¬ (c = i) := by omega
        go_wp2_with ((at_builtin; (refine wpList_clear_run wr rfl (.tmp 38) 63 rfl _ rfl _ _ (hclr _) ?_)))
        go_ret
        exact ⟨i, hin2, HIL.out, rfl, HO2.out, HF2.out.mono fun k _ e => congrArg some (show k = g from e).symm⟩
end Go.Proofs.YtdpgeoiehbijlaaGreat
