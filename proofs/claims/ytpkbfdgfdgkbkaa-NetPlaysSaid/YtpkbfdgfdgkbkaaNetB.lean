/-
  slices.IndexFunc and slices.DeleteFunc over two ends. Conditions: a row of the call's own; no more than a million.
-/
import Derived.Test.YtpkbfdgfdgkbkaaNetA
import Derived.Test.YtpkbfdgfdgkbkaaDelP
import Derived.Test.YtpkbfdgfdgkbkaaClear
import Derived.Test.YtpkbfdgfdgkbkaaRowsInts
import Derived.Lib.BufferMore
import Derived.LaidEqlPtr
namespace Go.Proofs.Ytpkbfdgfdgkbkaa
open Go Go.RowKit
attribute [local go_sem] cell_set_if

theorem tflat_set  (xs : List Ct) (k : Nat) (x : Ct) : ((flatT xs).set (k * 2) (.int .i64 x.a)).set (k * 2 + 1) (.int .i64 x.b) = flatT (xs.set k x) := by
  induction xs generalizing k with
  | nil => rfl
  | cons y ys ih =>
    have e : ∀ (z : Ct) zs, flatT (z :: zs) = (.int .i64 z.a) :: (.int .i64 z.b) :: flatT zs := fun _ _ => rfl
    cases k with
    | zero => rw [e]; rfl
    | succ k =>
      rw [e, List.set_cons_succ, e, ← ih k, show (k + 1) * 2 + 1 = (k * 2 + 1) + 1 + 1 by omega, show (k + 1) * 2 = k * 2 + 1 + 1 by omega, List.set_cons_succ, List.set_cons_succ, List.set_cons_succ, List.set_cons_succ]
theorem tflat_take  (xs : List Ct) (k : Nat) : (flatT xs).take (k * 2) = flatT (xs.take k) := by
  induction xs generalizing k with
  | nil => simp [flatT]
  | cons y ys ih =>
    have e : ∀ (z : Ct) zs, flatT (z :: zs) = (.int .i64 z.a) :: (.int .i64 z.b) :: flatT zs := fun _ _ => rfl
    cases k with
    | zero => simp [flatT]
    | succ k => rw [e, List.take_succ_cons, e, ← ih k, show (k + 1) * 2 = k * 2 + 1 + 1 by omega, List.take_succ_cons, List.take_succ_cons]
set_option maxRecDepth 100000 in
theorem tclos_any  (x : Ct) (ea eb : Int) (gx : Nat) (w : World) (hk0 : w.cell? ⟨gx, 0, none⟩ = some (.int .i64 ea)) (hkb : w.cell? ⟨gx, 1, none⟩ = some (.int .i64 eb)) :
    Calls Try.prog 19 #[.agg #[.int .i64 x.a, .int .i64 x.b], .pointer (some ⟨gx, 0, none⟩)] w fun e w' => e = .returned (.bool (((x.a == ea) && (x.b == eb) : Bool))) ∧ Below w.heap.size w w' := by
  have hl := block_lt_of_cell hk0
  have hq := run_eqin_two (w.alloc (.cells #[.int .i64 x.a, .int .i64 x.b] 39)) x.a x.b ea eb
  have ba : Below w.heap.size w (w.alloc (.cells #[.int .i64 x.a, .int .i64 x.b] 39)) := (Below.refl _ _).alloc (Nat.le_refl _) _
  have kb0 := cell_b ba hk0
  have kb1 := cell_b ba hkb
  obtain ⟨r, hr⟩ : ∃ r : Bool, r = (x.a == ea && x.b == eb) := ⟨_, rfl⟩
  rw [← hr] at hq ⊢
  clear hr
  go_enter Try.func19, Try.ntmps19
  go_wp2
  go_ret
  exact ⟨rfl, (Below.refl _ _).alloc (Nat.le_refl _) _⟩

theorem Rd.trec  {w : World} {A : Option Addr} {ks : List Ct} (h : Rd w A (flatT ks)) {k : Nat} (hk : k < ks.length) : ∃ b o x, A = some ⟨b, o, none⟩ ∧ b < w.heap.size ∧ ks[k]? = some x ∧ w.cell? ⟨b, o + k * 2, none⟩ = some (.int .i64 x.a) ∧ w.cell? ⟨b, o + k * 2 + 1, none⟩ = some (.int .i64 x.b) := by
  obtain ⟨x, hx⟩ : ∃ x, ks[k]? = some x := ⟨ks[k]'hk, List.getElem?_eq_getElem _⟩
  obtain ⟨b, o, e, hb, hc⟩ := h.flat (by rw [flatT_len]; omega)
  refine ⟨b, o, x, e, hb, hx, ?_, ?_⟩
  · have := hc _ _ (flatT_at ks k x hx 0 _ rfl); simpa using this
  · have := hc _ _ (flatT_at ks k x hx 1 _ rfl); rwa [← Nat.add_assoc] at this

set_option maxRecDepth 100000 in
set_option maxHeartbeats 1000000 in
theorem tixf_any  (A : Option Addr) (n c : Nat) (gx : Nat) (ks : List Ct) (ea eb : Int) (w : World) (hr : Rd w A (flatT ks)) (hn : ks.length = n) (hk0 : w.cell? ⟨gx, 0, none⟩ = some (.int .i64 ea)) (hKB : w.cell? ⟨gx, 1, none⟩ = some (.int .i64 eb)) (hm : n ≤ 1000000) :
    Calls Try.prog 38 #[.slice A n c, .func (.func 19) #[] #[.pointer (some ⟨gx, 0, none⟩)]] w fun e w' => e = .returned (.int .i64 (ixV (fun x : Ct => (((x.a == ea) && (x.b == eb) : Bool))) ks)) ∧ Below w.heap.size w w' := by
  have HR := Lib.hid hr
  have HN := Lib.hid hn
  have HH0 := Lib.hid hk0
  have HKB := Lib.hid hKB
  have hni : (n : Int) ≤ 1000000 := by omega
  clear hr hn hk0 hKB
  go_enter Try.func38, Try.ntmps38
  go_wp2
  go_loopw [8] (fun u8 wr => ∃ k : Nat, k ≤ n ∧ u8 = .int .i64 k ∧ Hid (∀ (j : Nat) y, j < k → ks[j]? = some y → (((y.a == ea) && (y.b == eb) : Bool)) = false) ∧ Below w.heap.size w wr) (fun u8 _ => n - (intOf u8).toNat)
  case atStart => exact ⟨0, by omega, rfl, fun j y hj => by omega, Below.refl _ _⟩
  case round =>
    obtain ⟨k, hkn, rfl, hno, hB⟩ := hrel
    have HB := Lib.hid hB
    clear hB
    by_cases hlt : k < n
    · obtain ⟨b1, o1, x, rfl, _, hx, d0, d1⟩ := (HR.out.below (HB.out)).trec (k := k) (by have := HN.out; omega)
      have hki : (k : Int) < (n : Int) := by omega
      have hcl := tclos_any  x ea eb gx wr (cell_b HB.out HH0.out) (cell_b HB.out HKB.out)
      obtain ⟨q, hq⟩ : ∃ q, q = (((x.a == ea) && (x.b == eb) : Bool)) := ⟨_, rfl⟩
      rw [← hq] at hcl
      have HCL := Lib.hid hcl
      have HX := Lib.hid hx
      have HQ := Lib.hid hq
      clear hcl hq hx
      cases q
      · have HY : Hid (∀ (j : Nat) y, j < k + 1 → ks[j]? = some y → (((y.a == ea) && (y.b == eb) : Bool)) = false) := fun j y hj hy => by
          by_cases e : j = k
          · subst e; rw [HX.out] at hy; rw [← Option.some.inj hy]; exact HQ.out.symm
          · exact hno.out j y (by omega) hy
        go_wp2_with (go_at_call 19; refine HCL.out.mono ?_; rintro e w2 ⟨rfl, b2⟩; have B2 := Lib.hid b2; clear b2)
        go_roundw
        case rel => exact ⟨k + 1, by omega, by go_num, HY, HB.out.trans (B2.out.mono HB.out.size)⟩
        case measure => simp [intOf]; omega
      · have HV : Hid (ixV (fun x : Ct => (((x.a == ea) && (x.b == eb) : Bool))) ks = (k : Int)) := ixV_at HX.out HQ.out.symm hno.out
        go_wp2_with (go_at_call 19; refine HCL.out.mono ?_; rintro e w2 ⟨rfl, b2⟩; have B2 := Lib.hid b2; clear b2)
        go_ret
        exact ⟨by (rw [HV.out]) <;> rfl, HB.out.trans (B2.out.mono HB.out.size)⟩
    · obtain rfl : n = k := by omega
      have HV : Hid (ixV (fun x : Ct => (((x.a == ea) && (x.b == eb) : Bool))) ks = -1) := ixV_none fun x hx => by
        obtain ⟨j, hj⟩ := List.mem_iff_getElem?.1 hx
        exact hno.out j x (by have := (List.getElem?_eq_some_iff.1 hj).1; have := HN.out; omega) hj
      go_wp2
      go_ret
      exact ⟨by (rw [HV.out]) <;> rfl, HB.out⟩
set_option maxRecDepth 100000 in
set_option maxHeartbeats 4000000 in
theorem tdel_any  (base n c : Nat) (gx : Nat) (A : Option Addr) (ks : List Ct) (ea eb : Int) (w : World) (ho : w.ownsRow base 39 2 (.slice A n c) n (flatT ks)) (hn : ks.length = n) (hk0 : w.cell? ⟨gx, 0, none⟩ = some (.int .i64 ea)) (hne0 : (Value.slice A n c).ownBlock ≠ some gx) (hKB : w.cell? ⟨gx, 1, none⟩ = some (.int .i64 eb)) (hm : n ≤ 1000000) :
    Calls Try.prog 18 #[.slice A n c, .func (.func 19) #[] #[.pointer (some ⟨gx, 0, none⟩)]] w fun e w' => ∃ m, m ≤ n ∧ (ks.filter fun x => !(((x.a == ea) && (x.b == eb) : Bool))).length = m ∧ e = .returned (.slice A m c) ∧
      w'.ownsRow base 39 2 (.slice A m c) m (flatT (ks.filter fun x => !(((x.a == ea) && (x.b == eb) : Bool)))) ∧ Frm (fun k => (Value.slice A n c).ownBlock = some k) w w' := by
  obtain ⟨i0, hi0, hz0, hz1, hz2⟩ := info_parts ctInfo
  have hni : (n : Int) ≤ 1000000 := by omega
  have hI := tixf_any  A n c gx ks ea eb w (Rd.of_own ho) hn hk0 hKB hm
  have HKB := Lib.hid hKB
  have hnc : n ≤ c := by obtain ⟨A, d, e, h⟩ := own_form ho; injection e with e1 e2 e3; omega
  have hnci : (n : Int) ≤ (c : Int) := by omega
  have HN := Lib.hid hn
  by_cases hall : ∀ x ∈ ks, (((x.a == ea) && (x.b == eb) : Bool)) = false
  · have hf : (ks.filter fun x => !(((x.a == ea) && (x.b == eb) : Bool))) = ks := by rw [List.filter_eq_self]; intro x hx; rw [hall x hx]; rfl
    rw [ixV_none hall] at hI
    rw [hf]
    have HI := Lib.hid hI
    clear hI hall hf hn
    go_enter Try.func18, Try.ntmps18
    go_wp2_with (go_at_call 38; refine HI.out.mono ?_; rintro e w2 ⟨rfl, b2⟩)
    go_ret
    exact ⟨n, Nat.le_refl _, HN.out, rfl, own_frm ho (Frm.of_below (S := no) b2) (fun _ _ h => h), Frm.of_below b2⟩
  · obtain ⟨k, x, hx, hp, hno⟩ : ∃ (k : Nat) (x : Ct), ks[k]? = some x ∧ (((x.a == ea) && (x.b == eb) : Bool)) = true ∧ ∀ (j : Nat) y, j < k → ks[j]? = some y → (((y.a == ea) && (y.b == eb) : Bool)) = false := by
      have he : (ks.findIdx? (fun x : Ct => (((x.a == ea) && (x.b == eb) : Bool)))).isSome = true := by
        rw [List.findIdx?_isSome]
        simp only [List.any_eq_true]
        apply Classical.byContradiction
        intro h
        apply hall
        intro x hx
        cases hxi : (((x.a == ea) && (x.b == eb) : Bool)) with
        | false => rfl
        | true => exact absurd ⟨x, hx, hxi⟩ h
      obtain ⟨k, hk⟩ := Option.isSome_iff_exists.1 he
      rw [List.findIdx?_eq_some_iff_getElem] at hk
      obtain ⟨h1, h2, h3⟩ := hk
      refine ⟨k, ks[k], List.getElem?_eq_getElem h1, h2, fun j y hj hy => ?_⟩
      have h4 := h3 j hj
      rw [List.getElem?_eq_getElem (by omega)] at hy
      rw [← Option.some.inj hy]
      exact Bool.eq_false_iff.2 h4
    rw [ixV_at hx hp hno] at hI
    have HI := Lib.hid hI
    have hD := DelI.start (p := (fun x : Ct => (((x.a == ea) && (x.b == eb) : Bool)))) hx hp hno
    have hkn : k < n := by have := (List.getElem?_eq_some_iff.1 hx).1; omega
    have HD := Lib.hid hD
    have hk1' : ((k : Int) == -1) = false := by rw [beq_eq_false_iff_ne]; omega
    obtain ⟨g, cc, e1, hbg, hlc⟩ := ho.form (by omega)
    obtain rfl : A = some ⟨g, 0, none⟩ := by injection e1
    have hg0 : gx ≠ g := fun e => hne0 (by rw [e]; rfl)
    have HKK0 := Lib.hid hk0
    have HGT := Lib.hid (own_ty ho (rfl : (Value.slice (some ⟨g, 0, none⟩) n c).ownBlock = some g))
    clear hI hD hx hp hno hn hall hk0 e1 hne0 hKB
    go_enter Try.func18, Try.ntmps18
    go_wp2_with (go_at_call 38; refine HI.out.mono ?_; rintro e w2 ⟨rfl, b2⟩; have O2 := own_frm ho (Frm.of_below (S := no) b2) (fun _ _ h => h))
    go_loopw [5, 6] (fun u5 u6 wr => ∃ (i j : Nat) (cur : List Ct), j ≤ n ∧ i < j ∧ u5 = .int .i64 i ∧ u6 = .int .i64 j ∧ Hid (DelI (fun x : Ct => (((x.a == ea) && (x.b == eb) : Bool))) ks cur i j) ∧ Hid (wr.ownsRow base 39 2 (.slice (some ⟨g, 0, none⟩) n c) n (flatT cur)) ∧ Hid (Frm (at1 g) w wr)) (fun _ u6 _ => n - (intOf u6).toNat)
    case atStart => exact ⟨k, k + 1, ks, by omega, by omega, rfl, by go_num, HD, O2, Frm.of_below b2⟩
    case round =>
      obtain ⟨i, j, cur, hjn, hij, rfl, rfl, HD2, HO, HF⟩ := hrel
      clear HD O2
      have hkw0 : wr.cell? ⟨gx, 0, none⟩ = some (.int .i64 ea) := (HF.out.cell (p := ⟨gx, 0, none⟩) (block_lt_of_cell HKK0.out) (show ¬ at1 g gx from fun e => hg0 e)).trans HKK0.out
      by_cases hlt : j < n
      · obtain ⟨x, hx⟩ : ∃ x, ks[j]? = some x := ⟨ks[j]'(by have := HN.out; omega), List.getElem?_eq_getElem _⟩
        have hcx : cur[j]? = some x := by rw [HD2.out.rest j (Nat.le_refl _)]; exact hx
        have hil : i < cur.length := by have := HD2.out.len; have := HN.out; omega
        have hcl : ∀ w', Below wr.heap.size wr w' → Calls Try.prog 19 #[.agg #[.int .i64 x.a, .int .i64 x.b], .pointer (some ⟨gx, 0, none⟩)] w' fun e w'' => e = .returned (.bool (((x.a == ea) && (x.b == eb) : Bool))) ∧ Below w'.heap.size w' w'' := fun w' hb => tclos_any  x ea eb gx w' (cell_b hb hkw0) (cell_b hb ((HF.out.cell (p := ⟨gx, 1, none⟩) (block_lt_of_cell HKB.out) (show ¬ at1 g gx from fun e => hg0 e)).trans HKB.out))
        have cj0 : wr.cell? ⟨g, j * 2, none⟩ = some (.int .i64 x.a) := by
          have := HO.out.cells (g := g) rfl (j * 2) _ (flatT_at cur j x hcx 0 _ rfl)
          rwa [add_flat, Nat.zero_add] at this
        have cj1 : wr.cell? ⟨g, j * 2 + 1, none⟩ = some (.int .i64 x.b) := by
          have := HO.out.cells (g := g) rfl (j * 2 + 1) _ (flatT_at cur j x hcx 1 _ rfl)
          rwa [add_flat, Nat.zero_add] at this
        obtain ⟨q, hq⟩ : ∃ q, q = (((x.a == ea) && (x.b == eb) : Bool)) := ⟨_, rfl⟩
        rw [← hq] at hcl
        have hji : (j : Int) < (n : Int) := by omega
        have hii : (i : Int) < (n : Int) := by omega
        have HCL := Lib.hid hcl
        have HX := Lib.hid hx
        have HQ := Lib.hid hq
        have HIL := Lib.hid hil
        have O3 := HO.out.alloc (.cells #[.int .i64 x.a, .int .i64 x.b] 39)
        have hb3 := (Below.refl wr.heap.size wr).alloc (Nat.le_refl _) (.cells #[.int .i64 x.a, .int .i64 x.b] 39)
        have HB3 := Lib.hid hb3
        have K := Blk.new wr 39 #[.int .i64 x.a, .int .i64 x.b]
        clear hcl hq hx hcx hil hb3
        cases q
        · have HK2 := Lib.hid (HD2.out.keep HX.out HQ.out.symm)
          have ci : ∃ y : Ct, cur[i]? = some y := ⟨_, List.getElem?_eq_getElem HIL.out⟩
          obtain ⟨y, hy⟩ := ci
          have HY := Lib.hid hy
          clear hy
          go_wp2_with (go_at_call 19; refine (HCL.out _ HB3.out).mono ?_; rintro e w5 ⟨rfl, b5⟩
                       have O5 := own_frm O3 (Frm.of_below (S := no) b5) (fun _ _ h => h)
                       have K5 := K.below b5
                       have y0 : w5.cell? ⟨wr.heap.size, 0, none⟩ = some (.int .i64 x.a) := K5.cell 0
                       have y1 : w5.cell? ⟨wr.heap.size, 1, none⟩ = some (.int .i64 x.b) := K5.cell 1
                       have ci0 : w5.cell? ⟨g, i * 2, none⟩ = some (.int .i64 y.a) := by
                         have := O5.cells (g := g) rfl (i * 2) _ (flatT_at cur i y HY.out 0 _ rfl)
                         rwa [add_flat, Nat.zero_add] at this
                       have ci1 : w5.cell? ⟨g, i * 2 + 1, none⟩ = some (.int .i64 y.b) := by
                         have := O5.cells (g := g) rfl (i * 2 + 1) _ (flatT_at cur i y HY.out 1 _ rfl)
                         rwa [add_flat, Nat.zero_add] at this
                       have fi0 := own_free O5 (i * 2)
                       have fi1 := own_free O5 (i * 2 + 1))
          go_roundw
          case rel =>
            refine ⟨i + 1, j + 1, cur.set i x, by omega, by omega, by go_num, by go_num, HK2, ?_, ((((HF.out.alloc _).step b5).setCell (p := ⟨g, i * 2, none⟩) (fun _ => rfl) _).setCell (p := ⟨g, i * 2 + 1, none⟩) (fun _ => rfl) _)⟩
            have := (own_put (x := .int .i64 x.b) (own_put (x := .int .i64 x.a) O5 (p := i * 2) (by omega)) (p := i * 2 + 1) (by omega))
            rwa [tflat_set] at this
          case measure => simp [intOf]; omega
        · have HK2 := Lib.hid (HD2.out.drop HX.out HQ.out.symm)
          go_wp2_with (go_at_call 19; refine (HCL.out _ HB3.out).mono ?_; rintro e w5 ⟨rfl, b5⟩
                       have O5 := own_frm O3 (Frm.of_below (S := no) b5) (fun _ _ h => h))
          go_roundw
          case rel => exact ⟨i, j + 1, cur, by omega, by omega, rfl, by go_num, HK2, O5, (HF.out.alloc _).step b5⟩
          case measure => simp [intOf]; omega
      · obtain rfl : n = j := by omega
        have hdone : cur.take i = (ks.filter fun x => !(((x.a == ea) && (x.b == eb) : Bool))) := by
          have := HD2.out
          rw [← HN.out] at this
          exact this.done
        have hil : (ks.filter fun x => !(((x.a == ea) && (x.b == eb) : Bool))).length = i := by
          rw [← hdone, List.length_take]; have := HD2.out.len; have := HN.out; omega
        have hO := HO.out
        obtain ⟨zs, hzs⟩ : ∃ zs : List Value, zs = (Builtin.zeroCells (Value.agg #[.int .i64 0, .int .i64 0]).cells (n - i)).toList := ⟨_, rfl⟩
        have hzl : zs.length = (n - i) * 2 := by rw [hzs, Array.length_toList, size_zeroCells]; rfl
        have hzm : ∀ u ∈ zs, u.oneCell' = true := fun u hu => by
          rw [hzs] at hu
          unfold Builtin.zeroCells at hu
          rw [Array.toList_map, List.mem_map] at hu
          obtain ⟨q, _, rfl⟩ := hu
          have hsz : (Value.agg #[.int .i64 0, .int .i64 0]).cells = #[.int .i64 0, .int .i64 0] := by kernel_rfl
          rw [hsz]
          show ((#[.int .i64 0, .int .i64 0] : Array Value)[q % 2]!).oneCell' = true
          have : q % 2 = 0 ∨ q % 2 = 1 := by omega
          rcases this with h | h <;> rw [h] <;> rfl
        have hcl2 := own_cleared (zs := zs) hO (i := i) (by omega) hzl
        have hclr : ∀ ty, (Builtin.clear_ #[36] ty #[.slice (some ⟨g, i * 2, none⟩) (n - i) (c - i)]).run Try.prog wr = .ok (.tuple #[]) (wr.setCells g (i * 2) zs) := fun ty => by
          obtain ⟨cu, hB, _, _, _, hcs, _⟩ := own_open hO
          have h1 : i * 2 + (n - i) * 2 = n * 2 := by omega
          have h2 : n * 2 ≤ c * 2 := by omega
          refine run_clear_sz wr _ _ ty (.agg #[.int .i64 0, .int .i64 0]) Try.underlying36 (by simp [zeroValue, typeInfo, hi0, hz0]) g (i * 2) _ _ zs ?_ (by omega) hzm (fun t ht => ?_) (fun t _ => own_free hO _)
          · exact hzs.symm
          · rw [hzl] at ht
            rw [hB.cell, Array.getElem?_eq_getElem (by omega)]; rfl
        have HO2 : Hid ((wr.setCells g (i * 2) zs).ownsRow base 39 2 (.slice (some ⟨g, 0, none⟩) i c) i (flatT (ks.filter fun x => !(((x.a == ea) && (x.b == eb) : Bool))))) := by
          have := hcl2.1
          rw [tflat_take, hdone] at this
          exact this
        have HF2 := Lib.hid (HF.out.then_ hcl2.2)
        have HIL := Lib.hid hil
        have hin : (i : Int) ≤ (n : Int) := by omega
        have hin2 : i ≤ n := by omega
        have hic : i ≤ c := by omega
        clear hdone hil hzs hcl2 hO hzm hzl
        have hci : ¬ (c = i) := by omega
        go_wp2_with ((at_builtin; (refine wpList_clear_run wr rfl (.tmp 38) 36 rfl _ rfl _ _ (hclr _) ?_)))
        go_ret
        exact ⟨i, hin2, HIL.out, rfl, HO2.out, HF2.out.mono fun k _ e => congrArg some (show k = g from e).symm⟩
end Go.Proofs.Ytpkbfdgfdgkbkaa
