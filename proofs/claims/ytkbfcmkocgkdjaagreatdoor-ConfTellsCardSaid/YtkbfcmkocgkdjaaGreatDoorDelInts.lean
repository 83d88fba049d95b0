/-
  slices.Clone of ints; slices.IndexFunc and slices.DeleteFunc of ints over conf.Drop's closure. Conditions: a row of the call's own; no more than a million.
-/
import Derived.Test.YtkbfcmkocgkdjaaGreatDoorDelP
import Derived.Test.YtkbfcmkocgkdjaaGreatDoorConfW
import Derived.Test.YtkbfcmkocgkdjaaGreatDoorClear
import Derived.Lib.BufferMore
namespace Go.Proofs.YtkbfcmkocgkdjaaGreatDoor
open Go Go.RowKit
attribute [local go_sem] cell_set_if

theorem cloneZ_any (w : World) (A : Option Addr) (n c : Nat) (ks : List Int) (hr : Rd w A (flatZ ks)) (hn : ks.length = n) (hm : n ≤ 1000000) :
    Calls Tryz.prog 33 #[.slice A n c] w fun e w' => (∃ B d, e = .returned (.slice B n d) ∧ w'.ownsRow w.heap.size 3 1 (.slice B n d) n (flatZ ks)) ∧ Below w.heap.size w w' := by
  cases A with
  | none =>
    have hx0 : flatZ ks = [] := by
      cases h : flatZ ks with
      | nil => rfl
      | cons b l => obtain ⟨ad, e, _⟩ := hr 0 b (by rw [h]; rfl); cases e
    have hn0 : n = 0 := by have := flatZ_len ks; rw [hx0] at this; rw [List.length_nil] at this; omega
    rw [hx0]
    subst hn0
    have he := Lib.run_eql_slice_nil_nil (P := Tryz.prog) w 0 c Tryz.underlying22
    clear hr hn hx0
    go_enter Tryz.func33, Tryz.ntmps33
    go_wp2
    go_ret
    exact ⟨⟨_, _, rfl, World.ownsRow_nil _ _ _ _⟩, Below.refl _ _⟩
  | some ad =>
    have he := Lib.run_eql_slice_some_nil (P := Tryz.prog) w ad n c Tryz.underlying22
    obtain ⟨i0, hi0, hz0, hz1, hz2⟩ := info_parts zinfo
    have hl := flatZ_len ks
    rw [hn] at hl
    have HX := Lib.hid hl
    have H1 := Lib.hid (flatZ_one ks)
    have HR := Lib.hid hr
    generalize flatZ ks = xs at *
    clear hn hl hr
    go_enter Tryz.func33, Tryz.ntmps33
    go_wp2_with (at_builtin
                 refine wpList_app rfl (.tmp 5) (.tmp 6) 22 rfl w.heap.size 3 i0 _ 1 8 Tryz.underlying22 hi0 hz0 hz1 hz2 rfl (by omega) (.slice (some ⟨w.heap.size, 0, none⟩) 0 0) 0 [] rfl (own_mt0 _ _ _) (some ad) n c xs rfl (HR.out.alloc _) HX.out H1.out (by unfold maxLen; omega) (by omega) (by simp) ?_
                 intro v2 w2 hown2 hg2 hb2 hat2
                 rw [Nat.zero_add, List.nil_append] at hown2
                 obtain ⟨A2, c2, rfl, hc2⟩ := own_form hown2)
    go_ret
    exact ⟨⟨_, _, rfl, hown2⟩, ((Below.refl _ _).alloc (Nat.le_refl _) _).trans hb2⟩

theorem dclos_any (x id : Int) (gk : Nat) (w : World) (hk : w.cell? ⟨gk, 0, none⟩ = some (.int .i64 id)) :
    Calls Tryz.prog 38 #[.int .i64 x, .pointer (some ⟨gk, 0, none⟩)] w fun e w' => e = .returned (.bool (x == id)) ∧ w' = w := by
  go_enter Tryz.func38, Tryz.ntmps38
  go_wp2
  go_ret
  exact ⟨rfl, rfl⟩

set_option maxRecDepth 100000 in
set_option maxHeartbeats 1000000 in
theorem ixfZ_any (A : Option Addr) (n c gk : Nat) (ks : List Int) (id : Int) (w : World) (hr : Rd w A (flatZ ks)) (hn : ks.length = n) (hk : w.cell? ⟨gk, 0, none⟩ = some (.int .i64 id)) (hm : n ≤ 1000000) :
    Calls Tryz.prog 86 #[.slice A n c, .func (.func 38) #[] #[.pointer (some ⟨gk, 0, none⟩)]] w fun e w' => e = .returned (.int .i64 (ixV (fun x => x == id) ks)) ∧ w' = w := by
  have HR := Lib.hid hr
  have HN := Lib.hid hn
  have hni : (n : Int) ≤ 1000000 := by omega
  have HC := Lib.hid fun x => dclos_any x id gk w hk
  clear hr hn hk
  go_enter Tryz.func86, Tryz.ntmps86
  go_wp2
  go_loopw [8] (fun u8 wr => ∃ k : Nat, k ≤ n ∧ u8 = .int .i64 k ∧ Hid (∀ (j : Nat) y, j < k → ks[j]? = some y → (y == id) = false) ∧ wr = w) (fun u8 _ => n - (intOf u8).toNat)
  case atStart => exact ⟨0, by omega, rfl, fun j y hj => by omega, rfl⟩
  case round =>
    obtain ⟨k, hkn, rfl, hno, rfl⟩ := hrel
    by_cases hlt : k < n
    · obtain ⟨b1, o1, x, rfl, _, hx, d0⟩ := HR.out.num (k := k) (by have := HN.out; omega)
      have hki : (k : Int) < (n : Int) := by omega
      have hcl := HC.out x
      obtain ⟨q, hq⟩ : ∃ q, q = (x == id) := ⟨_, rfl⟩
      rw [← hq] at hcl
      have HCL := Lib.hid hcl
      have HX := Lib.hid hx
      have HQ := Lib.hid hq
      clear hcl hq hx
      cases q
      · have HY : Hid (∀ (j : Nat) y, j < k + 1 → ks[j]? = some y → (y == id) = false) := fun j y hj hy => by
          by_cases e : j = k
          · subst e; rw [HX.out] at hy; rw [← Option.some.inj hy]; exact HQ.out.symm
          · exact hno.out j y (by omega) hy
        go_wp2_with (go_at_call 38; refine HCL.out.mono ?_; rintro e w2 ⟨rfl, hw2⟩; subst hw2)
        go_roundw
        case rel => exact ⟨k + 1, by omega, by go_num, HY, by first | rfl | trivial⟩
        case measure => simp [intOf]; omega
      · have HV : Hid (ixV (fun x => x == id) ks = (k : Int)) := ixV_at HX.out HQ.out.symm hno.out
        go_wp2_with (go_at_call 38; refine HCL.out.mono ?_; rintro e w2 ⟨rfl, hw2⟩; subst hw2)
        go_ret
        exact ⟨by (rw [HV.out]) <;> rfl, rfl⟩
    · obtain rfl : n = k := by omega
      have HV : Hid (ixV (fun x => x == id) ks = -1) := ixV_none fun x hx => by
        obtain ⟨j, hj⟩ := List.mem_iff_getElem?.1 hx
        exact hno.out j x (by have := (List.getElem?_eq_some_iff.1 hj).1; have := HN.out; omega) hj
      go_wp2
      go_ret
      exact ⟨by (rw [HV.out]) <;> rfl, rfl⟩
set_option maxRecDepth 100000 in
set_option maxHeartbeats 2000000 in
theorem delZ_any (base g n c gk : Nat) (ks : List Int) (id : Int) (w : World) (ho : w.ownsRow base 3 1 (.slice (some ⟨g, 0, none⟩) n c) n (flatZ ks)) (hn : ks.length = n) (hk : w.cell? ⟨gk, 0, none⟩ = some (.int .i64 id)) (hne : gk ≠ g) (hm : n ≤ 1000000) :
    Calls Tryz.prog 37 #[.slice (some ⟨g, 0, none⟩) n c, .func (.func 38) #[] #[.pointer (some ⟨gk, 0, none⟩)]] w fun e w' => ∃ m, m ≤ n ∧ (ks.filter fun x => !(x == id)).length = m ∧ e = .returned (.slice (some ⟨g, 0, none⟩) m c) ∧
      w'.ownsRow base 3 1 (.slice (some ⟨g, 0, none⟩) m c) m (flatZ (ks.filter fun x => !(x == id))) ∧ Frm (at1 g) w w' := by
  obtain ⟨i0, hi0, hz0, hz1, hz2⟩ := info_parts zinfo
  have hni : (n : Int) ≤ 1000000 := by omega
  have hI := ixfZ_any (some ⟨g, 0, none⟩) n c gk ks id w (Rd.of_own ho) hn hk hm
  have hnc : n ≤ c := by obtain ⟨A, d, e, h⟩ := own_form ho; injection e with e1 e2 e3; omega
  have hnci : (n : Int) ≤ (c : Int) := by omega
  have HN := Lib.hid hn
  by_cases hall : ∀ x ∈ ks, (x == id) = false
  · have hf : (ks.filter fun x => !(x == id)) = ks := by rw [List.filter_eq_self]; intro x hx; rw [hall x hx]; rfl
    rw [ixV_none hall] at hI
    rw [hf]
    have HI := Lib.hid hI
    clear hI hall hf hn
    go_enter Tryz.func37, Tryz.ntmps37
    go_wp2_with (go_at_call 86; refine HI.out.mono ?_; rintro e w2 ⟨rfl, hw2⟩; obtain rfl : w = w2 := hw2.symm)
    go_ret
    exact ⟨n, Nat.le_refl _, HN.out, rfl, ho, Frm.refl _ _⟩
  · obtain ⟨k, x, hx, hp, hno⟩ : ∃ (k : Nat) (x : Int), ks[k]? = some x ∧ (x == id) = true ∧ ∀ (j : Nat) y, j < k → ks[j]? = some y → (y == id) = false := by
      have he : (ks.findIdx? fun x => x == id).isSome = true := by
        rw [List.findIdx?_isSome]
        simp only [List.any_eq_true]
        apply Classical.byContradiction
        intro h
        apply hall
        intro x hx
        cases hxi : (x == id) with
        | false => rfl
        | true => exact absurd ⟨x, hx, hxi⟩ h
      obtain ⟨k, hk⟩ := Option.isSome_iff_exists.1 he
      rw [List.findIdx?_eq_some_iff_getElem] at hk
      obtain ⟨h1, h2, h3⟩ := hk
      refine ⟨k, ks[k], List.getElem?_eq_getElem h1, h2, fun j y hj hy => ?_⟩
      have h4 := h3 j hj
      rw [List.getElem?_eq_getElem (by omega)] at hy
      rw [← Option.some.inj hy]
      simpa using h4
    rw [ixV_at hx hp hno] at hI
    have HI := Lib.hid hI
    have hD := DelI.start (p := fun x => x == id) hx hp hno
    have hkn : k < n := by have := (List.getElem?_eq_some_iff.1 hx).1; omega
    have HD := Lib.hid hD
    have hk1 : ((k : Int) == -1) = false := by rw [beq_eq_false_iff_ne]; omega
    clear hI hD hx hp hno hn hall
    go_enter Tryz.func37, Tryz.ntmps37
    go_wp2_with (go_at_call 86; refine HI.out.mono ?_; rintro e w2 ⟨rfl, hw2⟩; obtain rfl : w = w2 := hw2.symm)
    go_loopw [5, 6] (fun u5 u6 wr => ∃ (i j : Nat) (cur : List Int), j ≤ n ∧ i < j ∧ u5 = .int .i64 i ∧ u6 = .int .i64 j ∧ Hid (DelI (fun x => x == id) ks cur i j) ∧ wr.ownsRow base 3 1 (.slice (some ⟨g, 0, none⟩) n c) n (flatZ cur) ∧ Frm (at1 g) w wr) (fun _ u6 _ => n - (intOf u6).toNat)
    case atStart => exact ⟨k, k + 1, ks, by omega, by omega, rfl, by go_num, HD, ho, Frm.refl _ _⟩
    case round =>
      obtain ⟨i, j, cur, hjn, hij, rfl, rfl, HD2, hO, hF⟩ := hrel
      clear HD
      have hkw : wr.cell? ⟨gk, 0, none⟩ = some (.int .i64 id) := (hF.cell (p := ⟨gk, 0, none⟩) (block_lt_of_cell hk) (show ¬ at1 g gk from fun e => hne e)).trans hk
      by_cases hlt : j < n
      · obtain ⟨x, hx⟩ : ∃ x, ks[j]? = some x := ⟨ks[j]'(by have := HN.out; omega), List.getElem?_eq_getElem _⟩
        have hcx : cur[j]? = some x := by rw [HD2.out.rest j (Nat.le_refl _)]; exact hx
        have cj : wr.cell? ⟨g, j, none⟩ = some (.int .i64 x) := by
          have := hO.cells (g := g) rfl j _ (flatZ_at cur j x hcx)
          rwa [add_flat, Nat.zero_add] at this
        have ci : ∃ y, wr.cell? ⟨g, i, none⟩ = some (.int .i64 y) := by
          have hil : i < cur.length := by have := HD2.out.len; have := HN.out; omega
          have := hO.cells (g := g) rfl i _ (flatZ_at cur i _ (List.getElem?_eq_getElem hil))
          rw [add_flat, Nat.zero_add] at this
          exact ⟨_, this⟩
        obtain ⟨y, ci⟩ := ci
        have fi := own_free hO i
        have hji : (j : Int) < (n : Int) := by omega
        have hii : (i : Int) < (n : Int) := by omega
        have hcl := dclos_any x id gk wr hkw
        obtain ⟨q, hq⟩ : ∃ q, q = (x == id) := ⟨_, rfl⟩
        rw [← hq] at hcl
        have HCL := Lib.hid hcl
        have HX := Lib.hid hx
        have HQ := Lib.hid hq
        clear hcl hq hx hcx
        cases q
        · have HK2 := Lib.hid (HD2.out.keep HX.out HQ.out.symm)
          go_wp2_with (go_at_call 38; refine HCL.out.mono ?_; rintro e w2 ⟨rfl, hw2⟩; subst hw2)
          go_roundw
          case rel =>
            refine ⟨i + 1, j + 1, cur.set i x, by omega, by omega, by go_num, by go_num, HK2, ?_, hF.setCell (p := ⟨g, i, none⟩) (fun _ => rfl) _⟩
            have := own_put (x := .int .i64 x) hO (p := i) (by omega)
            rwa [flatZ_map, ← List.map_set, ← flatZ_map] at this
          case measure => simp [intOf]; omega
        · have HK2 := Lib.hid (HD2.out.drop HX.out HQ.out.symm)
          go_wp2_with (go_at_call 38; refine HCL.out.mono ?_; rintro e w2 ⟨rfl, hw2⟩; subst hw2)
          go_roundw
          case rel => exact ⟨i, j + 1, cur, by omega, by omega, rfl, by go_num, HK2, hO, hF⟩
          case measure => simp [intOf]; omega
      · obtain rfl : n = j := by omega
        have hdone : cur.take i = ks.filter fun x => !(x == id) := by
          have := HD2.out
          rw [← HN.out] at this
          exact this.done
        have hil : (ks.filter fun x => !(x == id)).length = i := by
          rw [← hdone, List.length_take]; have := HD2.out.len; have := HN.out; omega
        obtain ⟨zs, hzs⟩ : ∃ zs : List Value, zs = List.replicate (n - i) (.int .i64 0) := ⟨_, rfl⟩
        have hcl2 := own_cleared (zs := zs) hO (i := i) (by omega) (by rw [hzs]; simp)
        have hclr : ∀ ty, (Builtin.clear_ #[22] ty #[.slice (some ⟨g, i, none⟩) (n - i) (c - i)]).run Tryz.prog wr = .ok (.tuple #[]) (wr.setCells g (i * 1) zs) := fun ty => by
          obtain ⟨cu, hB, _, _, _, hcs, _⟩ := own_open hO
          rw [Nat.mul_one]
          refine run_clear_sz wr _ _ ty (.int .i64 0) Tryz.underlying22 (by simp [zeroValue, typeInfo, hi0, hz0]) g i _ _ zs ?_ (by omega) (by intro u hu; rw [hzs] at hu; rw [List.eq_of_mem_replicate hu]; rfl) (fun t ht => ?_) (fun t _ => own_free hO _)
          · rw [hzs]; simp [Builtin.zeroCells, Value.cells, Nat.mod_one, List.map_const']
          · rw [hzs, List.length_replicate] at ht
            rw [hB.cell, Array.getElem?_eq_getElem (by omega)]; rfl
        have HO2 : Hid ((wr.setCells g (i * 1) zs).ownsRow base 3 1 (.slice (some ⟨g, 0, none⟩) i c) i (flatZ (ks.filter fun x => !(x == id)))) := by
          have := hcl2.1
          rw [flatZ_map, ← List.map_take, Nat.mul_one, hdone, ← flatZ_map] at this
          rw [Nat.mul_one]; exact this
        have HF2 := Lib.hid (hF.then_ hcl2.2)
        have HIL := Lib.hid hil
        have hin : (i : Int) ≤ (n : Int) := by omega
        have hin2 : i ≤ n := by omega
        have hic : i ≤ c := by omega
        clear hdone hil hzs hcl2
        have hci : ¬ (c = i) := by omega
        go_wp2_with ((at_builtin; (refine wpList_clear_run wr rfl (.tmp 38) 22 rfl _ rfl _ _ (hclr _) ?_)))
        go_ret
        exact ⟨i, hin2, HIL.out, rfl, by have := HO2.out; rwa [Nat.mul_one] at this, by have := HF2.out; rwa [Nat.mul_one] at this⟩
end Go.Proofs.YtkbfcmkocgkdjaaGreatDoor
