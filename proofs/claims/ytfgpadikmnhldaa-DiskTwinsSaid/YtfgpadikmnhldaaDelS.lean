/-
  slices.IndexFunc and slices.DeleteFunc of texts over List's closure. Conditions: a row of the call's own; no more than a million.
-/
import Derived.Test.YtfgpadikmnhldaaDelP
import Derived.Test.YtfgpadikmnhldaaDiskF
import Derived.Test.YtfgpadikmnhldaaClear
import Derived.Lib.BufferMore
namespace Go.Proofs.Ytfgpadikmnhldaa
open Go Go.RowKit
attribute [local go_sem] cell_set_if

/-- Does a text begin so? -/
def hasP (p s : ByteArray) : Bool := decide (p.size ≤ s.size) && decide (bts (s.extract 0 p.size) = bts p)
theorem hasP_nil (s : ByteArray) : hasP ⟨#[]⟩ s = true := by
  have e : s.extract 0 (ByteArray.mk #[]).size = ⟨#[]⟩ := by
    apply bts_inj
    rw [bts_extract]
    have : (ByteArray.mk #[]).size = 0 := rfl
    rw [this]; rfl
  unfold hasP
  rw [e]
  have : (ByteArray.mk #[]).size = 0 := rfl
  simp [this]
theorem prefixL_any (s p : ByteArray) (w : World) (hs : s.size ≤ 281474976710656) (_ : p.size ≤ 281474976710656) : Calls Try.prog 44 #[.string s, .string p] w fun e w' => e = .returned (.bool (hasP p s)) ∧ w' = w := by
  by_cases h : p.size ≤ s.size
  · have hi : (p.size : Int) ≤ (s.size : Int) := by omega
    have hs' : (s.size : Int) ≤ 281474976710656 := by omega
    have hV : hasP p s = ((s.extract 0 p.size).toList == p.toList) := by
      unfold hasP
      rw [decide_eq_true h, Bool.true_and, str_beq]
    obtain ⟨b, hb⟩ : ∃ b, b = ((s.extract 0 p.size).toList == p.toList) := ⟨_, rfl⟩
    rw [hV, ← hb]
    have HB := Lib.hid hb
    have hb2 := hb.symm
    clear hb hV
    go_enter Try.func44, Try.ntmps44
    go_wp2
    go_ret
    exact ⟨rfl, rfl⟩
  · have hi : (s.size : Int) < (p.size : Int) := by omega
    have hV : hasP p s = false := by unfold hasP; rw [decide_eq_false h]; rfl
    rw [hV]
    go_enter Try.func44, Try.ntmps44
    go_wp2
    go_ret
    exact ⟨rfl, rfl⟩
theorem prefix_any (s p : ByteArray) (w : World) (hs : s.size ≤ 281474976710656) (hp : p.size ≤ 281474976710656) : Calls Try.prog 31 #[.string s, .string p] w fun e w' => e = .returned (.bool (hasP p s)) ∧ w' = w := by
  have H := Lib.hid (prefixL_any s p w hs hp)
  go_enter Try.func31, Try.ntmps31
  go_wp2_with (go_at_call 44; (refine H.out.mono ?_); rintro e w2 ⟨rfl, hw⟩; obtain rfl := hw.symm)
  go_ret
  exact ⟨rfl, rfl⟩
theorem lclos_any (x p : ByteArray) (gk : Nat) (w : World) (hk : w.cell? ⟨gk, 0, none⟩ = some (.string p)) (hx : x.size ≤ 281474976710656) (hp : p.size ≤ 281474976710656) :
    Calls Try.prog 30 #[.string x, .pointer (some ⟨gk, 0, none⟩)] w fun e w' => e = .returned (.bool (!hasP p x)) ∧ w' = w := by
  have H := Lib.hid (prefix_any x p w hx hp)
  obtain ⟨b, hb⟩ : ∃ b, b = hasP p x := ⟨_, rfl⟩
  rw [← hb] at H ⊢
  clear hb hx hp
  go_enter Try.func30, Try.ntmps30
  go_wp2_with (go_at_call 31; (refine H.out.mono ?_); rintro e w2 ⟨rfl, hw⟩; obtain rfl := hw.symm)
  go_ret
  exact ⟨rfl, rfl⟩
theorem Rd.strAt {w : World} {A : Option Addr} {ks : List ByteArray} (h : Rd w A (strs ks)) {k : Nat} (hk : k < ks.length) : ∃ b o x, A = some ⟨b, o, none⟩ ∧ b < w.heap.size ∧ ks[k]? = some x ∧ w.cell? ⟨b, o + k, none⟩ = some (.string x) := by
  obtain ⟨x, hx⟩ : ∃ x, ks[k]? = some x := ⟨ks[k]'hk, List.getElem?_eq_getElem _⟩
  obtain ⟨b, o, e, hb, hc⟩ := h.flat (by rw [strs_len]; omega)
  exact ⟨b, o, x, e, hb, hx, hc _ _ (strs_at hx)⟩

set_option maxRecDepth 100000 in
set_option maxHeartbeats 1000000 in
theorem ixfS_any (A : Option Addr) (n c gk : Nat) (ks : List ByteArray) (id : ByteArray) (w : World) (hr : Rd w A (strs ks)) (hn : ks.length = n) (hk : w.cell? ⟨gk, 0, none⟩ = some (.string id)) (hm : n ≤ 1000000) (hS : ∀ x ∈ ks, x.size ≤ 281474976710656) (hP : id.size ≤ 281474976710656) :
    Calls Try.prog 40 #[.slice A n c, .func (.func 30) #[] #[.pointer (some ⟨gk, 0, none⟩)]] w fun e w' => e = .returned (.int .i64 (ixV (fun x => !hasP id x) ks)) ∧ w' = w := by
  have HR := Lib.hid hr
  have HN := Lib.hid hn
  have hni : (n : Int) ≤ 1000000 := by omega
  have HC := Lib.hid fun x hx => lclos_any x id gk w hk (hS x hx) hP
  clear hr hn hk hS hP
  go_enter Try.func40, Try.ntmps40
  go_wp2
  go_loopw [8] (fun u8 wr => ∃ k : Nat, k ≤ n ∧ u8 = .int .i64 k ∧ Hid (∀ (j : Nat) y, j < k → ks[j]? = some y → (!hasP id y) = false) ∧ wr = w) (fun u8 _ => n - (intOf u8).toNat)
  case atStart => exact ⟨0, by omega, rfl, fun j y hj => by omega, rfl⟩
  case round =>
    obtain ⟨k, hkn, rfl, hno, rfl⟩ := hrel
    by_cases hlt : k < n
    · obtain ⟨b1, o1, x, rfl, _, hx, d0⟩ := HR.out.strAt (k := k) (by have := HN.out; omega)
      have hki : (k : Int) < (n : Int) := by omega
      have hcl := HC.out x (List.mem_of_getElem? hx)
      obtain ⟨q, hq⟩ : ∃ q, q = (!hasP id x) := ⟨_, rfl⟩
      rw [← hq] at hcl
      have HCL := Lib.hid hcl
      have HX := Lib.hid hx
      have HQ := Lib.hid hq
      clear hcl hq hx
      cases q
      · have HY : Hid (∀ (j : Nat) y, j < k + 1 → ks[j]? = some y → (!hasP id y) = false) := fun j y hj hy => by
          by_cases e : j = k
          · subst e; rw [HX.out] at hy; rw [← Option.some.inj hy]; exact HQ.out.symm
          · exact hno.out j y (by omega) hy
        go_wp2_with (go_at_call 30; refine HCL.out.mono ?_; rintro e w2 ⟨rfl, hw2⟩; subst hw2)
        go_roundw
        case rel => exact ⟨k + 1, by omega, by go_num, HY, by first | rfl | trivial⟩
        case measure => simp [intOf]; omega
      · have HV : Hid (ixV (fun x => !hasP id x) ks = (k : Int)) := ixV_at HX.out HQ.out.symm hno.out
        go_wp2_with (go_at_call 30; refine HCL.out.mono ?_; rintro e w2 ⟨rfl, hw2⟩; subst hw2)
        go_ret
        exact ⟨by (rw [HV.out]) <;> rfl, rfl⟩
    · obtain rfl : n = k := by omega
      have HV : Hid (ixV (fun x => !hasP id x) ks = -1) := ixV_none fun x hx => by
        obtain ⟨j, hj⟩ := List.mem_iff_getElem?.1 hx
        exact hno.out j x (by have := (List.getElem?_eq_some_iff.1 hj).1; have := HN.out; omega) hj
      go_wp2
      go_ret
      exact ⟨by (rw [HV.out]) <;> rfl, rfl⟩
set_option maxRecDepth 100000 in
set_option maxHeartbeats 2000000 in
theorem delS_any (base g n c gk : Nat) (ks : List ByteArray) (id : ByteArray) (w : World) (ho : w.ownsRow base 9 1 (.slice (some ⟨g, 0, none⟩) n c) n (strs ks)) (hn : ks.length = n) (hk : w.cell? ⟨gk, 0, none⟩ = some (.string id)) (hne : gk ≠ g) (hm : n ≤ 1000000) (hS : ∀ x ∈ ks, x.size ≤ 281474976710656) (hP : id.size ≤ 281474976710656) :
    Calls Try.prog 27 #[.slice (some ⟨g, 0, none⟩) n c, .func (.func 30) #[] #[.pointer (some ⟨gk, 0, none⟩)]] w fun e w' => ∃ m, m ≤ n ∧ (ks.filter fun x => !(!hasP id x)).length = m ∧ e = .returned (.slice (some ⟨g, 0, none⟩) m c) ∧
      w'.ownsRow base 9 1 (.slice (some ⟨g, 0, none⟩) m c) m (strs (ks.filter fun x => !(!hasP id x))) ∧ Frm (at1 g) w w' := by
  obtain ⟨i0, hi0, hz0, hz1, hz2⟩ := info_parts strInfoD
  have hni : (n : Int) ≤ 1000000 := by omega
  have hI := ixfS_any (some ⟨g, 0, none⟩) n c gk ks id w (Rd.of_own ho) hn hk hm hS hP
  have hnc : n ≤ c := by obtain ⟨A, d, e, h⟩ := own_form ho; injection e with e1 e2 e3; omega
  have hnci : (n : Int) ≤ (c : Int) := by omega
  have HN := Lib.hid hn
  have HSS := Lib.hid hS
  have HPP := Lib.hid hP
  clear hS hP
  by_cases hall : ∀ x ∈ ks, (!hasP id x) = false
  · have hf : (ks.filter fun x => !(!hasP id x)) = ks := by rw [List.filter_eq_self]; intro x hx; rw [hall x hx]; rfl
    rw [ixV_none hall] at hI
    rw [hf]
    have HI := Lib.hid hI
    clear hI hall hf hn
    go_enter Try.func27, Try.ntmps27
    go_wp2_with (go_at_call 40; refine HI.out.mono ?_; rintro e w2 ⟨rfl, hw2⟩; obtain rfl : w = w2 := hw2.symm)
    go_ret
    exact ⟨n, Nat.le_refl _, HN.out, rfl, ho, Frm.refl _ _⟩
  · obtain ⟨k, x, hx, hp, hno⟩ : ∃ (k : Nat) (x : ByteArray), ks[k]? = some x ∧ (!hasP id x) = true ∧ ∀ (j : Nat) y, j < k → ks[j]? = some y → (!hasP id y) = false := by
      have he : (ks.findIdx? fun x => !hasP id x).isSome = true := by
        rw [List.findIdx?_isSome]
        simp only [List.any_eq_true]
        apply Classical.byContradiction
        intro h
        apply hall
        intro x hx
        cases hxi : (!hasP id x) with
        | false => rfl
        | true => exact absurd ⟨x, hx, hxi⟩ h
      obtain ⟨k, hk⟩ := Option.isSome_iff_exists.1 he
      rw [List.findIdx?_eq_some_iff_getElem] at hk
      obtain ⟨h1, h2, h3⟩ := hk
      refine ⟨k, ks[k], List.getElem?_eq_getElem h1, h2, fun j y hj hy => ?_⟩
      have h4 := h3 j hj
      rw [List.getElem?_eq_getElem (by omega)] at hy
      rw [← Option.some.inj hy]
      simpa using h4
    rw [ixV_at hx hp hno] at hI
    have HI := Lib.hid hI
    have hD := DelI.start (p := fun x => !hasP id x) hx hp hno
    have hkn : k < n := by have := (List.getElem?_eq_some_iff.1 hx).1; omega
    have HD := Lib.hid hD
    have hk1 : ((k : Int) == -1) = false := by rw [beq_eq_false_iff_ne]; omega
    clear hI hD hx hp hno hn hall
    go_enter Try.func27, Try.ntmps27
    go_wp2_with (go_at_call 40; refine HI.out.mono ?_; rintro e w2 ⟨rfl, hw2⟩; obtain rfl : w = w2 := hw2.symm)
    go_loopw [5, 6] (fun u5 u6 wr => ∃ (i j : Nat) (cur : List ByteArray), j ≤ n ∧ i < j ∧ u5 = .int .i64 i ∧ u6 = .int .i64 j ∧ Hid (DelI (fun x => !hasP id x) ks cur i j) ∧ wr.ownsRow base 9 1 (.slice (some ⟨g, 0, none⟩) n c) n (strs cur) ∧ Frm (at1 g) w wr) (fun _ u6 _ => n - (intOf u6).toNat)
    case atStart => exact ⟨k, k + 1, ks, by omega, by omega, rfl, by go_num, HD, ho, Frm.refl _ _⟩
    case round =>
      obtain ⟨i, j, cur, hjn, hij, rfl, rfl, HD2, hO, hF⟩ := hrel
      clear HD
      have hkw : wr.cell? ⟨gk, 0, none⟩ = some (.string id) := (hF.cell (p := ⟨gk, 0, none⟩) (block_lt_of_cell hk) (show ¬ at1 g gk from fun e => hne e)).trans hk
      by_cases hlt : j < n
      · obtain ⟨x, hx⟩ : ∃ x, ks[j]? = some x := ⟨ks[j]'(by have := HN.out; omega), List.getElem?_eq_getElem _⟩
        have hcx : cur[j]? = some x := by rw [HD2.out.rest j (Nat.le_refl _)]; exact hx
        have cj : wr.cell? ⟨g, j, none⟩ = some (.string x) := by
          have := hO.cells (g := g) rfl j _ (strs_at hcx)
          rwa [add_flat, Nat.zero_add] at this
        have ci : ∃ y, wr.cell? ⟨g, i, none⟩ = some (.string y) := by
          have hil : i < cur.length := by have := HD2.out.len; have := HN.out; omega
          have := hO.cells (g := g) rfl i _ (strs_at (List.getElem?_eq_getElem hil))
          rw [add_flat, Nat.zero_add] at this
          exact ⟨_, this⟩
        obtain ⟨y, ci⟩ := ci
        have fi := own_free hO i
        have hji : (j : Int) < (n : Int) := by omega
        have hii : (i : Int) < (n : Int) := by omega
        have hcl := lclos_any x id gk wr hkw (HSS.out x (List.mem_of_getElem? hx)) HPP.out
        obtain ⟨q, hq⟩ : ∃ q, q = (!hasP id x) := ⟨_, rfl⟩
        rw [← hq] at hcl
        have HCL := Lib.hid hcl
        have HX := Lib.hid hx
        have HQ := Lib.hid hq
        clear hcl hq hx hcx
        cases q
        · have HK2 := Lib.hid (HD2.out.keep HX.out HQ.out.symm)
          go_wp2_with (go_at_call 30; refine HCL.out.mono ?_; rintro e w2 ⟨rfl, hw2⟩; subst hw2)
          go_roundw
          case rel =>
            refine ⟨i + 1, j + 1, cur.set i x, by omega, by omega, by go_num, by go_num, HK2, ?_, hF.setCell (p := ⟨g, i, none⟩) (fun _ => rfl) _⟩
            have := own_put (x := .string x) hO (p := i) (by omega)
            rwa [strs_set] at this
          case measure => simp [intOf]; omega
        · have HK2 := Lib.hid (HD2.out.drop HX.out HQ.out.symm)
          go_wp2_with (go_at_call 30; refine HCL.out.mono ?_; rintro e w2 ⟨rfl, hw2⟩; subst hw2)
          go_roundw
          case rel => exact ⟨i, j + 1, cur, by omega, by omega, rfl, by go_num, HK2, hO, hF⟩
          case measure => simp [intOf]; omega
      · obtain rfl : n = j := by omega
        have hdone : cur.take i = ks.filter fun x => !(!hasP id x) := by
          have := HD2.out
          rw [← HN.out] at this
          exact this.done
        have hil : (ks.filter fun x => !(!hasP id x)).length = i := by
          rw [← hdone, List.length_take]; have := HD2.out.len; have := HN.out; omega
        obtain ⟨zs, hzs⟩ : ∃ zs : List Value, zs = List.replicate (n - i) (.string ByteArray.empty) := ⟨_, rfl⟩
        have hcl2 := own_cleared (zs := zs) hO (i := i) (by omega) (by rw [hzs]; simp)
        have hclr : ∀ ty, (Builtin.clear_ #[32] ty #[.slice (some ⟨g, i, none⟩) (n - i) (c - i)]).run Try.prog wr = .ok (.tuple #[]) (wr.setCells g (i * 1) zs) := fun ty => by
          obtain ⟨cu, hB, _, _, _, hcs, _⟩ := own_open hO
          rw [Nat.mul_one]
          refine run_clear_sz wr _ _ ty (.string ByteArray.empty) Try.underlying32 (by simp [zeroValue, typeInfo, hi0, hz0]) g i _ _ zs ?_ (by omega) (by intro u hu; rw [hzs] at hu; rw [List.eq_of_mem_replicate hu]; rfl) (fun t ht => ?_) (fun t _ => own_free hO _)
          · rw [hzs]; simp [Builtin.zeroCells, Value.cells, Nat.mod_one, List.map_const']
          · rw [hzs, List.length_replicate] at ht
            rw [hB.cell, Array.getElem?_eq_getElem (by omega)]; rfl
        have HO2 : Hid ((wr.setCells g (i * 1) zs).ownsRow base 9 1 (.slice (some ⟨g, 0, none⟩) i c) i (strs (ks.filter fun x => !(!hasP id x)))) := by
          have := hcl2.1
          rw [strs_take, Nat.mul_one, hdone] at this
          rw [Nat.mul_one]; exact this
        have HF2 := Lib.hid (hF.then_ hcl2.2)
        have HIL := Lib.hid hil
        have hin : (i : Int) ≤ (n : Int) := by omega
        have hin2 : i ≤ n := by omega
        have hic : i ≤ c := by omega
        clear hdone hil hzs hcl2
        have hci : ¬ (c = i) := by omega
        go_wp2_with ((at_builtin; (refine wpList_clear_run wr rfl (.tmp 38) 32 rfl _ rfl _ _ (hclr _) ?_)))
        go_ret
        exact ⟨i, hin2, HIL.out, rfl, by have := HO2.out; rwa [Nat.mul_one] at this, by have := HF2.out; rwa [Nat.mul_one] at this⟩
end Go.Proofs.Ytfgpadikmnhldaa
