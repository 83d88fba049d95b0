/-
  slices.IndexFunc and slices.ContainsFunc over what is pending. Conditions: no more than a million.
-/
import Derived.Test.YtdpgeoiehbijlaaGreatOne
namespace Go.Proofs.YtdpgeoiehbijlaaGreat
open Go Go.RowKit
attribute [local go_sem] cell_set_if

theorem hclos_any (x : Int × Int) (id : Int) (gk : Nat) (w : World) (hk : w.cell? ⟨gk, 0, none⟩ = some (.int .i64 id)) :
    Calls Tryz.prog 78 #[.agg #[.int .i64 x.1, .int .i64 x.2], .pointer (some ⟨gk, 0, none⟩)] w fun e w' => e = .returned (.bool (x.2 == id)) ∧ Below w.heap.size w w' := by
  have hl := block_lt_of_cell hk
  go_enter Tryz.func78, Tryz.ntmps78
  go_wp2
  go_ret
  exact ⟨rfl, (Below.refl _ _).alloc (Nat.le_refl _) _⟩

set_option maxRecDepth 100000 in
set_option maxHeartbeats 1000000 in
theorem ixfH_any (A : Option Addr) (n c gk : Nat) (ks : List (Int × Int)) (id : Int) (w : World) (hr : Rd w A (flatP ks)) (hn : ks.length = n) (hk : w.cell? ⟨gk, 0, none⟩ = some (.int .i64 id)) (hm : n ≤ 1000000) :
    Calls Tryz.prog 81 #[.slice A n c, .func (.func 78) #[] #[.pointer (some ⟨gk, 0, none⟩)]] w fun e w' => e = .returned (.int .i64 (ixV (fun x => x.2 == id) ks)) ∧ Below w.heap.size w w' := by
  have HR := Lib.hid hr
  have HN := Lib.hid hn
  have HH := Lib.hid hk
  have hni : (n : Int) ≤ 1000000 := by omega
  clear hr hn hk
  go_enter Tryz.func81, Tryz.ntmps81
  go_wp2
  go_loopw [8] (fun u8 wr => ∃ k : Nat, k ≤ n ∧ u8 = .int .i64 k ∧ Hid (∀ (j : Nat) y, j < k → ks[j]? = some y → (y.2 == id) = false) ∧ Below w.heap.size w wr) (fun u8 _ => n - (intOf u8).toNat)
  case atStart => exact ⟨0, by omega, rfl, fun j y hj => by omega, Below.refl _ _⟩
  case round =>
    obtain ⟨k, hkn, rfl, hno, hB⟩ := hrel
    have HB := Lib.hid hB
    clear hB
    by_cases hlt : k < n
    · obtain ⟨b1, o1, x, rfl, _, hx, d0, d1⟩ := (HR.out.below (HB.out)).pair (k := k) (by have := HN.out; omega)
      have hki : (k : Int) < (n : Int) := by omega
      have hkk := cell_b HB.out HH.out
      have hcl := hclos_any x id gk wr hkk
      obtain ⟨q, hq⟩ : ∃ q, q = (x.2 == id) := ⟨_, rfl⟩
      rw [← hq] at hcl
      have HCL := Lib.hid hcl
      have HX := Lib.hid hx
      have HQ := Lib.hid hq
      clear hcl hq hx hkk
      cases q
      · have HY : Hid (∀ (j : Nat) y, j < k + 1 → ks[j]? = some y → (y.2 == id) = false) := fun j y hj hy => by
          by_cases e : j = k
          · subst e; rw [HX.out] at hy; rw [← Option.some.inj hy]; exact HQ.out.symm
          · exact hno.out j y (by omega) hy
        go_wp2_with (go_at_call 78; refine HCL.out.mono ?_; rintro e w2 ⟨rfl, b2⟩; have B2 := Lib.hid b2; clear b2)
        go_roundw
        case rel => exact ⟨k + 1, by omega, by go_num, HY, HB.out.trans (B2.out.mono HB.out.size)⟩
        case measure => simp [intOf]; omega
      · have HV : Hid (ixV (fun x => x.2 == id) ks = (k : Int)) := ixV_at HX.out HQ.out.symm hno.out
        go_wp2_with (go_at_call 78; refine HCL.out.mono ?_; rintro e w2 ⟨rfl, b2⟩; have B2 := Lib.hid b2; clear b2)
        go_ret
        exact ⟨by (rw [HV.out]) <;> rfl, HB.out.trans (B2.out.mono HB.out.size)⟩
    · obtain rfl : n = k := by omega
      have HV : Hid (ixV (fun x => x.2 == id) ks = -1) := ixV_none fun x hx => by
        obtain ⟨j, hj⟩ := List.mem_iff_getElem?.1 hx
        exact hno.out j x (by have := (List.getElem?_eq_some_iff.1 hj).1; have := HN.out; omega) hj
      go_wp2
      go_ret
      exact ⟨by (rw [HV.out]) <;> rfl, HB.out⟩
theorem ixV_any {α : Type} (p : α → Bool) (ks : List α) : decide ((0 : Int) ≤ ixV p ks) = ks.any p := by
  unfold ixV
  cases h : ks.findIdx? p with
  | none =>
    rw [List.findIdx?_eq_none_iff] at h
    have : ks.any p = false := by rw [List.any_eq_false]; intro x hx; rw [h x hx]; simp
    rw [this]; rfl
  | some i =>
    have : ks.any p = true := by
      have hs : (ks.findIdx? p).isSome = true := by rw [h]; rfl
      rwa [List.findIdx?_isSome] at hs
    rw [this]; exact decide_eq_true (by show (0 : Int) ≤ (i : Int); omega)
set_option maxRecDepth 100000 in
theorem cfH_any (A : Option Addr) (n c gk : Nat) (ks : List (Int × Int)) (id : Int) (w : World) (hr : Rd w A (flatP ks)) (hn : ks.length = n) (hk : w.cell? ⟨gk, 0, none⟩ = some (.int .i64 id)) (hm : n ≤ 1000000) :
    Calls Tryz.prog 77 #[.slice A n c, .func (.func 78) #[] #[.pointer (some ⟨gk, 0, none⟩)]] w fun e w' => e = .returned (.bool (ks.any fun x => x.2 == id)) ∧ Below w.heap.size w w' := by
  have hI := ixfH_any A n c gk ks id w hr hn hk hm
  have hA := ixV_any (fun x : Int × Int => x.2 == id) ks
  obtain ⟨z, hz⟩ : ∃ z, z = ixV (fun x : Int × Int => x.2 == id) ks := ⟨_, rfl⟩
  rw [← hz] at hI hA
  have HI := Lib.hid hI
  have HA := Lib.hid hA
  clear hI hA hz hr hn hk
  go_enter Tryz.func77, Tryz.ntmps77
  go_wp2_with (go_at_call 81; refine HI.out.mono ?_; rintro e w1 ⟨rfl, b1⟩)
  go_ret
  exact ⟨by (rw [← HA.out]) <;> rfl, b1⟩
end Go.Proofs.YtdpgeoiehbijlaaGreat
