/-
  What can be a command: Valid, its closure, ContainsFunc over it. Conditions: texts no longer than memory holds.
-/
import Derived.Test.YtgigkekajdgngaaGreatMtOne
import Derived.Test.YtgigkekajdgngaaGreatDelP
namespace Go.Proofs.YtgigkekajdgngaaGreat
open Go Go.RowKit
attribute [local go_sem] cell_set_if

def Cm.v (x : Cm) : Value := .agg #[.int .i64 x.kind, .string x.path, .string x.key, .string x.val, .string x.old]
def Cm.short (x : Cm) : Prop := x.path.size ≤ maxLen ∧ x.key.size ≤ maxLen ∧ x.val.size ≤ maxLen ∧ x.old.size ≤ maxLen
theorem Cm.fits.short {x : Cm} (h : x.fits) : x.short := h.2
set_option maxRecDepth 100000 in
theorem valid_any (x : Cm) (w : World) (hs : x.short) : Calls Tryz.prog 139 #[x.v] w fun e w' => e = .returned (.bool (validC x)) ∧ Below w.heap.size w w' := by
  obtain ⟨kind, path, key, val, old⟩ := x
  obtain ⟨p, hp⟩ : ∃ p : Nat, p = path.size := ⟨_, rfl⟩
  obtain ⟨q, hq⟩ : ∃ q : Nat, q = key.size := ⟨_, rfl⟩
  obtain ⟨v, hv⟩ : ∃ v : Nat, v = val.size := ⟨_, rfl⟩
  obtain ⟨o, ho⟩ : ∃ o : Nat, o = old.size := ⟨_, rfl⟩
  obtain ⟨s1, s2, s3, s4⟩ := hs
  simp only [] at s1 s2 s3 s4
  unfold maxLen at s1 s2 s3 s4
  have hV : validC ⟨kind, path, key, val, old⟩ = (decide (1 ≤ kind) && decide (kind ≤ 9) && decide ((path.size : Int) ≤ 140) && decide (max (max (key.size : Int) val.size) old.size ≤ 3000)) := by
    rw [Bool.eq_iff_iff]
    simp only [validC, Bool.and_eq_true, decide_eq_true_eq]
    omega
  rw [hV]
  clear hV
  have ba : Below w.heap.size w (w.alloc (.cells #[.int .i64 kind, .string path, .string key, .string val, .string old] 117)) := (Below.refl _ _).alloc (Nat.le_refl _) _
  unfold Cm.v
  go_enter Tryz.func139, Tryz.ntmps139
  by_cases k1 : 1 ≤ kind
  · rw [decide_eq_true k1, Bool.true_and]
    by_cases k2 : kind ≤ 9
    · rw [decide_eq_true k2, Bool.true_and]
      by_cases k3 : (path.size : Int) ≤ 140
      · rw [decide_eq_true k3, Bool.true_and]
        have d1 : decide (1 ≤ kind) = true := decide_eq_true k1
        have d2 : decide (kind ≤ 9) = true := decide_eq_true k2
        have d3 : decide ((path.size : Int) ≤ 140) = true := decide_eq_true k3
        go_wp2
        all_goals go_ret
        all_goals exact ⟨congrArg (fun b => Ending.returned (.bool b)) (decide_eq_decide.2 (by omega)), ba⟩
      · rw [decide_eq_false k3, Bool.false_and]
        have d1 : decide (1 ≤ kind) = true := decide_eq_true k1
        have d2 : decide (kind ≤ 9) = true := decide_eq_true k2
        have d3 : decide ((path.size : Int) ≤ 140) = false := decide_eq_false k3
        go_wp2
        go_ret
        exact ⟨rfl, ba⟩
    · rw [decide_eq_false k2, Bool.false_and, Bool.false_and]
      have d1 : decide (1 ≤ kind) = true := decide_eq_true k1
      have d2 : decide (kind ≤ 9) = false := decide_eq_false k2
      go_wp2
      go_ret
      exact ⟨rfl, ba⟩
  · rw [decide_eq_false k1, Bool.false_and, Bool.false_and, Bool.false_and]
    have d1 : decide (1 ≤ kind) = false := decide_eq_false k1
    go_wp2
    go_ret
    exact ⟨rfl, ba⟩
theorem vclos_any (x : Cm) (w : World) (hs : x.short) : Calls Tryz.prog 138 #[x.v] w fun e w' => e = .returned (.bool (!validC x)) ∧ Below w.heap.size w w' := by
  have ba : Below w.heap.size w (w.alloc (.cells #[.int .i64 x.kind, .string x.path, .string x.key, .string x.val, .string x.old] 117)) := (Below.refl _ _).alloc (Nat.le_refl _) _
  have HV := Lib.hid fun W => valid_any x W hs
  obtain ⟨b, hb⟩ : ∃ b, b = validC x := ⟨_, rfl⟩
  rw [← hb] at HV ⊢
  clear hb
  unfold Cm.v at HV ⊢
  go_enter Tryz.func138, Tryz.ntmps138
  go_wp2_with (go_at_call 139; refine (HV.out _).mono ?_; rintro e w2 ⟨rfl, b2⟩)
  go_ret
  exact ⟨rfl, ba.trans (b2.mono ba.size)⟩
set_option maxRecDepth 100000 in
set_option maxHeartbeats 1000000 in
theorem ixfC_any (A : Option Addr) (n c : Nat) (ks : List Cm) (w : World) (hr : Rd w A (flatCm ks)) (hn : ks.length = n) (hm : n ≤ maxLen) (hS : ∀ x ∈ ks, x.short) :
    Calls Tryz.prog 142 #[.slice A n c, .func (.func 138) #[] #[]] w fun e w' => e = .returned (.int .i64 (ixV (fun x => !validC x) ks)) ∧ Below w.heap.size w w' := by
  have HR := Lib.hid hr
  have HN := Lib.hid hn
  have HS := Lib.hid hS
  have hni : (n : Int) ≤ 9223372036854775807 := by unfold maxLen at hm; omega
  clear hr hn hS
  go_enter Tryz.func142, Tryz.ntmps142
  go_wp2
  go_loopw [8] (fun u8 wr => ∃ k : Nat, k ≤ n ∧ u8 = .int .i64 k ∧ Hid (∀ (j : Nat) y, j < k → ks[j]? = some y → (!validC y) = false) ∧ Hid (Below w.heap.size w wr)) (fun u8 _ => n - (intOf u8).toNat)
  case atStart => exact ⟨0, by omega, rfl, fun j y hj => by omega, Below.refl _ _⟩
  case round =>
    obtain ⟨k, hkn, rfl, hno, HB⟩ := hrel
    by_cases hlt : k < n
    · obtain ⟨b1, o1, x, rfl, _, hx, d0, d1, d2, d3, d4⟩ := (HR.out.below HB.out).cm (k := k) (by have := HN.out; omega)
      have hki : (k : Int) < (n : Int) := by omega
      have hcl := vclos_any x wr (HS.out x (List.mem_of_getElem? hx))
      obtain ⟨q, hq⟩ : ∃ q, q = (!validC x) := ⟨_, rfl⟩
      rw [← hq] at hcl
      unfold Cm.v at hcl
      have HCL := Lib.hid hcl
      have HX := Lib.hid hx
      have HQ := Lib.hid hq
      clear hcl hq hx
      cases q
      · have HY : Hid (∀ (j : Nat) y, j < k + 1 → ks[j]? = some y → (!validC y) = false) := fun j y hj hy => by
          by_cases e : j = k
          · subst e; rw [HX.out] at hy; rw [← Option.some.inj hy]; exact HQ.out.symm
          · exact hno.out j y (by omega) hy
        go_wp2_with (go_at_call 138; refine HCL.out.mono ?_; rintro e w2 ⟨rfl, b2⟩; have B2 := Lib.hid b2; clear b2)
        go_roundw
        case rel => exact ⟨k + 1, by omega, by go_num, HY, HB.out.trans (B2.out.mono HB.out.size)⟩
        case measure => simp [intOf]; omega
      · have HV : Hid (ixV (fun x => !validC x) ks = (k : Int)) := ixV_at HX.out HQ.out.symm hno.out
        go_wp2_with (go_at_call 138; refine HCL.out.mono ?_; rintro e w2 ⟨rfl, b2⟩; have B2 := Lib.hid b2; clear b2)
        go_ret
        exact ⟨by (rw [HV.out]) <;> rfl, HB.out.trans (B2.out.mono HB.out.size)⟩
    · obtain rfl : n = k := by omega
      have HV : Hid (ixV (fun x => !validC x) ks = -1) := ixV_none fun x hx => by
        obtain ⟨j, hj⟩ := List.mem_iff_getElem?.1 hx
        exact hno.out j x (by have := (List.getElem?_eq_some_iff.1 hj).1; have := HN.out; omega) hj
      go_wp2
      go_ret
      exact ⟨by (rw [HV.out]) <;> rfl, HB.out⟩
theorem ixV_any {ks : List Cm} : decide (0 ≤ ixV (fun x => !validC x) ks) = !(ks.all validC) := by
  unfold ixV
  cases h : ks.findIdx? fun x => !validC x with
  | none =>
    have h1 := List.findIdx?_eq_none_iff.1 h
    have h2 : ks.all validC = true := List.all_eq_true.2 fun x hx => by have := h1 x hx; simpa using this
    rw [h2]; rfl
  | some i =>
    obtain ⟨hi, hp, _⟩ := List.findIdx?_eq_some_iff_getElem.1 h
    have h2 : ks.all validC = false := by
      rw [List.all_eq_false]
      exact ⟨ks[i], List.getElem_mem hi, by simpa using hp⟩
    rw [h2]
    show decide (0 ≤ (i : Int)) = true
    exact decide_eq_true (by omega)
theorem hasC_any (A : Option Addr) (n c : Nat) (ks : List Cm) (w : World) (hr : Rd w A (flatCm ks)) (hn : ks.length = n) (hm : n ≤ maxLen) (hS : ∀ x ∈ ks, x.short) :
    Calls Tryz.prog 137 #[.slice A n c, .func (.func 138) #[] #[]] w fun e w' => e = .returned (.bool (!(ks.all validC))) ∧ Below w.heap.size w w' := by
  have H := ixfC_any A n c ks w hr hn hm hS
  obtain ⟨i, hi⟩ : ∃ i, i = ixV (fun x => !validC x) ks := ⟨_, rfl⟩
  have hD := @ixV_any ks
  rw [← hi] at H hD
  rw [← hD]
  have HC := Lib.hid H
  clear H hD hi hr hn hm hS
  go_enter Tryz.func137, Tryz.ntmps137
  go_wp2_with (go_at_call 142; refine HC.out.mono ?_; rintro e w2 ⟨rfl, b2⟩)
  go_ret
  exact ⟨rfl, b2⟩
end Go.Proofs.YtgigkekajdgngaaGreat
