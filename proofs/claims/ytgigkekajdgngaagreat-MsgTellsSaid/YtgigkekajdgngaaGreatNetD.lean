/-
  The net's Cut, and whether two ends are cut from each other. Conditions: few ends are cut.
-/
import Derived.Test.YtgigkekajdgngaaGreatNetB
import Derived.Test.YtgigkekajdgngaaGreatNetA
namespace Go.Proofs.YtgigkekajdgngaaGreat
open Go Go.RowKit
attribute [local go_sem] cell_set_if

def isT (a b : Int) (x : Ct) : Bool := (x.a == a) && (x.b == b)
theorem ixT_any (p : Ct → Bool) (ks : List Ct) : decide ((0 : Int) ≤ ixV p ks) = ks.any p := by
  unfold ixV
  cases h : ks.findIdx? p with
  | none =>
    rw [List.findIdx?_eq_none_iff] at h
    have : ks.any p = false := by rw [List.any_eq_false]; intro x hx; rw [h x hx]; simp
    rw [this]; rfl
  | some i =>
    have hi : (ks.findIdx? p).isSome = true := by rw [h]; rfl
    rw [List.findIdx?_isSome] at hi
    rw [hi]; simp
set_option maxRecDepth 100000 in
set_option maxHeartbeats 1000000 in
theorem tindex_any (A : Option Addr) (n c : Nat) (ks : List Ct) (ea eb : Int) (w : World) (hr : Rd w A (flatT ks)) (hn : ks.length = n) (hm : n ≤ 1000000) :
    Calls Tryz.prog 125 #[.slice A n c, .agg #[.int .i64 ea, .int .i64 eb]] w fun e w' => e = .returned (.int .i64 (ixV (isT ea eb) ks)) ∧ Below w.heap.size w w' := by
  have ba : Below w.heap.size w (w.alloc (.cells #[.int .i64 ea, .int .i64 eb] 123)) := (Below.refl _ _).alloc (Nat.le_refl _) _
  have HR := Lib.hid (hr.below ba)
  have HN := Lib.hid hn
  have K := Blk.new w 123 #[.int .i64 ea, .int .i64 eb]
  have k0 : (w.alloc (.cells #[.int .i64 ea, .int .i64 eb] 123)).cell? ⟨w.heap.size, 0, none⟩ = some (.int .i64 ea) := K.cell 0
  have k1 : (w.alloc (.cells #[.int .i64 ea, .int .i64 eb] 123)).cell? ⟨w.heap.size, 1, none⟩ = some (.int .i64 eb) := K.cell 1
  have hni : (n : Int) ≤ 1000000 := by omega
  have HBA := Lib.hid ba
  clear hr hn ba K
  go_enter Tryz.func125, Tryz.ntmps125
  go_upto_region 1 with fail
  generalize w.alloc (.cells #[.int .i64 ea, .int .i64 eb] 123) = W at HR HBA k0 k1 ⊢
  obtain ⟨gx, hgx⟩ : ∃ gx, gx = w.heap.size := ⟨_, rfl⟩
  rw [← hgx] at k0 k1 ⊢
  have HG := Lib.hid hgx
  clear hgx
  go_wp2
  go_loopw [8] (fun u8 wr => ∃ k : Nat, k ≤ n ∧ u8 = .int .i64 k ∧ Hid (∀ (j : Nat) y, j < k → ks[j]? = some y → isT ea eb y = false) ∧ Hid (Below W.heap.size W wr)) (fun u8 _ => n - (intOf u8).toNat)
  case atStart => exact ⟨0, by omega, rfl, fun j y hj => by omega, Below.refl _ _⟩
  case round =>
    obtain ⟨k, hkn, rfl, hno, HB⟩ := hrel
    have q0 := cell_b HB.out k0
    have q1 := cell_b HB.out k1
    by_cases hlt : k < n
    · obtain ⟨b1, o1, x, rfl, _, hx, d0, d1⟩ := (HR.out.below (HB.out)).ct (k := k) (by have := HN.out; omega)
      have hki : (k : Int) < (n : Int) := by omega
      obtain ⟨q, hq⟩ : ∃ q : Bool, q = isT ea eb x := ⟨_, rfl⟩
      have he : ∀ W : World, (Op.equalIn 10000 123 (.agg #[.int .i64 ea, .int .i64 eb]) (.agg #[.int .i64 x.a, .int .i64 x.b])).run Tryz.prog W = .ok q W := fun W => by
        rw [run_eqin_two, hq]; unfold isT
        rw [show (x.a == ea) = (ea == x.a) by rw [Bool.eq_iff_iff]; simp; omega, show (x.b == eb) = (eb == x.b) by rw [Bool.eq_iff_iff]; simp; omega]
      have HX := Lib.hid hx
      have HQ := Lib.hid hq
      clear hq hx k0 k1
      cases q
      · have HY : Hid (∀ (j : Nat) y, j < k + 1 → ks[j]? = some y → isT ea eb y = false) := fun j y hj hy => by
          by_cases e : j = k
          · subst e; rw [HX.out] at hy; rw [← Option.some.inj hy]; exact HQ.out.symm
          · exact hno.out j y (by omega) hy
        go_wp2
        go_quiet (fail)
        go_wp2
        go_roundw
        case rel => exact ⟨k + 1, by omega, by go_num, HY, below_drewN HB.out _⟩
        case measure => simp [intOf]; omega
      · have HV : Hid (ixV (isT ea eb) ks = (k : Int)) := ixV_at HX.out HQ.out.symm hno.out
        go_wp2
        go_quiet (fail)
        go_wp2
        go_ret
        exact ⟨by (rw [HV.out]) <;> rfl, HBA.out.trans ((below_drewN HB.out _).mono (by have := HG.out; have := HBA.out.size; omega))⟩
    · obtain rfl : n = k := by omega
      have HV : Hid (ixV (isT ea eb) ks = -1) := ixV_none fun x hx => by
        obtain ⟨j, hj⟩ := List.mem_iff_getElem?.1 hx
        exact hno.out j x (by have := (List.getElem?_eq_some_iff.1 hj).1; have := HN.out; omega) hj
      clear k0 k1
      go_wp2
      go_ret
      exact ⟨by (rw [HV.out]) <;> rfl, HBA.out.trans (HB.out.mono (by have := HG.out; have := HBA.out.size; omega))⟩
theorem tcontains_any (A : Option Addr) (n c : Nat) (ks : List Ct) (ea eb : Int) (w : World) (hr : Rd w A (flatT ks)) (hn : ks.length = n) (hm : n ≤ 1000000) :
    Calls Tryz.prog 85 #[.slice A n c, .agg #[.int .i64 ea, .int .i64 eb]] w fun e w' => e = .returned (.bool (ks.any (isT ea eb))) ∧ Below w.heap.size w w' := by
  have ba : Below w.heap.size w (w.alloc (.cells #[.int .i64 ea, .int .i64 eb] 123)) := (Below.refl _ _).alloc (Nat.le_refl _) _
  have HI := Lib.hid (tindex_any A n c ks ea eb _ (hr.below ba) hn hm)
  obtain ⟨q, hq⟩ : ∃ q, q = ixV (isT ea eb) ks := ⟨_, rfl⟩
  have hx := ixT_any (isT ea eb) ks
  rw [← hq] at hx
  rw [← hx]
  have HI2 := HI.out
  rw [← hq] at HI2
  have HI3 := Lib.hid HI2
  have HBA := Lib.hid ba
  clear HI HI2 hx hq hr hn ba
  go_enter Tryz.func85, Tryz.ntmps85
  go_wp2_with (go_at_call 125; refine HI3.out.mono ?_; rintro e w2 ⟨rfl, b2⟩)
  go_ret
  exact ⟨rfl, HBA.out.trans (b2.mono HBA.out.size)⟩
/-- Ends cut from each other, or not. -/
def cutT (c : List Ct) (t : Ct) (on : Bool) : List Ct := (c.filter fun x => !isT t.a t.b x) ++ (if on then [t] else [])
theorem cutT_len (c : List Ct) (t : Ct) (on : Bool) : (cutT c t on).length ≤ c.length + 1 := by
  unfold cutT
  rw [List.length_append]
  have := List.length_filter_le (fun x => !isT t.a t.b x) c
  cases on <;> simp <;> omega
end Go.Proofs.YtgigkekajdgngaaGreat
