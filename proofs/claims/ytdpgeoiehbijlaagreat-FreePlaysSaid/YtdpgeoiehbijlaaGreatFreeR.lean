/-
  free.List's run: what it gives. Conditions: the list is in order.
-/
import Derived.Test.YtdpgeoiehbijlaaGreatFreeA
namespace Go.Proofs.YtdpgeoiehbijlaaGreat
open Go Go.RowKit
attribute [local go_sem] cell_set_if

def runI (l : List Int) (n : Nat) : Int := match runV l n with
  | none => -1
  | some i => i
theorem runAt_no {l : List Int} {n i : Nat} (h : l.length ≤ i + n - 1) : runAt l n i = false := by
  cases hr : runAt l n i with
  | false => rfl
  | true =>
    obtain ⟨a, b, _, hb, _⟩ := runAt_iff.1 hr
    have := (List.getElem?_eq_some_iff.1 hb).1
    omega
theorem runAt_eq {l : List Int} {n i : Nat} {a b : Int} (ha : l[i]? = some a) (hb : l[i + n - 1]? = some b) : runAt l n i = (b == a + (n : Int) - 1) := by unfold runAt; rw [ha, hb]

set_option maxRecDepth 100000 in
set_option maxHeartbeats 2000000 in
theorem frun_any (base g n : Nat) (s : Fs) (v1 v2 : Value) (w : World) (h : FreeAt w base g s v1 v2) (h1 : 1 ≤ n) (h2 : n ≤ 20) (hm : s.fr.length ≤ 4000) (hrg : ∀ x ∈ s.fr, 2 ≤ x ∧ x < 4000) :
    Calls Tryz.prog 30 #[.pointer (some ⟨g, 0, none⟩), .int .i64 (n : Int)] w fun e w' => e = .returned (.int .i64 (runI s.fr n)) ∧ Qt w w' := by
  obtain ⟨⟨A1, c1, hv1, hc1⟩, _⟩ := h.form
  obtain ⟨l, hl⟩ : ∃ l, l = s.fr := ⟨_, rfl⟩
  obtain ⟨m, hml⟩ : ∃ m, m = l.length := ⟨_, rfl⟩
  have HR : Hid (Rd w A1 (flatZ l)) := by
    have := h.o1
    rw [hv1, ← hl, ← hml] at this
    exact Rd.of_own this
  have hb1 : w.cell? ⟨g, 1, none⟩ = some (.slice A1 m c1) := by rw [h.blk.cell 1, hv1, ← hl, ← hml]; rfl
  rw [← hl] at hm hrg ⊢
  have HG := Lib.hid hrg
  clear hrg
  have HM := Lib.hid hml
  have hmi : (m : Int) ≤ 4000 := by omega
  have hni1 : (1 : Int) ≤ (n : Int) := by omega
  have hni2 : (n : Int) ≤ 20 := by omega
  clear h hv1 hl hml hc1
  go_enter Tryz.func30, Tryz.ntmps30
  go_wp2
  go_loopw [12] (fun u12 wr => ∃ k : Nat, k ≤ m ∧ u12 = .int .i64 k ∧ Hid (∀ j, j < k → runAt l n j = false) ∧ Qt w wr) (fun u12 _ => m - (intOf u12).toNat)
  case atStart => exact ⟨0, by omega, rfl, fun j hj => by omega, Qt.refl _⟩
  case round =>
    obtain ⟨k, hk, rfl, HK, hQ⟩ := hrel
    have hb2 : wr.cell? ⟨g, 1, none⟩ = some (.slice A1 m c1) := cell_b (hQ.below _) hb1
    by_cases hlt : k < m
    · obtain ⟨q, hq⟩ : ∃ q, q = k + n - 1 := ⟨_, rfl⟩
      have hqi : (k : Int) + (n : Int) - 1 = (q : Int) := by omega
      have hki : (k : Int) < (m : Int) := by omega
      have HQ := Lib.hid hq
      by_cases hqm : q < m
      · obtain ⟨b1, o1, a, rfl, _, ha, d0⟩ := (HR.out.below (hQ.below _)).num (k := k) (by have := HM.out; omega)
        obtain ⟨b2, o2, b, e2, _, hb, d1⟩ := (HR.out.below (hQ.below _)).num (k := q) (by have := HM.out; omega)
        injection e2 with e2
        injection e2 with e21 e22
        subst e21 e22
        have hra := runAt_eq (n := n) ha (by rw [← HQ.out]; exact hb)
        have hqmi : (q : Int) < (m : Int) := by omega
        have hq0 : (0 : Int) ≤ (q : Int) := by omega
        have hk0 : (0 : Int) ≤ (k : Int) := by omega
        have dq : decide ((q : Int) < (m : Int)) = true := decide_eq_true hqmi
        have dq2 : decide (q < m) = true := decide_eq_true hqm
        obtain ⟨ha1, ha2⟩ := HG.out a (List.mem_of_getElem? ha)
        obtain ⟨hb1', hb2'⟩ := HG.out b (List.mem_of_getElem? hb)
        have HRA := Lib.hid hra
        clear hq hra ha hb
        by_cases hbe : b = a + (n : Int) - 1
        · have HF : Hid (runI l n = (k : Int)) := by
            unfold Hid runI
            rw [runV_of (by rw [HRA.out, hbe]; simp) HK.out]
          clear HRA
          subst hbe
          go_wp2
          go_quiet (fail)
          go_wp2
          go_ret
          exact ⟨by (rw [HF.out]) <;> rfl, hQ.trans (Qt.drewN _ _)⟩
        · have HK2 : Hid (∀ j, j < k + 1 → runAt l n j = false) := fun j hj => by
            by_cases e : j = k
            · subst e; rw [HRA.out]; simpa using hbe
            · exact HK.out j (by omega)
          have de : decide (b = a + (n : Int) - 1) = false := decide_eq_false hbe
          have de2 : (b == a + (n : Int) - 1) = false := by simpa using hbe
          go_wp2
          go_quiet (fail)
          go_wp2
          go_roundw
          case rel => exact ⟨k + 1, by omega, by go_num, HK2, hQ.trans (Qt.drewN _ _)⟩
          case measure => simp [intOf]; omega
      · have hno := Lib.hid (runAt_no (l := l) (n := n) (i := k) (by have := HM.out; omega))
        have hqmi : (m : Int) ≤ (q : Int) := by omega
        have dq : decide ((q : Int) < (m : Int)) = false := decide_eq_false (by omega)
        have dq2 : decide (q < m) = false := decide_eq_false (by omega)
        have HK2 : Hid (∀ j, j < k + 1 → runAt l n j = false) := fun j hj => by
          by_cases e : j = k
          · subst e; exact hno.out
          · exact HK.out j (by omega)
        clear hq
        go_wp2
        go_quiet (fail)
        go_wp2
        go_roundw
        case rel => exact ⟨k + 1, by omega, by go_num, HK2, hQ.trans (Qt.drewN _ _)⟩
        case measure => simp [intOf]; omega
    · obtain rfl : m = k := by omega
      have HF : Hid (runI l n = -1) := by
        unfold Hid runI
        rw [runV_not fun i hi => HK.out i (by have := HM.out; omega)]
      go_wp2
      go_ret
      exact ⟨by (rw [HF.out]) <;> rfl, hQ⟩

end Go.Proofs.YtdpgeoiehbijlaaGreat
