/-
  Entries compared, where they tell the same: SameCmds, SameEntries, SameReq. Conditions: rows of no more than a hundred thousand.
-/
import Derived.Test.YtgigkekajdgngaaGreatEntsA
import Derived.BigQuiet
namespace Go.Proofs.YtgigkekajdgngaaGreat
open Go Go.RowKit
attribute [local go_sem] cell_set_if

set_option maxRecDepth 100000 in
set_option maxHeartbeats 4000000 in
theorem samecms_yes (A B : Option Addr) (n c d : Nat) (l : List Cm) (w : World) (ha : Rd w A (flatCm l)) (hb : Rd w B (flatCm l)) (hn : l.length = n) (hm : n ≤ 1000000) :
    Calls Tryz.prog 108 #[.slice A n c, .slice B n d] w fun e w' => e = .returned (.bool true) ∧ Qt w w' := by
  have HA := Lib.hid ha
  have HB := Lib.hid hb
  have HN := Lib.hid hn
  have hnn : (n : Int) ≤ 1000000 := by omega
  have hq : ((n : Int) != (n : Int)) = false := by simp
  clear ha hb hn
  go_enter Tryz.func108, Tryz.ntmps108
  go_wp2
  go_loopw [4, 5] (fun u4 u5 wr => ∃ k : Nat, k ≤ n ∧ u5 = .int .i64 k ∧ Qt w wr) (fun _ u5 _ => n - (intOf u5).toNat)
  case atStart => exact ⟨0, by omega, rfl, Qt.refl _⟩
  case round =>
    obtain ⟨k, hk, rfl, hQ⟩ := hrel
    have hqc : ∀ p, wr.cell? p = w.cell? p := fun p => by obtain ⟨m, rfl⟩ := hQ; rfl
    by_cases hlt : k < n
    · obtain ⟨b1, o1, x, rfl, _, hx, d0, d1, d2, d3, d4⟩ := HA.out.cm (k := k) (by have := HN.out; omega)
      obtain ⟨b2, o2, y, rfl, _, hy, e0, e1, e2, e3, e4⟩ := HB.out.cm (k := k) (by have := HN.out; omega)
      obtain rfl : y = x := Option.some.inj (hy.symm.trans hx)
      rw [← hqc] at d0 d1 d2 d3 d4 e0 e1 e2 e3 e4
      have hki : (k : Int) < (n : Int) := by omega
      have h0 : (y.kind == y.kind) = true := by simp
      have h1 : (y.path.toList == y.path.toList) = true := by simp
      have h2 : (y.key.toList == y.key.toList) = true := by simp
      have h3 : (y.val.toList == y.val.toList) = true := by simp
      have h4 : (y.old.toList == y.old.toList) = true := by simp
      clear hx hy hqc
      go_wp2
      go_quiet (fail)
      go_wp2
      go_roundw
      case rel => exact ⟨k + 1, by omega, by go_num, hQ.trans (Qt.drewN _ _)⟩
      case measure => simp [intOf]; omega
    · obtain rfl : k = n := by omega
      clear hqc
      go_wp2
      go_ret
      exact ⟨rfl, hQ⟩
theorem plE_at {xs ys : List En} (h : xs.map plE = ys.map plE) {k : Nat} {x y : En} (hx : xs[k]? = some x) (hy : ys[k]? = some y) : plE x = plE y := by
  have h1 : (xs.map plE)[k]? = some (plE x) := by rw [List.getElem?_map, hx]; rfl
  rw [h, List.getElem?_map, hy] at h1
  exact (Option.some.inj h1).symm
set_option maxRecDepth 100000 in
set_option maxHeartbeats 4000000 in
theorem sameens_yes (A B : Option Addr) (n c d : Nat) (xs ys : List En) (w : World) (ha : Rd w A (flatEn xs)) (hb : Rd w B (flatEn ys)) (hn : xs.length = n) (hm : n ≤ 1000000) (hp : xs.map plE = ys.map plE) (h1 : ∀ x ∈ xs, x.has w) (h2 : ∀ y ∈ ys, y.has w) :
    Calls Tryz.prog 48 #[.slice A n c, .slice B n d] w fun e w' => e = .returned (.bool true) ∧ Qt w w' := by
  have HA := Lib.hid ha
  have HB := Lib.hid hb
  have HN := Lib.hid hn
  have hn2 : ys.length = n := by have := congrArg List.length hp; simp only [List.length_map] at this; omega
  have HM := Lib.hid hn2
  have HP := Lib.hid hp
  have H1 := Lib.hid h1
  have H2 := Lib.hid h2
  have hnn : (n : Int) ≤ 1000000 := by omega
  have hq : ((n : Int) != (n : Int)) = false := by simp
  clear ha hb hn hn2 hp h1 h2
  go_enter Tryz.func48, Tryz.ntmps48
  dsimp only [List.append]
  go_wp2
  go_loopw [4, 5] (fun u4 u5 wr => ∃ k : Nat, k ≤ n ∧ u5 = .int .i64 k ∧ Qt w wr) (fun _ u5 _ => n - (intOf u5).toNat)
  case atStart => exact ⟨0, by omega, rfl, Qt.refl _⟩
  case round =>
    obtain ⟨k, hk, rfl, hQ⟩ := hrel
    have hqc : ∀ p, wr.cell? p = w.cell? p := fun p => by obtain ⟨m, rfl⟩ := hQ; rfl
    by_cases hlt : k < n
    · obtain ⟨b1, o1, x, rfl, _, hx, d0, d1, d2, d3, d4⟩ := HA.out.en (k := k) (by have := HN.out; omega)
      obtain ⟨b2, o2, y, rfl, _, hy, e0, e1, e2, e3, e4⟩ := HB.out.en (k := k) (by have := HM.out; omega)
      obtain ⟨p1, p2, p3, p4, p5, p6⟩ := plE_eq (plE_at HP.out hx hy)
      have hxh := H1.out x (List.mem_of_getElem? hx)
      have hyh := H2.out y (List.mem_of_getElem? hy)
      rw [← hqc] at d0 d1 d2 d3 d4 e0 e1 e2 e3 e4
      rw [← p1] at e0
      rw [← p2] at e1
      rw [← p3] at e2
      rw [← p4] at e3
      rw [← p5] at e4
      have hki : (k : Int) < (n : Int) := by omega
      have g0 : (x.index == x.index) = true := by simp
      have g1 : (x.term == x.term) = true := by simp
      have g2 : (x.client == x.client) = true := by simp
      have g3 : (x.seq == x.seq) = true := by simp
      have hS : ∀ m, Calls Tryz.prog 108 #[.slice x.A x.n x.c, .slice y.A x.n y.c] (wr.drewN m) fun e w' => e = .returned (.bool true) ∧ ∃ q, w' = (wr.drewN m).drewN q := fun m =>
        samecms_yes x.A y.A x.n x.c y.c x.cmds _ ((hxh.1.below (hQ.below _)).drewN m) (by rw [p6]; exact (hyh.1.below (hQ.below _)).drewN m) hxh.2.1 (by have := hxh.2.2; omega)
      have HS := Lib.hid hS
      clear hx hy hqc p1 p2 p3 p4 p5 p6 hxh hyh hS
      go_wp2
      go_quiet ((go_at_call 108; exact Calls.quiet_of (HS.out _)))
      go_wp2
      go_roundw
      case rel => exact ⟨k + 1, by omega, by go_num, hQ.trans (Qt.drewN _ _)⟩
      case measure => simp [intOf]; omega
    · obtain rfl : k = n := by omega
      clear hqc
      go_wp2
      go_ret
      exact ⟨rfl, hQ⟩
end Go.Proofs.YtgigkekajdgngaaGreat
