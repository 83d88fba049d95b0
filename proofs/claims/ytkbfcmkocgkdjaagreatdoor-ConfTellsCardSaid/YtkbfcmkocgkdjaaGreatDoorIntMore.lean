/-
  Lists of ints as rows of one cell each, and what SameInts gives. Condition: no more than a million.
-/
import Derived.Test.YtkbfcmkocgkdjaaGreatDoorRecP
import Derived.Test.YtkbfcmkocgkdjaaGreatDoorRoom
import Derived.Test.YtkbfcmkocgkdjaaGreatDoorPackPut
namespace Go.Proofs.YtkbfcmkocgkdjaaGreatDoor
open Go Go.RowKit
attribute [local go_sem] cell_set_if

theorem cell_b {w w' : World} {p : Addr} {v : Value} (hb : Below w.heap.size w w') (h : w.cell? p = some v) : w'.cell? p = some v := (hb.cell (block_lt_of_cell h)).trans h
theorem cell_bb {w w' : World} {B b o : Nat} {v : Value} (hb : Below B w w') (hB : b < B) (h : w.cell? ⟨b, o, none⟩ = some v) : w'.cell? ⟨b, o, none⟩ = some v := ((below_cells hb).1 b o hB).trans h
/-- One int's cell. -/
def zcells (x : Int) : List Value := [.int .i64 x]
def flatZ (ks : List Int) : List Value := ks.flatMap zcells
theorem flatZ_len (ks : List Int) : (flatZ ks).length = ks.length * 1 := flat_len zcells (fun _ => rfl) ks
theorem flatZ_at (ks : List Int) (k : Nat) (x : Int) (h : ks[k]? = some x) : (flatZ ks)[k]? = some (.int .i64 x) := by
  have := flat_at zcells (fun _ => rfl) ks k x h 0 _ rfl
  unfold flatZ
  simpa using this
theorem flatZ_one (ks : List Int) : ∀ u ∈ flatZ ks, u.oneCell' = true := flat_one zcells (fun x u hu => by unfold zcells at hu; simp at hu; subst hu; rfl) ks
theorem flatZ_map (ks : List Int) : flatZ ks = ks.map (Value.int .i64) := by
  unfold flatZ
  induction ks with
  | nil => rfl
  | cons x ks ih => rw [List.flatMap_cons, ih]; rfl
theorem Rd.num {w : World} {A : Option Addr} {ks : List Int} (h : Rd w A (flatZ ks)) {k : Nat} (hk : k < ks.length) : ∃ b o x, A = some ⟨b, o, none⟩ ∧ b < w.heap.size ∧ ks[k]? = some x ∧ w.cell? ⟨b, o + k, none⟩ = some (.int .i64 x) := by
  obtain ⟨x, hx⟩ : ∃ x, ks[k]? = some x := ⟨ks[k]'hk, List.getElem?_eq_getElem _⟩
  obtain ⟨b, o, e, hb, hc⟩ := h.flat (by rw [flatZ_len]; omega)
  exact ⟨b, o, x, e, hb, hx, hc _ _ (flatZ_at ks k x hx)⟩
theorem zinfo : (Tryz.prog.info? 3).map (fun i => (i.zero, i.size, i.bytes)) = some (some (.int .i64 0), 1, 8) := by kernel_rfl
set_option maxRecDepth 100000 in
set_option maxHeartbeats 1000000 in
theorem sameints_any (A B : Option Addr) (n m c d : Nat) (xs ys : List Int) (w : World) (ha : Rd w A (flatZ xs)) (hb : Rd w B (flatZ ys)) (hn : xs.length = n) (hm : ys.length = m) (hl : n ≤ 1000000) :
    Calls Tryz.prog 15 #[.slice A n c, .slice B m d] w fun e w' => TellsB e (xs = ys) ∧ Qt w w' := by
  have HA := Lib.hid ha
  have HB := Lib.hid hb
  have HN := Lib.hid hn
  have HM := Lib.hid hm
  have hnn : (n : Int) ≤ 1000000 := by omega
  clear ha hb hn hm
  by_cases hnm : n = m
  · subst hnm
    have hq : ((n : Int) != (n : Int)) = false := by simp
    go_enter Tryz.func15, Tryz.ntmps15
    go_wp2
    go_loopw [4, 5] (fun u4 u5 wr => ∃ k : Nat, k ≤ n ∧ u5 = .int .i64 k ∧ (∀ i, i < k → xs[i]? = ys[i]?) ∧ Qt w wr) (fun _ u5 _ => n - (intOf u5).toNat)
    case atStart => exact ⟨0, by omega, rfl, fun i h => by omega, Qt.refl _⟩
    case round =>
      obtain ⟨k, hk, rfl, hS, hQ⟩ := hrel
      have HS := Lib.hid hS
      have hqc : ∀ p, wr.cell? p = w.cell? p := fun p => by obtain ⟨m, rfl⟩ := hQ; rfl
      clear hS
      by_cases hlt : k < n
      · obtain ⟨b1, o1, x, rfl, _, hx, d0⟩ := HA.out.num (k := k) (by have := HN.out; omega)
        obtain ⟨b2, o2, y, rfl, _, hy, e0⟩ := HB.out.num (k := k) (by have := HM.out; omega)
        rw [← hqc] at d0 e0
        have HX := Lib.hid hx
        have HY := Lib.hid hy
        have hki : (k : Int) < (n : Int) := by omega
        clear hx hy hqc
        cases h1 : (x == y)
        · have HXY : Hid (¬ xs = ys) := fun h => by
            have h3 := HX.out
            have h4 := HY.out
            rw [h, h4] at h3
            injection h3 with h3
            subst h3
            simp at h1
          go_wp2
          go_quiet (fail)
          go_wp2
          go_ret
          exact ⟨⟨false, rfl, by simpa using HXY.out⟩, hQ.trans (Qt.drewN _ _)⟩
        · have hxy : x = y := by simpa using h1
          have HXY := Lib.hid hxy
          clear hxy
          go_wp2
          go_quiet (fail)
          go_wp2
          go_roundw
          case rel => exact ⟨k + 1, by omega, by go_num, fun i hi => by
            by_cases hc : i < k
            · exact HS.out i hc
            · obtain rfl : i = k := by omega
              rw [HX.out, HY.out, HXY.out], hQ.trans (Qt.drewN _ _)⟩
          case measure => simp [intOf]; omega
      · obtain rfl : k = n := by omega
        have HXY : Hid (xs = ys) := List.ext_getElem? fun i => by
          by_cases hc : i < k
          · exact HS.out i hc
          · rw [List.getElem?_eq_none (by have := HN.out; omega), List.getElem?_eq_none (by have := HM.out; omega)]
        clear hqc
        go_wp2
        go_ret
        exact ⟨⟨true, rfl, by simpa using HXY.out⟩, hQ⟩
  · have hq : ((n : Int) != (m : Int)) = true := by simp; omega
    have HXY : Hid (¬ xs = ys) := fun h => by have h1 := HN.out; have h2 := HM.out; rw [h] at h1; omega
    go_enter Tryz.func15, Tryz.ntmps15
    go_wp2
    go_ret
    exact ⟨⟨false, rfl, by simpa using HXY.out⟩, Qt.refl _⟩
end Go.Proofs.YtkbfcmkocgkdjaaGreatDoor
