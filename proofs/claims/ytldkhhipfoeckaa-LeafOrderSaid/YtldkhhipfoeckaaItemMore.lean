/-
  Few and short items (Light), items that are the same, and the first call of the leaf laws. Condition: no more items than a million.
-/
import Derived.Test.YtldkhhipfoeckaaItemFind
import Derived.Test.YtldkhhipfoeckaaItemRead
import Derived.Test.YtldkhhipfoeckaaRoom
namespace Go.Proofs.Ytldkhhipfoeckaa
open Go Go.RowKit
attribute [local go_sem] cell_set_if

/-- A call tells something; if it is true, then this is so. -/
inductive TellsI (e : Ending) (p : Prop) : Prop
  | mk (b : Bool) (h : e = .returned (.bool b)) (k : b = true → p) : TellsI e p

set_option maxRecDepth 100000 in
set_option maxHeartbeats 1000000 in
theorem light9_any (A : Option Addr) (n c : Nat) (ks : List Im) (w : World) (hr : Rd w A (flatI ks)) (hn : ks.length = n) :
    Calls Try.prog 54 #[.slice A n c] w fun e w' => TellsI e (n ≤ 300 ∧ sumI ks ≤ 6000) ∧ Below w.heap.size w w' := by
  have HR := Lib.hid hr
  have HN := Lib.hid hn
  clear hr hn
  go_enter Try.func54, Try.ntmps54
  go_wp2
  go_loopw [3, 4] (fun u3 u4 wr => ∃ (k : Nat) (t : Int), k ≤ n ∧ k ≤ 400 ∧ u4 = .int .i64 k ∧ u3 = .int .i64 t ∧ (t = -1 ∨ 0 ≤ t ∧ t = 6000 - (sumI (ks.take k) : Nat)) ∧ Below w.heap.size w wr) (fun _ u4 _ => 400 - (intOf u4).toNat)
  case atStart => exact ⟨0, 6000, by omega, by omega, rfl, rfl, .inr ⟨by omega, rfl⟩, Below.refl _ _⟩
  case round =>
    obtain ⟨k, t, hk, hk4, rfl, rfl, ht, hB⟩ := hrel
    have HT := Lib.hid ht
    clear ht
    by_cases hgo : k < n ∧ k < 400 ∧ 0 ≤ t
    · obtain ⟨hlt, h400, ht0⟩ := hgo
      obtain ⟨bb, o, x, rfl, hbb, hx, d0, d1, _⟩ := HR.out.item (k := k) (by have := HN.out; omega)
      have c0 := cell_bb hB hbb d0
      have c1 := cell_bb hB hbb d1
      have HST := Lib.hid (sumI_take ks k x hx)
      have hki : (k : Int) < (n : Int) := by omega
      have hk4i : (k : Int) < 400 := by omega
      have ht1 : t ≤ 6000 := by have := HT.out; omega
      have R0 : Rd (wr.drew.alloc (.cells #[.int .i64 5, .int .i64 x.key.size, .int .i64 x.val.size] 3)) (some ⟨wr.heap.size, 0, none⟩) (natsV [5, x.key.size, x.val.size]) := Rd.new _ _ _
      have hRoom := room_any (some ⟨wr.heap.size, 0, none⟩) 3 3 [5, x.key.size, x.val.size] t _ R0 rfl (by omega) (by omega) (by omega)
      have HRoom := Lib.hid hRoom
      have B1 := hB.drew.alloc hB.drew.size (.cells #[.int .i64 5, .int .i64 x.key.size, .int .i64 x.val.size] 3)
      have A0 : wr.drew.cell? ⟨bb, o + k * 3, none⟩ = some (.string x.key) ∧ wr.drew.cell? ⟨bb, o + k * 3 + 1, none⟩ = some (.string x.val) := ⟨c0, c1⟩
      have A1 : (wr.drew.alloc (.cells #[.int .i64 5, .int .i64 x.key.size, .int .i64 x.val.size] 3)).cell? ⟨bb, o + k * 3, none⟩ = some (.string x.key) ∧ (wr.drew.alloc (.cells #[.int .i64 5, .int .i64 x.key.size, .int .i64 x.val.size] 3)).cell? ⟨bb, o + k * 3 + 1, none⟩ = some (.string x.val) := ⟨cell_b ((Below.refl _ _).alloc (Nat.le_refl _) _) A0.1, cell_b ((Below.refl _ _).alloc (Nat.le_refl _) _) A0.2⟩
      clear d0 d1 hx hRoom R0
      go_wp2
      go_region_held3 (fun w' => w'.cell? ⟨bb, o + k * 3, none⟩ = some (.string x.key) ∧ w'.cell? ⟨bb, o + k * 3 + 1, none⟩ = some (.string x.val))
        (first | exact A0 | exact A1 | with_reducible assumption)
        (first | (go_at_call 116; refine HRoom.out.mono ?_; rintro e w1 ⟨⟨r, rfl, hrr⟩, hw1⟩; subst hw1))
      go_wp2
      go_roundw
      case rel => exact ⟨k + 1, r, by omega, by omega, by go_num, rfl, by
        have h1 := HT.out; have h2 := HST.out
        rcases hrr with h | ⟨h3, h4⟩
        · exact .inl h
        · refine .inr ⟨h3, ?_⟩
          simp at h4
          rw [h4, h2]
          have : t = 6000 - ((sumI (ks.take k) : Nat) : Int) := by omega
          omega, B1⟩
      case measure => simp [intOf]; omega
    · have hex : (n ≤ k) ∨ (k < n ∧ 400 ≤ k) ∨ (k < n ∧ k < 400 ∧ t < 0) := by omega
      have HTK : Hid (n ≤ 300 → 0 ≤ t → n ≤ 300 ∧ sumI ks ≤ 6000) := fun h1 h2 => by
        have h3 := HT.out
        have h5 : k = n := by omega
        rw [h5, List.take_of_length_le (by have := HN.out; omega)] at h3
        exact ⟨h1, by omega⟩
      clear hgo
      by_cases h3 : n ≤ 300
      · have h3i : (n : Int) ≤ 300 := by omega
        by_cases h0 : 0 ≤ t
        · have hq : TellsI (.returned (.bool true)) (n ≤ 300 ∧ sumI ks ≤ 6000) := ⟨true, rfl, fun _ => HTK.out h3 h0⟩
          rcases hex with h | ⟨h, h'⟩ | ⟨h, h', h''⟩
          · go_wp2
            go_ret
            exact ⟨hq, hB⟩
          · omega
          · omega
        · have h0' : t < 0 := by omega
          rcases hex with h | ⟨h, h'⟩ | ⟨h, h', h''⟩
          · go_wp2
            go_ret
            exact ⟨⟨_, rfl, fun h => by first | cases h | (simp at h; omega)⟩, hB⟩
          · omega
          · have hki : (k : Int) < (n : Int) := by omega
            have hk4i : (k : Int) < 400 := by omega
            go_wp2
            go_ret
            exact ⟨⟨_, rfl, fun h => by first | cases h | (simp at h; omega)⟩, hB⟩
      · have h3i : (300 : Int) < (n : Int) := by omega
        rcases hex with h | ⟨h, h'⟩ | ⟨h, h', h''⟩
        · go_wp2
          go_ret
          exact ⟨⟨_, rfl, fun h => by first | cases h | (simp at h; omega)⟩, hB⟩
        · have hki : (k : Int) < (n : Int) := by omega
          have hk4i : (400 : Int) ≤ (k : Int) := by omega
          go_wp2
          go_ret
          exact ⟨⟨_, rfl, fun h => by first | cases h | (simp at h; omega)⟩, hB⟩
        · have hki : (k : Int) < (n : Int) := by omega
          have hk4i : (k : Int) < 400 := by omega
          go_wp2
          go_ret
          exact ⟨⟨_, rfl, fun h => by first | cases h | (simp at h; omega)⟩, hB⟩
theorem im_ext {x y : Im} (h1 : x.key = y.key) (h3 : x.val = y.val) (h2 : x.kind = y.kind) : x = y := by cases x; cases y; simp_all
set_option maxRecDepth 100000 in
set_option maxHeartbeats 1000000 in
theorem sameitems_any (A B : Option Addr) (n m c d : Nat) (xs ys : List Im) (w : World) (ha : Rd w A (flatI xs)) (hb : Rd w B (flatI ys)) (hn : xs.length = n) (hm : ys.length = m) (hl : n ≤ 1000000) :
    Calls Try.prog 63 #[.slice A n c, .slice B m d] w fun e w' => TellsB e (xs = ys) ∧ Qt w w' := by
  have HA := Lib.hid ha
  have HB := Lib.hid hb
  have HN := Lib.hid hn
  have HM := Lib.hid hm
  have hnn : (n : Int) ≤ 1000000 := by omega
  clear ha hb hn hm
  by_cases hnm : n = m
  · subst hnm
    have hq : ((n : Int) != (n : Int)) = false := by simp
    go_enter Try.func63, Try.ntmps63
    go_wp2
    go_loopw [4, 5] (fun u4 u5 wr => ∃ k : Nat, k ≤ n ∧ u5 = .int .i64 k ∧ (∀ i, i < k → xs[i]? = ys[i]?) ∧ Qt w wr) (fun _ u5 _ => n - (intOf u5).toNat)
    case atStart => exact ⟨0, by omega, rfl, fun i h => by omega, Qt.refl _⟩
    case round =>
      obtain ⟨k, hk, rfl, hS, hQ⟩ := hrel
      have HS := Lib.hid hS
      have hqc : ∀ p, wr.cell? p = w.cell? p := fun p => by obtain ⟨m, rfl⟩ := hQ; rfl
      clear hS
      by_cases hlt : k < n
      · obtain ⟨b1, o1, x, rfl, _, hx, d0, d1, d2⟩ := HA.out.item (k := k) (by have := HN.out; omega)
        obtain ⟨b2, o2, y, rfl, _, hy, e0, e1, e2⟩ := HB.out.item (k := k) (by have := HM.out; omega)
        rw [← hqc] at d0 d1 d2 e0 e1 e2
        have HX := Lib.hid hx
        have HY := Lib.hid hy
        have hki : (k : Int) < (n : Int) := by omega
        clear hx hy hqc
        cases h1 : (x.key.toList == y.key.toList) <;> cases h3 : (x.val.toList == y.val.toList) <;> cases h2 : (x.kind == y.kind)
        case true.true.true =>
          have hxy : x = y := im_ext (by rw [str_beq] at h1; exact bts_inj (by simpa using h1)) (by rw [str_beq] at h3; exact bts_inj (by simpa using h3)) (by simpa using h2)
          have HXY := Lib.hid hxy
          clear hxy
          go_wp2
          go_quiet (fail)
          go_wp2
          go_roundw
          case rel => exact ⟨k + 1, by omega, by go_num, fun i hi => by
            by_cases hc : i < k
            · exact HS.out i hc
            · obtain rfl : i = k := by omega
              rw [HX.out, HY.out, HXY.out], hQ.trans (Qt.drewN _ _)⟩
          case measure => simp [intOf]; omega
        all_goals
          have HXY : Hid (¬ xs = ys) := fun h => by
            have h3 := HX.out
            have h4 := HY.out
            rw [h, h4] at h3
            injection h3 with h3
            subst h3
            simp at h1 h2 h3
          go_wp2
          go_quiet (fail)
          go_wp2
          go_ret
          exact ⟨⟨false, rfl, by simpa using HXY.out⟩, hQ.trans (Qt.drewN _ _)⟩
      · obtain rfl : k = n := by omega
        have HXY : Hid (xs = ys) := List.ext_getElem? fun i => by
          by_cases hc : i < k
          · exact HS.out i hc
          · rw [List.getElem?_eq_none (by have := HN.out; omega), List.getElem?_eq_none (by have := HM.out; omega)]
        clear hqc
        go_wp2
        go_ret
        exact ⟨⟨true, rfl, by simpa using HXY.out⟩, hQ⟩
  · have hq : ((n : Int) != (m : Int)) = true := by simp; omega
    have HXY : Hid (¬ xs = ys) := fun h => by have h1 := HN.out; have h2 := HM.out; rw [h] at h1; omega
    go_enter Try.func63, Try.ntmps63
    go_wp2
    go_ret
    exact ⟨⟨false, rfl, by simpa using HXY.out⟩, Qt.refl _⟩
end Go.Proofs.Ytldkhhipfoeckaa
