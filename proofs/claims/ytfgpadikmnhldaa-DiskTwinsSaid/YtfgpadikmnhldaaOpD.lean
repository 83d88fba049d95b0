/-
  The disk laws' acts: how they lie in memory, Light, one act. Conditions: a row that can be read; a disk that is fine; ints that lie elsewhere.
-/
import Derived.Test.YtfgpadikmnhldaaDiskAlive
import Derived.Test.YtfgpadikmnhldaaDiskFine
import Derived.Test.YtfgpadikmnhldaaOne
import Derived.Deep.CutBlock
namespace Go.Proofs.Ytfgpadikmnhldaa
open Go Go.RowKit
attribute [local go_sem] cell_set_if

/-- Something that is done to a disk. -/
structure OpD where
  kind : Int
  s : ByteArray
  t : ByteArray
  a : Int
  b : Int
  own : Bool
  A : Option Addr
  n : Nat
  c : Nat
  l : List Int
deriving Inhabited
def OpD.cells (x : OpD) : List Value := [.int .i64 x.kind, .string x.s, .string x.t, .int .i64 x.a, .int .i64 x.b, .bool x.own, .slice x.A x.n x.c]
def flatD (L : List OpD) : List Value := L.flatMap OpD.cells
def OpD.fits (w : World) (x : OpD) : Prop := (-9223372036854775808 ≤ x.a ∧ x.a ≤ 9223372036854775807) ∧ Rd w x.A (flatZ x.l) ∧ x.l.length = x.n ∧ x.s.size ≤ maxLen ∧ x.t.size ≤ maxLen ∧ x.n ≤ maxLen
theorem flatD_len (L : List OpD) : (flatD L).length = L.length * 7 := flat_len OpD.cells (fun _ => rfl) L
theorem flatD_at (L : List OpD) (k : Nat) (x : OpD) (h : L[k]? = some x) (j : Nat) (v : Value) (hv : x.cells[j]? = some v) : (flatD L)[k * 7 + j]? = some v := flat_at OpD.cells (fun _ => rfl) L k x h j v hv
theorem Rd.opd {w : World} {A : Option Addr} {L : List OpD} (h : Rd w A (flatD L)) {k : Nat} (hk : k < L.length) : ∃ b o x, A = some ⟨b, o, none⟩ ∧ b < w.heap.size ∧ L[k]? = some x ∧ w.cell? ⟨b, o + k * 7, none⟩ = some (.int .i64 x.kind) ∧ w.cell? ⟨b, o + k * 7 + 1, none⟩ = some (.string x.s) ∧ w.cell? ⟨b, o + k * 7 + 2, none⟩ = some (.string x.t) ∧ w.cell? ⟨b, o + k * 7 + 3, none⟩ = some (.int .i64 x.a) ∧ w.cell? ⟨b, o + k * 7 + 4, none⟩ = some (.int .i64 x.b) ∧ w.cell? ⟨b, o + k * 7 + 5, none⟩ = some (.bool x.own) ∧ w.cell? ⟨b, o + k * 7 + 6, none⟩ = some (.slice x.A x.n x.c) := by
  obtain ⟨x, hx⟩ : ∃ x, L[k]? = some x := ⟨L[k]'hk, List.getElem?_eq_getElem _⟩
  obtain ⟨b, o, e, hb, hc⟩ := h.flat (by rw [flatD_len]; omega)
  refine ⟨b, o, x, e, hb, hx, ?_, ?_, ?_, ?_, ?_, ?_, ?_⟩
  · have := hc _ _ (flatD_at L k x hx 0 _ rfl); simpa using this
  all_goals rw [Nat.add_assoc]
  · exact hc _ _ (flatD_at L k x hx 1 _ rfl)
  · exact hc _ _ (flatD_at L k x hx 2 _ rfl)
  · exact hc _ _ (flatD_at L k x hx 3 _ rfl)
  · exact hc _ _ (flatD_at L k x hx 4 _ rfl)
  · exact hc _ _ (flatD_at L k x hx 5 _ rfl)
  · exact hc _ _ (flatD_at L k x hx 6 _ rfl)
def sumOp (x : OpD) : Nat := x.s.size + x.t.size + x.n
def sumD (L : List OpD) : Nat := (L.map sumOp).sum
theorem sumD_take (L : List OpD) (k : Nat) (x : OpD) (h : L[k]? = some x) : sumD (L.take (k + 1)) = sumD (L.take k) + sumOp x := by
  unfold sumD
  rw [List.take_add_one, h, List.map_append, List.sum_append]; simp
theorem sumD_mem {L : List OpD} {x : OpD} (h : x ∈ L) : sumOp x ≤ sumD L := by
  unfold sumD
  induction L with
  | nil => cases h
  | cons y L ih =>
    rcases List.mem_cons.1 h with rfl | h
    · simp
    · have := ih h; simp; omega
/-- A call tells something; if it is true, then this is so. -/
inductive TellsD (e : Ending) (p : Prop) : Prop
  | mk (b : Bool) (h : e = .returned (.bool b)) (k : b = true → p) : TellsD e p

set_option maxRecDepth 100000 in
set_option maxHeartbeats 2000000 in
theorem light4_any (A : Option Addr) (n c : Nat) (ks : List OpD) (w : World) (hr : Rd w A (flatD ks)) (hn : ks.length = n) :
    Calls Try.prog 4 #[.slice A n c] w fun e w' => TellsD e (n ≤ 60 ∧ sumD ks ≤ 6000) ∧ Below w.heap.size w w' := by
  have HR := Lib.hid hr
  have HN := Lib.hid hn
  clear hr hn
  go_enter Try.func4, Try.ntmps4
  go_wp2
  go_loopw [3, 4] (fun u3 u4 wr => ∃ (k : Nat) (t : Int), k ≤ n ∧ k ≤ 200 ∧ u4 = .int .i64 k ∧ u3 = .int .i64 t ∧ (t = -1 ∨ 0 ≤ t ∧ t = 6000 - (sumD (ks.take k) : Nat)) ∧ Below w.heap.size w wr) (fun _ u4 _ => 200 - (intOf u4).toNat)
  case atStart => exact ⟨0, 6000, by omega, by omega, rfl, rfl, .inr ⟨by omega, rfl⟩, Below.refl _ _⟩
  case round =>
    obtain ⟨k, t, hk, hk4, rfl, rfl, ht, hB⟩ := hrel
    have HT := Lib.hid ht
    clear ht
    by_cases hgo : k < n ∧ k < 200 ∧ 0 ≤ t
    · obtain ⟨hlt, h400, ht0⟩ := hgo
      obtain ⟨bb, o, x, rfl, hbb, hx, _, d1, d2, _, _, _, d6⟩ := HR.out.opd (k := k) (by have := HN.out; omega)
      have HST := Lib.hid (sumD_take ks k x hx)
      have hki : (k : Int) < (n : Int) := by omega
      have hk4i : (k : Int) < 200 := by omega
      have ht1 : t ≤ 6000 := by have := HT.out; omega
      have hb : Below wr.heap.size wr wr.drew := (Below.refl _ _).drew
      have e1 : wr.drew.cell? ⟨bb, o + k * 7 + 1, none⟩ = some (.string x.s) := cell_bb hB.drew hbb d1
      have e2 : wr.drew.cell? ⟨bb, o + k * 7 + 2, none⟩ = some (.string x.t) := cell_bb hB.drew hbb d2
      have e6 : wr.drew.cell? ⟨bb, o + k * 7 + 6, none⟩ = some (.slice x.A x.n x.c) := cell_bb hB.drew hbb d6
      have R0 : Rd (wr.drew.alloc (.cells #[.int .i64 x.s.size, .int .i64 x.t.size, .int .i64 x.n] 3)) (some ⟨wr.heap.size, 0, none⟩) (natsV [x.s.size, x.t.size, x.n]) := Rd.new _ _ _
      have hRoom := room_any (some ⟨wr.heap.size, 0, none⟩) 3 3 [x.s.size, x.t.size, x.n] t _ R0 rfl (by omega) (by omega) (by omega)
      have HRoom := Lib.hid hRoom
      have B1 := hB.drew.alloc hB.size (.cells #[.int .i64 x.s.size, .int .i64 x.t.size, .int .i64 x.n] 3)
      clear d1 d2 d6 hx hRoom R0 hb
      go_upto_region 5 with (fail)
      go_region_law (go_simp; go_at_call 14; refine HRoom.out.mono ?_; rintro e w1 ⟨⟨r, rfl, hrr⟩, hw1⟩; subst hw1)
      all_goals
        go_wp2
        go_roundw
        case rel => exact ⟨k + 1, r, by omega, by omega, by go_num, rfl, by
          have h1 := HT.out; have h2 := HST.out
          rcases hrr with h | ⟨h3, h4⟩
          · exact .inl h
          · refine .inr ⟨h3, ?_⟩
            simp at h4
            rw [h4, h2]
            have : t = 6000 - ((sumD (ks.take k) : Nat) : Int) := by omega
            unfold sumOp
            omega, B1⟩
        case measure => simp [intOf]; omega
    · have hex : (n ≤ k) ∨ (k < n ∧ 200 ≤ k) ∨ (k < n ∧ k < 200 ∧ t < 0) := by omega
      have HTK : Hid (n ≤ 60 → 0 ≤ t → n ≤ 60 ∧ sumD ks ≤ 6000) := fun h1 h2 => by
        have h3 := HT.out
        have h5 : k = n := by omega
        rw [h5, List.take_of_length_le (by have := HN.out; omega)] at h3
        exact ⟨h1, by omega⟩
      clear hgo
      by_cases h3 : n ≤ 60
      · have h3i : (n : Int) ≤ 60 := by omega
        by_cases h0 : 0 ≤ t
        · have hq : TellsD (.returned (.bool true)) (n ≤ 60 ∧ sumD ks ≤ 6000) := ⟨true, rfl, fun _ => HTK.out h3 h0⟩
          rcases hex with h | ⟨h, h'⟩ | ⟨h, h', h''⟩
          · go_wp2
            go_ret
            first | exact ⟨hq, hB⟩ | exact ⟨⟨_, rfl, fun h => by first | cases h | (simp at h; omega)⟩, hB⟩
          · omega
          · omega
        · have h0' : t < 0 := by omega
          rcases hex with h | ⟨h, h'⟩ | ⟨h, h', h''⟩
          · go_wp2
            go_ret
            exact ⟨⟨_, rfl, fun h => by first | cases h | (simp at h; omega)⟩, hB⟩
          · omega
          · go_wp2
            go_ret
            exact ⟨⟨_, rfl, fun h => by first | cases h | (simp at h; omega)⟩, hB⟩
      · have h3i : (60 : Int) < (n : Int) := by omega
        have hq : TellsD (.returned (.bool false)) (n ≤ 60 ∧ sumD ks ≤ 6000) := ⟨false, rfl, fun h => by cases h⟩
        rcases hex with h | ⟨h, h'⟩ | ⟨h, h', h''⟩
        · have hi : (n : Int) ≤ (k : Int) := by omega
          go_wp2
          go_ret
          first | exact ⟨hq, hB⟩ | exact ⟨⟨_, rfl, fun h => by first | cases h | (simp at h; omega)⟩, hB⟩
        · have hi : (200 : Int) ≤ (k : Int) := by omega
          have hi2 : (k : Int) < (n : Int) := by omega
          go_wp2
          go_ret
          first | exact ⟨hq, hB⟩ | exact ⟨⟨_, rfl, fun h => by first | cases h | (simp at h; omega)⟩, hB⟩
        · have hi : (k : Int) < 200 := by omega
          have hi2 : (k : Int) < (n : Int) := by omega
          go_wp2
          go_ret
          first | exact ⟨hq, hB⟩ | exact ⟨⟨_, rfl, fun h => by first | cases h | (simp at h; omega)⟩, hB⟩
end Go.Proofs.Ytfgpadikmnhldaa
