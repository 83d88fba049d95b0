/-
  The law's Fill: a sector of some bytes. No condition.
-/
import Derived.Test.YtfgpadikmnhldaaDiskO
import Derived.Laws.MakeOwn
import Derived.Laws.OwnMore
namespace Go.Proofs.Ytfgpadikmnhldaa
open Go Go.RowKit
attribute [local go_sem] cell_set_if

def fillB (s : ByteArray) (i : Nat) : UInt8 := (bts s).getD (i % s.size) 0
def fillG (N : Nat) (s : ByteArray) (k : Nat) : List UInt8 := (List.range N).map fun i => if i < k then fillB s i else 0
theorem fillG_len (N : Nat) (s : ByteArray) (k : Nat) : (fillG N s k).length = N := by simp [fillG]
theorem fillG_zero (N : Nat) (s : ByteArray) : fillG N s 0 = List.replicate N 0 := by
  refine List.ext_getElem? fun i => ?_
  simp only [fillG, List.getElem?_map, List.getElem?_replicate]
  by_cases h : i < N
  · rw [List.getElem?_range h, if_pos h]; rfl
  · rw [List.getElem?_eq_none (by rw [List.length_range]; omega), if_neg h]; rfl
theorem fillG_set (N : Nat) (s : ByteArray) {k : Nat} (hk : k < N) : (fillG N s k).set k (fillB s k) = fillG N s (k + 1) := by
  refine List.ext_getElem? fun i => ?_
  rw [List.getElem?_set]
  by_cases e : k = i
  · subst e
    rw [if_pos rfl, if_pos (by rw [fillG_len]; exact hk)]
    simp only [fillG, List.getElem?_map]
    rw [List.getElem?_range hk]
    simp
  · rw [if_neg e]
    simp only [fillG, List.getElem?_map]
    by_cases h : i < N
    · rw [List.getElem?_range h]
      simp only [Option.map_some]
      by_cases h2 : i < k
      · rw [if_pos h2, if_pos (by omega)]
      · rw [if_neg h2, if_neg (by omega)]
    · rw [List.getElem?_eq_none (by rw [List.length_range]; omega)]; rfl
def fillN (s : ByteArray) (k : Nat) : List UInt8 := fillG 256 s k
/-- A sector of the bytes of s, again and again. -/
def fillS (s : ByteArray) : ByteArray := bs (fillN s 256)
theorem fillN_len (s : ByteArray) (k : Nat) : (fillN s k).length = 256 := fillG_len _ _ _
theorem fillS_size (s : ByteArray) : (fillS s).size = 256 := by unfold fillS; rw [bs_size, fillN_len]
theorem fillN_zero (s : ByteArray) : fillN s 0 = List.replicate 256 0 := fillG_zero _ _
theorem fillN_set (s : ByteArray) {k : Nat} (hk : k < 256) : (fillN s k).set k (fillB s k) = fillN s (k + 1) := fillG_set _ _ hk
theorem fillN_none (s : ByteArray) (h : s.size = 0) (k k' : Nat) : fillN s k = fillN s k' := by
  have hb : ∀ i, fillB s i = 0 := fun i => by
    have : bts s = [] := by have := bts_len s; rw [h] at this; exact List.eq_nil_of_length_eq_zero this
    unfold fillB; rw [this]; rfl
  unfold fillN fillG
  refine List.map_congr_left fun i _ => ?_
  rw [hb, ite_self, ite_self]
theorem fillB_at (s : ByteArray) (k : Nat) (h : k % s.size < s.size) : s[k % s.size] = fillB s k := by
  unfold fillB
  rw [List.getD_eq_getElem?_getD]
  have h2 : (bts s)[k % s.size]? = some s[k % s.size] := by
    unfold bts
    rw [Array.getElem?_toList]
    exact Array.getElem?_eq_getElem h
  rw [h2]; rfl
set_option maxRecDepth 100000 in
set_option maxHeartbeats 2000000 in
theorem fill_any (s : ByteArray) (own : Bool) (w : World) :
    Calls Try.prog 15 #[.string s, .bool own] w fun e w' => e = .returned (.string (if own then fillS s else s)) ∧ Below w.heap.size w w' := by
  cases own
  · go_enter Try.func15, Try.ntmps15
    go_wp2
    go_ret
    exact ⟨rfl, Below.refl _ _⟩
  · obtain ⟨i0, hi, hz0, hz1, hz2⟩ := info_parts u8infoT
    obtain ⟨M, hM⟩ : ∃ M, M = madeCells (Value.int .u8 0).cells ((256 : Int).toNat * i0.size) := ⟨_, rfl⟩
    have hMl : M.toList = u8s (fillN s 0) := by rw [hM, hz1, fillN_zero]; show (madeCells #[Value.int .u8 0] (256 * 1)).toList = _; rw [toList_madeCells_one]; simp only [u8s, List.map_replicate]; rfl
    have hmk : ∀ W : World, (Instr.makeSlice 68 (.int .i64 256) (.int .i64 256)).run Try.prog W = .ok (.slice (some ⟨W.heap.size, 0, none⟩) 256 256) (W.alloc (.cells M 5)) := fun W => by
      have h := run_make (P := Try.prog) W 68 5 i0 (.int .u8 0) Try.underlying68 hi hz0 .i64 .i64 256 256 (by omega) (by omega) (by rw [hz2]; omega) (by omega)
      rw [← hM] at h
      simpa using h
    have hb0 : Below w.heap.size w (w.alloc (.cells M 5)) := (Below.refl _ _).alloc (Nat.le_refl _) _
    have hM2 : M = (u8s (fillN s 0)).toArray := by rw [← hMl, Array.toArray_toList]
    have K0 : Blk (w.alloc (.cells M 5)) w.heap.size 5 (u8s (fillN s 0)).toArray := (congrArg (fun X => Blk (w.alloc (.cells M 5)) w.heap.size 5 X) hM2).mp (Blk.new w 5 M)
    have HK0 := Lib.hid K0
    have HB0 := Lib.hid hb0
    have HM2 := Lib.hid hM2
    clear hM hMl hM2 K0 hb0
    obtain ⟨n, hn⟩ : ∃ n, s.size = n := ⟨_, rfl⟩
    go_enter Try.func15, Try.ntmps15
    go_wp2
    go_loopw [6, 13] (fun _ u13 wr => ∃ k : Nat, k ≤ 256 ∧ u13 = .int .i64 k ∧ Hid (Blk wr w.heap.size 5 (u8s (fillN s k)).toArray) ∧ Hid (Below w.heap.size w wr)) (fun _ u13 _ => 256 - (intOf u13).toNat)
    case atStart => exact ⟨0, by omega, rfl, HK0.out, HB0.out⟩
    case round =>
      obtain ⟨k, hk, rfl, HK, HB⟩ := hrel
      by_cases hlt : k < 256
      · have hki : (k : Int) < 256 := by omega
        by_cases h0 : s.size = 0
        · have h0i : (s.size : Int) = 0 := by omega
          have HN := Lib.hid (fillN_none s h0 k (k + 1))
          clear hn h0
          go_wp2
          go_roundw
          case rel => exact ⟨k + 1, by omega, by go_num, by rw [← HN.out]; exact HK.out, HB.out⟩
          case measure => simp [intOf]; omega
        · have h0i : 0 < (s.size : Int) := by omega
          have hmod : k % s.size < s.size := Nat.mod_lt _ (by omega)
          have hfb := fillB_at s k hmod
          have hz : (u8s (fillN s k))[k]? = some (u8s (fillN s k))[k] := List.getElem?_eq_getElem (by rw [u8s_len, fillN_len]; exact hlt)
          obtain ⟨z, hz2⟩ : ∃ z, z = (u8s (fillN s k))[k]'(by rw [u8s_len, fillN_len]; exact hlt) := ⟨_, rfl⟩
          have y0 : wr.cell? ⟨w.heap.size, k, none⟩ = some z := by
            have := HK.out.cell k
            rw [this, hz2]
            simp
          have y1 := HK.out.free k
          have hst : Blk (wr.setCell ⟨w.heap.size, k, none⟩ (.int .u8 ((fillB s k).toNat : Int))) w.heap.size 5 (u8s (fillN s (k + 1))).toArray := by
            have := HK.out.set_ k (.int .u8 ((fillB s k).toNat : Int))
            rw [List.setIfInBounds_toArray, u8s_set, fillN_set s hlt] at this
            exact this
          have HST := Lib.hid hst
          have hbl : Below w.heap.size w (wr.setCell ⟨w.heap.size, k, none⟩ (.int .u8 ((fillB s k).toNat : Int))) := Below.setCell HB.out (by exact Nat.le_refl _) _
          have HBL := Lib.hid hbl
          have HFB := Lib.hid hfb
          clear hn h0 hz hz2 hst hbl hfb
          go_wp2
          simp only [HFB.out]
          go_roundw
          case rel => exact ⟨k + 1, by omega, by go_num, HST.out, HBL.out⟩
          case measure => simp [intOf]; omega
      · obtain rfl : k = 256 := by omega
        have hr : Rd wr (some ⟨w.heap.size, 0, none⟩) (u8s (fillN s 256)) := Rd.row fun j x hx => by
          rw [Nat.zero_add, HK.out.cell j]; simpa using hx
        have hcv := run_bytes_str (P := Try.prog) wr 68 9 5 Try.underlying68 Try.underlying5 Try.underlying9 (some ⟨w.heap.size, 0, none⟩) 256 256 (fillN s 256) hr (fillN_len _ _)
        clear hn hr
        go_wp2
        go_ret
        exact ⟨rfl, HB.out⟩
end Go.Proofs.Ytfgpadikmnhldaa
