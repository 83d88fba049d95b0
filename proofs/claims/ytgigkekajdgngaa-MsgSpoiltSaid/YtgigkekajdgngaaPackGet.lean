/-
  What the methods of pack.Get do with a Get of the call's own that bears no error and has bytes enough. Conditions: a text no longer than memory holds.
-/
import Derived.Test.YtgigkekajdgngaaPackPut
import Derived.Test.YtgigkekajdgngaaPagePlain
import Derived.Lib.Strings
import Derived.Lib.BufferWrite
import Derived.Lib.UnsafeStr
import Derived.Laws.MakeOwn
namespace Go.Proofs.Ytgigkekajdgngaa
open Go Go.RowKit
attribute [local go_sem] cell_set_if

set_option maxHeartbeats 4000000 in
set_option maxRecDepth 100000 in
/-- A copy of a text is that text. -/
theorem lclone_any (s : ByteArray) (w : World) (hlim : s.size ≤ 281474976710656) :
    Calls Try.prog 47 #[.string s] w fun e w' => e = .returned (.string s) ∧ Below w.heap.size w w' := by
  by_cases h0 : s.size = 0
  · have hs : s = ⟨#[]⟩ := by
      apply ByteArray.ext
      exact Array.eq_empty_of_size_eq_zero h0
    subst hs
    go_enter Try.func47, Try.ntmps47
    go_wp2
    go_ret
    exact ⟨rfl, Below.refl _ _⟩
  · obtain ⟨i0, hi, hz0, hz1, hz2⟩ := info_parts u8info
    have hinfo : (Try.prog.info? 5).map (·.size) = some 1 := by rw [hi]; simp [hz1]
    have hco : Try.prog.cellsOf 5 = 1 := by simp [Program.cellsOf, hi, hz1]
    obtain ⟨M, hM⟩ : ∃ M, M = madeCells (Value.int .u8 0).cells (((s.size : Nat) : Int).toNat * i0.size) := ⟨_, rfl⟩
    have hMs : M.size = s.size := by rw [hM, size_madeCells, hz1]; simp
    have hmk : ∀ W : World, (Instr.makeSlice 30 (.int .i64 (s.size : Int)) (.int .i64 (s.size : Int))).run Try.prog W = .ok (.slice (some ⟨W.heap.size, 0, none⟩) s.size s.size) (W.alloc (.cells M 5)) := fun W => by
      have h := run_make (P := Try.prog) W 30 5 i0 (.int .u8 0) Try.underlying30 hi hz0 .i64 .i64 (s.size : Int) (s.size : Int) (by omega) (by omega) (by rw [hz2]; omega) (by omega)
      rw [← hM] at h
      simpa using h
    clear hM
    have hcp := Lib.run_copy_row_string (P := Try.prog) (w.alloc (.cells M 5)) 30 9 3 5 w.heap.size 0 s.size s.size s M 5 Try.underlying30 hinfo (heap_alloc_new w _) (Nat.le_refl _) (by omega)
    obtain ⟨Y, hY⟩ : ∃ Y, Y = (M.toList.take 0 ++ Lib.byteCells s.data.toList ++ M.toList.drop (0 + s.size)).toArray := ⟨_, rfl⟩
    rw [← hY] at hcp
    have hYl : Y.toList = Lib.byteCells s.data.toList := by
      rw [hY, List.toList_toArray, List.take_zero, List.nil_append, List.drop_of_length_le (by rw [Array.length_toList]; omega), List.append_nil]
    have hYs : Y.size = s.size := by rw [← Array.length_toList, hYl, Lib.byteCells_length, ← Lib.size_eq]
    have hgY : ((w.alloc (.cells M 5)).setRow w.heap.size Y).heap[w.heap.size]? = some (.cells Y 5 (0, 0)) := setRow_heap _ _ M _ 5 (0, 0) (heap_alloc_new w _)
    have hne : s.data.toList ≠ [] := fun e => h0 (by rw [Lib.size_eq, e]; rfl)
    have hUS := Lib.run_unsafeString_row (P := Try.prog) ((w.alloc (.cells M 5)).setRow w.heap.size Y) 97 3 9 5 Try.underlying97 hco w.heap.size Y.size (by unfold World.shape?; rw [hgY]) s.data.toList hne (by rw [← Lib.size_eq]; omega) (by rw [← Lib.size_eq]; omega)
      (fun j x hx => Lib.cells_of_row hgY Y.size j _ (by rw [List.take_of_length_le (by rw [Array.length_toList]; exact Nat.le_refl _), hYl]; simp [Lib.byteCells, hx]))
    rw [← Lib.size_eq] at hUS
    clear hY
    go_enter Try.func47, Try.ntmps47
    go_wp2
    go_ret
    have hb1 : Below w.heap.size w (w.alloc (.cells M 5)) := (Below.refl _ w).alloc (Nat.le_refl _) _
    have hb2 : Below w.heap.size (w.alloc (.cells M 5)) ((w.alloc (.cells M 5)).setRow w.heap.size Y) := ⟨rfl, rfl, rfl, by simp, fun k hk => setRow_other _ _ _ _ (by omega)⟩
    exact ⟨rfl, Lib.below_freeze (hb1.trans hb2) (p := ⟨w.heap.size, 0, none⟩) (Nat.le_refl _) _⟩
theorem clone_any (s : ByteArray) (w : World) (hlim : s.size ≤ 281474976710656) :
    Calls Try.prog 30 #[.string s] w fun e w' => e = .returned (.string s) ∧ Below w.heap.size w w' := by
  go_enter Try.func30, Try.ntmps30
  go_wp2_with (go_at_call 47; refine (lclone_any s _ hlim).mono ?_; rintro e w1 ⟨rfl, q1⟩)
  go_ret
  exact ⟨rfl, q1⟩

/-- A Get of the call's own that has this text left and bears no error. -/
def GetAt (w : World) (g : Nat) (s : ByteArray) : Prop := Blk w g 82 #[.string s, .int .i64 0]
theorem GetAt.lt {g : Nat} {w : World} {s : ByteArray} (h : GetAt w g s) : g < w.heap.size := Blk.lt h
theorem GetAt.below {g : Nat} {w w' : World} {s : ByteArray} (h : GetAt w g s) (hb : Below w.heap.size w w') : GetAt w' g s := Blk.below h hb
theorem GetAt.alloc {g : Nat} {w : World} {s : ByteArray} (h : GetAt w g s) (o : Obj) : GetAt (w.alloc o) g s := Blk.alloc h o
theorem GetAt.far {g q i : Nat} {w : World} {s : ByteArray} (h : GetAt w g s) (hq : g ≠ q) (v : Value) : GetAt (w.setCell ⟨q, i, none⟩ v) g s := Blk.far h (p := ⟨q, i, none⟩) hq v

theorem from_any (s : ByteArray) (w : World) :
    Calls Try.prog 23 #[.string s] w fun e w' => e = .returned (ptr w.heap.size) ∧ GetAt w' w.heap.size s ∧ Below w.heap.size w w' := by
  go_enter Try.func23, Try.ntmps23
  go_wp2
  go_ret
  exact ⟨rfl, Blk.new _ _ _, (Below.refl _ _).alloc (Nat.le_refl _) _⟩

set_option maxRecDepth 100000 in
theorem graw_any (g : Nat) (s : ByteArray) (n : Nat) (w : World) (h : GetAt w g s) (hn : n ≤ s.size) (hs : s.size ≤ 140737488355328) :
    Calls Try.prog 41 #[ptr g, .int .i64 n] w fun e w' => e = .returned (.string (s.extract 0 n)) ∧ GetAt w' g (s.extract n s.size) ∧ Frm (at1 g) w w' := by
  have hB : Blk w g 82 #[.string s, .int .i64 0] := h
  have hlt := hB.lt
  have c1 : w.cell? ⟨g, 1, none⟩ = some (.int .i64 0) := by rw [hB.cell 1]; rfl
  have c0 : w.cell? ⟨g, 0, none⟩ = some (.string s) := by rw [hB.cell 0]; rfl
  have f0 := hB.free 0
  have he : (s.extract 0 n).size ≤ 281474976710656 := by rw [ByteArray.size_extract]; omega
  go_enter Try.func41, Try.ntmps41
  go_wp2_with (go_at_call 30; refine (clone_any _ _ he).mono ?_; rintro e w1 ⟨rfl, q1⟩)
  go_ret
  exact ⟨rfl, (hB.set_ 0 _).below q1, ((Frm.refl (at1 g) w).setCell (p := ⟨g, 0, none⟩) (fun _ => rfl) _).step q1⟩

theorem or_step (L : List UInt8) (b : UInt8) (k : Nat) (hk : k < 8) (hl : L.length = k) : bits .or .u64 (numL L : Int) (IntKind.u64.wrap ((b.toNat : Int) * 2 ^ (8 * k))) = (numL (L ++ [b]) : Int) := by
  have hb := b.toNat_lt
  have hlt := numL_lt L
  rw [hl] at hlt
  have e2 : (2 : Nat) ^ (8 * k) = 256 ^ k := by rw [Nat.pow_mul]
  have hm : b.toNat * 256 ^ k < 18446744073709551616 := by
    have : (256 : Nat) ^ k ≤ 256 ^ 7 := Nat.pow_le_pow_right (by omega) (by omega)
    have h2 : b.toNat * 256 ^ k ≤ 255 * 256 ^ 7 := Nat.mul_le_mul (by omega) this
    omega
  have h64 : (256 : Nat) ^ k ≤ 256 ^ 7 := Nat.pow_le_pow_right (by omega) (by omega)
  have e3 : IntKind.u64.wrap ((b.toNat : Int) * 2 ^ (8 * k)) = ((256 ^ k * b.toNat : Nat) : Int) := by
    have e4 : (b.toNat : Int) * 2 ^ (8 * k) = ((b.toNat * 256 ^ k : Nat) : Int) := by rw [← e2]; simp
    rw [e4, Nat.mul_comm]
    rw [Nat.mul_comm] at hm
    generalize 256 ^ k * b.toNat = X at hm
    simp [IntKind.wrap, IntKind.bits, IntKind.signed]; omega
  rw [e3, numL_snoc, hl]
  rw [u64_or_nat _ _ (by omega) (by rw [Nat.mul_comm]; exact hm)]
  have hlt' : numL L < 2 ^ (8 * k) := by rw [e2]; exact hlt
  have := Nat.two_pow_add_eq_or_of_lt hlt' b.toNat
  rw [← e2, Nat.or_comm, ← this, Nat.add_comm]

set_option maxHeartbeats 1000000 in
theorem glow_any (g : Nat) (s : ByteArray) (n : Nat) (w : World) (h : GetAt w g s) (hn : n ≤ s.size) (hs : s.size ≤ 140737488355328) (hn8 : n ≤ 8) :
    Calls Try.prog 40 #[ptr g, .int .i64 n] w fun e w' => e = .returned (.int .u64 (numL ((bts s).take n))) ∧ GetAt w' g (s.extract n s.size) ∧ Frm (at1 g) w w' := by
  have hT : bts (s.extract 0 n) = (bts s).take n := by rw [bts_extract]; rfl
  have hz : (s.extract 0 n).size = n := by rw [ByteArray.size_extract]; omega
  generalize hq : s.extract 0 n = q at hT hz
  have HT := Lib.hid hT
  clear hT
  go_enter Try.func40, Try.ntmps40
  go_wp2_with (go_at_call 41; refine (graw_any g s n _ h hn hs).mono ?_; rintro e w1 ⟨rfl, q1⟩; simp only [hq])
  go_loop [5, 7, 13] (fun u5 u7 u13 => ∃ k : Nat, k ≤ n ∧ u13 = .int .i64 k ∧ u5 = .int .u64 (numL ((bts q).take k))) (fun _ _ u13 => n - (intOf u13).toNat)
  case atStart => exact ⟨0, by omega, rfl, by simp [numL]⟩
  case round =>
    obtain ⟨k, hk, rfl, rfl⟩ := hrel
    by_cases hlt : k < n
    · have hw : IntKind.i64.wrap (8 * (k : Int)) = 8 * (k : Int) := IntWalk.i64_in _ (by omega)
      have hw0 : (0 : Int) ≤ 8 * (k : Int) := by omega
      have hby : (q[k].toNat : Int) < 256 := by have := q[k].toNat_lt; omega
      have HO := Lib.hid (or_step ((bts q).take k) q[k] k (by omega) (by rw [List.length_take, bts_len]; omega))
      have HTS := Lib.hid (take_snoc q k (by omega))
      go_wp2
      go_round
      case rel => exact ⟨k + 1, by omega, by go_num, by rw [HO.out]; exact congrArg (fun l => Value.int .u64 ((numL l : Nat) : Int)) HTS.out.symm⟩
      case measure => simp [intOf]; omega
    · obtain rfl : k = n := by omega
      go_wp2
      go_ret
      refine ⟨ret_int ?_, q1⟩
      rw [List.take_of_length_le (by rw [bts_len]; omega), HT.out]

theorem num_take (l : List UInt8) (n : Nat) : numL (l.take n) < 256 ^ n := by
  have := numL_lt (l.take n)
  exact Nat.lt_of_lt_of_le this (Nat.pow_le_pow_right (by omega) (by rw [List.length_take]; omega))
theorem gbyte_any (g : Nat) (s : ByteArray) (w : World) (h : GetAt w g s) (hn : 1 ≤ s.size) (hs : s.size ≤ 140737488355328) :
    Calls Try.prog 24 #[ptr g] w fun e w' => e = .returned (.int .i64 (numL ((bts s).take 1))) ∧ GetAt w' g (s.extract 1 s.size) ∧ Frm (at1 g) w w' := by
  have hb := num_take (bts s) 1
  go_enter Try.func24, Try.ntmps24
  go_wp2_with (go_at_call 40; refine (glow_any g s 1 _ h hn hs (by omega)).mono ?_; rintro e w1 ⟨rfl, q1⟩)
  go_ret
  exact ⟨rfl, q1⟩
theorem ghalf_any (g : Nat) (s : ByteArray) (w : World) (h : GetAt w g s) (hn : 2 ≤ s.size) (hs : s.size ≤ 140737488355328) :
    Calls Try.prog 42 #[ptr g] w fun e w' => e = .returned (.int .i64 (numL ((bts s).take 2))) ∧ GetAt w' g (s.extract 2 s.size) ∧ Frm (at1 g) w w' := by
  have hb := num_take (bts s) 2
  go_enter Try.func42, Try.ntmps42
  go_wp2_with (go_at_call 40; refine (glow_any g s 2 _ h hn hs (by omega)).mono ?_; rintro e w1 ⟨rfl, q1⟩)
  go_ret
  exact ⟨rfl, q1⟩
theorem gword_any (g : Nat) (s : ByteArray) (w : World) (h : GetAt w g s) (hn : 4 ≤ s.size) (hs : s.size ≤ 140737488355328) :
    Calls Try.prog 25 #[ptr g] w fun e w' => e = .returned (.int .i64 (numL ((bts s).take 4))) ∧ GetAt w' g (s.extract 4 s.size) ∧ Frm (at1 g) w w' := by
  have hb := num_take (bts s) 4
  go_enter Try.func25, Try.ntmps25
  go_wp2_with (go_at_call 40; refine (glow_any g s 4 _ h hn hs (by omega)).mono ?_; rintro e w1 ⟨rfl, q1⟩)
  go_ret
  exact ⟨rfl, q1⟩
theorem gint_any (g : Nat) (s : ByteArray) (w : World) (h : GetAt w g s) (hn : 8 ≤ s.size) (hs : s.size ≤ 140737488355328) :
    Calls Try.prog 53 #[ptr g] w fun e w' => e = .returned (.int .i64 (wrap64 (numL ((bts s).take 8)))) ∧ GetAt w' g (s.extract 8 s.size) ∧ Frm (at1 g) w w' := by
  go_enter Try.func53, Try.ntmps53
  go_wp2_with (go_at_call 40; refine (glow_any g s 8 _ h hn hs (by omega)).mono ?_; rintro e w1 ⟨rfl, q1⟩)
  go_ret
  exact ⟨rfl, q1⟩
end Go.Proofs.Ytgigkekajdgngaa
