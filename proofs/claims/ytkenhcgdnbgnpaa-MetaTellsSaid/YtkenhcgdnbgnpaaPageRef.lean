/-
  What the document's Zeros, Num, LayPage and ReadPage give. Conditions: few zeros; few bytes of a number; a page that may be.
-/
import Derived.Test.YtkenhcgdnbgnpaaPageLaws
import Derived.Test.YtkenhcgdnbgnpaaRefNum
namespace Go.Proofs.Ytkenhcgdnbgnpaa
open Go Go.RowKit
attribute [local go_sem] cell_set_if

theorem lowB_mod (v n : Nat) : lowB (v % 256 ^ n) n = lowB v n := by
  have e := num_lowB v n
  have h := lowB_num (lowB v n)
  rw [lowB_len, e] at h
  exact h

set_option maxRecDepth 100000 in
set_option maxHeartbeats 1000000 in
theorem refzeros_any (n : Nat) (w : World) (hn : n ≤ 100000) :
    Calls Try.prog 32 #[.int .i64 n] w fun e w' => e = .returned (str (zerosL n)) ∧ Below w.heap.size w w' := by
  obtain ⟨i0, hi, hz0, hz1, hz2⟩ := info_parts u8info
  obtain ⟨M, hM⟩ : ∃ M, M = madeCells (Value.int .u8 0).cells (((n : Nat) : Int).toNat * i0.size) := ⟨_, rfl⟩
  have hMr : M.toList = u8s (zerosL n) := by
    rw [hM, hz1]; simp [madeCells, zerosL, u8s, Value.cells, Nat.mod_one, List.map_const']
  have hmk : ∀ W : World, (Instr.makeSlice 44 (.int .i64 (n : Int)) (.int .i64 (n : Int))).run Try.prog W = .ok (.slice (some ⟨W.heap.size, 0, none⟩) n n) (W.alloc (.cells M 5)) := fun W => by
    have h := run_make (P := Try.prog) W 44 5 i0 (.int .u8 0) Try.underlying44 hi hz0 .i64 .i64 (n : Int) (n : Int) (by omega) (by omega) (by rw [hz2]; omega) (by omega)
    rw [← hM] at h
    simpa using h
  clear hM
  have HR : Hid (Rd (w.alloc (.cells M 5)) (some ⟨w.heap.size, 0, none⟩) (u8s (zerosL n))) := by
    have := Rd.new w M 5
    rw [hMr] at this
    exact this
  go_enter Try.func32, Try.ntmps32
  go_wp2_with (refine wpList_bytes_str rfl 44 9 (.tmp 4) rfl 5 Try.underlying44 Try.underlying5 Try.underlying9 _ n n (zerosL n) rfl HR.out (by simp [zerosL]) ?_)
  go_ret
  exact ⟨rfl, (Below.refl _ _).alloc (Nat.le_refl _) _⟩

set_option maxRecDepth 100000 in
set_option maxHeartbeats 4000000 in
theorem reflay_any (k i t : Nat) (bd : ByteArray) (w : World) (h : (⟨k, i, t, bts bd⟩ : Pg).ok) :
    Calls Try.prog 21 #[pageV k i t bd] w fun e w' => e = .returned (str (layL ⟨k, i, t, bts bd⟩)) ∧ Below w.heap.size w w' := by
  obtain ⟨h1, h2, h3, h4, h5⟩ := h
  simp only [bts_len] at h1 h2 h3 h4 h5
  obtain ⟨m, hm⟩ : ∃ m : Nat, m = 232 - bd.size := ⟨_, rfl⟩
  have hme : (232 : Int) - (bd.size : Int) = (m : Int) := by omega
  have hm2 : m ≤ 232 := by omega
  have hwm : IntKind.i64.wrap (m : Int) = (m : Int) := IntWalk.i64_in _ (by omega)
  have u1 : IntKind.u64.wrap (k : Int) = (k : Int) := by simp [IntKind.wrap, IntKind.bits, IntKind.signed]; omega
  have u2 : IntKind.u64.wrap (bd.size : Int) = (bd.size : Int) := by simp [IntKind.wrap, IntKind.bits, IntKind.signed]; omega
  have u3 : IntKind.u64.wrap (i : Int) = (i : Int) := by simp [IntKind.wrap, IntKind.bits, IntKind.signed]; omega
  have u4 : IntKind.u64.wrap (t : Int) = (t : Int) := by simp [IntKind.wrap, IntKind.bits, IntKind.signed]; omega
  obtain ⟨K1, hK1⟩ : ∃ K, K = bs (lowB k 1) := ⟨_, rfl⟩
  obtain ⟨K2, hK2⟩ : ∃ K, K = bs (lowB bd.size 1) := ⟨_, rfl⟩
  obtain ⟨K3, hK3⟩ : ∃ K, K = bs (lowB i 2) := ⟨_, rfl⟩
  obtain ⟨K4, hK4⟩ : ∃ K, K = bs (lowB t 4) := ⟨_, rfl⟩
  obtain ⟨K5, hK5⟩ : ∃ K, K = bs (lowB t 8) := ⟨_, rfl⟩
  obtain ⟨Z, hZ⟩ : ∃ K, K = bs (zerosL m) := ⟨_, rfl⟩
  have a1 : ∀ w, Calls Try.prog 22 #[.int .u64 k, .int .i64 1] w fun e w' => e = .returned (.string K1) ∧ Below w.heap.size w w' := fun w => by rw [hK1]; exact low_any k 1 w (by omega) (by omega)
  have a2 : ∀ w, Calls Try.prog 22 #[.int .u64 bd.size, .int .i64 1] w fun e w' => e = .returned (.string K2) ∧ Below w.heap.size w w' := fun w => by rw [hK2]; exact low_any bd.size 1 w (by omega) (by omega)
  have a3 : ∀ w, Calls Try.prog 22 #[.int .u64 i, .int .i64 2] w fun e w' => e = .returned (.string K3) ∧ Below w.heap.size w w' := fun w => by rw [hK3]; exact low_any i 2 w (by omega) (by omega)
  have a4 : ∀ w, Calls Try.prog 22 #[.int .u64 t, .int .i64 4] w fun e w' => e = .returned (.string K4) ∧ Below w.heap.size w w' := fun w => by rw [hK4]; exact low_any t 4 w (by omega) (by omega)
  have a5 : ∀ w, Calls Try.prog 22 #[.int .u64 t, .int .i64 8] w fun e w' => e = .returned (.string K5) ∧ Below w.heap.size w w' := fun w => by rw [hK5]; exact low_any t 8 w (by omega) (by omega)
  have az : ∀ w, Calls Try.prog 32 #[.int .i64 m] w fun e w' => e = .returned (.string Z) ∧ Below w.heap.size w w' := fun w => by rw [hZ]; exact refzeros_any m w (by omega)
  have s1 : K1.size = 1 := by rw [hK1, bs_size, lowB_len]
  have s2 : K2.size = 1 := by rw [hK2, bs_size, lowB_len]
  have s3 : K3.size = 2 := by rw [hK3, bs_size, lowB_len]
  have s4 : K4.size = 4 := by rw [hK4, bs_size, lowB_len]
  have s5 : K5.size = 8 := by rw [hK5, bs_size, lowB_len]
  have sz : Z.size = m := by rw [hZ, bs_size]; simp [zerosL]
  have HF : Hid (bts (K1 ++ K2 ++ K3 ++ K4 ++ K5 ++ bd ++ Z) = frontL ⟨k, i, t, bts bd⟩) := by
    unfold Hid
    simp only [bts_append, hK1, hK2, hK3, hK4, hK5, hZ, bts_bs, frontL, headL, bts_len]
    rw [hm, show lowB (t % 4294967296) 4 = lowB t 4 from lowB_mod t 4]
    simp
  have HS : Hid (sealB (K1 ++ K2 ++ K3 ++ K4 ++ K5 ++ bd ++ Z) ++ K4 = bs (layL ⟨k, i, t, bts bd⟩)) := by
    unfold Hid
    rw [bs_append]
    unfold sealB
    rw [bts_bs, HF.out, hK4, bts_bs]
    unfold layL
    rw [show lowB (t % 4294967296) 4 = lowB t 4 from lowB_mod t 4]
    simp
  obtain ⟨Q2, g2⟩ : ∃ F, K1 ++ K2 = F := ⟨_, rfl⟩
  obtain ⟨Q3, g3⟩ : ∃ F, Q2 ++ K3 = F := ⟨_, rfl⟩
  obtain ⟨Q4, g4⟩ : ∃ F, Q3 ++ K4 = F := ⟨_, rfl⟩
  obtain ⟨Q5, g5⟩ : ∃ F, Q4 ++ K5 = F := ⟨_, rfl⟩
  obtain ⟨Q6, g6⟩ : ∃ F, Q5 ++ bd = F := ⟨_, rfl⟩
  obtain ⟨F, g7⟩ : ∃ F, Q6 ++ Z = F := ⟨_, rfl⟩
  have z2 : Q2.size = 2 := by rw [← g2, ByteArray.size_append]; omega
  have z3 : Q3.size = 4 := by rw [← g3, ByteArray.size_append]; omega
  have z4 : Q4.size = 8 := by rw [← g4, ByteArray.size_append]; omega
  have z5 : Q5.size = 16 := by rw [← g5, ByteArray.size_append]; omega
  have z6 : Q6.size = 16 + bd.size := by rw [← g6, ByteArray.size_append]; omega
  have sF : F.size = 248 := by rw [← g7, ByteArray.size_append]; omega
  have sS : (sealB F).size = 252 := by rw [sealB_size]; omega
  have hF : K1 ++ K2 ++ K3 ++ K4 ++ K5 ++ bd ++ Z = F := by rw [g2, g3, g4, g5, g6, g7]
  rw [hF] at HS HF
  have hsl := fun w => refseal_any F w (by omega)
  have r2 : ¬ (9223372036854775807 < K1.size + K2.size) := by omega
  have r3 : ¬ (9223372036854775807 < Q2.size + K3.size) := by omega
  have r4 : ¬ (9223372036854775807 < Q3.size + K4.size) := by omega
  have r5 : ¬ (9223372036854775807 < Q4.size + K5.size) := by omega
  have r6 : ¬ (9223372036854775807 < Q5.size + bd.size) := by omega
  have r7 : ¬ (9223372036854775807 < Q6.size + Z.size) := by omega
  have r8 : (sealB F).size + K4.size ≤ 9223372036854775807 := by omega
  clear hK1 hK2 hK3 hK4 hK5 hZ hm z2 z3 z4 z5 z6 s1 s2 s3 s4 s5 sz hF sF sS
  go_enter Try.func21, Try.ntmps21
  go_wp2
  have C0 : Pc (w.alloc (.cells #[.int .i64 k, .int .i64 i, .int .i64 t, .string bd] 51)).drew w.heap.size k i t bd := Pc.new w k i t bd _
  have B0 : Below w.heap.size w (w.alloc (.cells #[.int .i64 k, .int .i64 i, .int .i64 t, .string bd] 51)).drew := ((Below.refl _ _).alloc (Nat.le_refl _) _).drew
  generalize w.alloc (.cells #[.int .i64 k, .int .i64 i, .int .i64 t, .string bd] 51) = W at C0 B0 ⊢
  have D0 := C0
  unfold Pc at D0
  go_region_held3 (fun w' => w'.cell? ⟨w.heap.size, 0, none⟩ = some (.int .i64 k) ∧ w'.cell? ⟨w.heap.size, 1, none⟩ = some (.int .i64 i) ∧ w'.cell? ⟨w.heap.size, 2, none⟩ = some (.int .i64 t) ∧ w'.cell? ⟨w.heap.size, 3, none⟩ = some (.string bd))
    (with_reducible assumption)
    (first
      | (go_at_call 22; with_reducible refine (a1 _).mono ?_; rintro e w1 ⟨rfl, b1⟩; have C1 := C0.step b1; have B1 := below_of b1 B0 B0.size; have D1 := C1; unfold Pc at D1)
      | (go_at_call 22; with_reducible refine (a2 _).mono ?_; rintro e w2 ⟨rfl, b2⟩; have C2 := C1.step b2; have B2 := below_of b2 B1 B1.size; have D2 := C2; unfold Pc at D2)
      | (go_at_call 22; with_reducible refine (a3 _).mono ?_; rintro e w3 ⟨rfl, b3⟩; have C3 := C2.step b3; have B3 := below_of b3 B2 B2.size; have D3 := C3; unfold Pc at D3)
      | (go_at_call 22; with_reducible refine (a4 _).mono ?_; rintro e w4 ⟨rfl, b4⟩; have C4 := C3.step b4; have B4 := below_of b4 B3 B3.size; have D4 := C4; unfold Pc at D4)
      | (go_at_call 22; with_reducible refine (a5 _).mono ?_; rintro e w5 ⟨rfl, b5⟩; have C5 := C4.step b5; have B5 := below_of b5 B4 B4.size; have D5 := C5; unfold Pc at D5)
      | (go_at_call 32; with_reducible refine (az _).mono ?_; rintro e w6 ⟨rfl, b6⟩; have C6 := C5.step b6; have B6 := below_of b6 B5 B5.size; have D6 := C6; unfold Pc at D6))
  go_wp2_with (first
    | (go_at_call 33; with_reducible refine (hsl _).mono ?_; rintro e w7 ⟨rfl, b7⟩; have B7 := below_of b7 B6 B6.size)
    | (go_at_call 22; with_reducible refine (a4 _).mono ?_; rintro e w8 ⟨rfl, b8⟩; have B8 := below_of b8 B7 B7.size))
  all_goals
    go_ret
    exact ⟨by show Ending.returned (.string (sealB F ++ K4)) = _; rw [HS.out], B8⟩
end Go.Proofs.Ytkenhcgdnbgnpaa
