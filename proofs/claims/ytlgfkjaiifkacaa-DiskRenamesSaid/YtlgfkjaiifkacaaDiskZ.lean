/-
  The document's Zeros. Condition: no more than a sector's length.
-/
import Derived.Test.YtlgfkjaiifkacaaDiskU
namespace Go.Proofs.Ytlgfkjaiifkacaa
open Go Go.RowKit
attribute [local go_sem] cell_set_if

theorem rzeros_any (n : Nat) (w : World) (hn : n ≤ 1000000) :
    Calls Try.prog 17 #[.int .i64 n] w fun e w' => e = .returned (.string (bs (List.replicate n 0))) ∧ Below w.heap.size w w' := by
  obtain ⟨i0, hi, hz0, hz1, hz2⟩ := info_parts u8infoT
  obtain ⟨M, hM⟩ : ∃ M, M = madeCells (Value.int .u8 0).cells (((n : Nat) : Int).toNat * i0.size) := ⟨_, rfl⟩
  have hMl : M.toList = u8s (List.replicate n 0) := by
    rw [hM, hz1, Int.toNat_natCast, Nat.mul_one]
    show (madeCells #[Value.int .u8 0] n).toList = _
    rw [toList_madeCells_one]; simp only [u8s, List.map_replicate]; rfl
  have hmk : ∀ W : World, (Instr.makeSlice 34 (.int .i64 (n : Int)) (.int .i64 (n : Int))).run Try.prog W = .ok (.slice (some ⟨W.heap.size, 0, none⟩) n n) (W.alloc (.cells M 5)) := fun W => by
    have h := run_make (P := Try.prog) W 34 5 i0 (.int .u8 0) Try.underlying34 hi hz0 .i64 .i64 (n : Int) (n : Int) (by omega) (by omega) (by rw [hz2]; omega) (by omega)
    rw [← hM] at h
    simpa using h
  have hr : Rd (w.alloc (.cells M 5)) (some ⟨w.heap.size, 0, none⟩) (u8s (List.replicate n 0)) := by rw [← hMl]; exact Rd.new _ _ _
  have hcv := run_bytes_str (P := Try.prog) (w.alloc (.cells M 5)) 34 9 5 Try.underlying34 Try.underlying5 Try.underlying9 (some ⟨w.heap.size, 0, none⟩) n n (List.replicate n 0) hr (by simp)
  clear hM hMl hr
  go_enter Try.func17, Try.ntmps17
  go_wp2
  go_ret
  exact ⟨rfl, (Below.refl _ _).alloc (Nat.le_refl _) _⟩
end Go.Proofs.Ytlgfkjaiifkacaa
