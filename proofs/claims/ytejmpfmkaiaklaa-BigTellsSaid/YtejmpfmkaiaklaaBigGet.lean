/-
  What the law's closure 'get' gives (BigTells). Condition: the pages and the two variables lie as told.
-/
import Derived.Test.YtejmpfmkaiaklaaBigFar
namespace Go.Proofs.Ytejmpfmkaiaklaa
open Go Go.RowKit
attribute [local go_sem] cell_set_if

set_option maxRecDepth 100000 in
set_option maxHeartbeats 1000000 in
theorem get_any (w : World) (gl gk b o c N : Nat) (first tx lost id : Int) (v : ByteArray) (h0 : 0 ≤ first) (h1 : first ≤ 5000) (hN : N ≤ 9)
    (hl : w.cell? ⟨gl, 0, none⟩ = some (.slice (some ⟨b, o, none⟩) N c)) (hk : w.cell? ⟨gk, 0, none⟩ = some (.int .i64 lost)) (hc : ∀ j x, (pagesV first tx v N)[j]? = some x → w.cell? ⟨b, o + j, none⟩ = some x) (hb : b < w.heap.size) (hgl : gl < w.heap.size) (hgk : gk < w.heap.size) :
    Calls Try.prog 23 #[.int .i64 id, .pointer (some ⟨gl, 0, none⟩), .pointer (some ⟨gk, 0, none⟩)] w fun e w' =>
      ((∃ j : Nat, j < N ∧ id = first + j ∧ (j : Int) ≠ lost ∧ e = .returned (.tuple #[pageV 5 id tx (partB v j), .int .i64 0])) ∨
       ((∀ j : Nat, j < N → id = first + j → (j : Int) = lost) ∧ e = .returned (.tuple #[noPage, .int .i64 8]))) ∧ Below w.heap.size w w' := by
  have HC := Lib.hid hc
  have HAT := Lib.hid (fun k (h : k < N) => pagesV_at first tx v N k h)
  have B0 : Below w.heap.size w (w.alloc (.cells #[.int .i64 0, .int .i64 0, .int .i64 0, .string ⟨#[]⟩] 29)) := (Below.refl _ _).alloc (Nat.le_refl _) _
  have hl2 := (below_cells B0).1 gl 0 hgl
  have hk2 := (below_cells B0).1 gk 0 hgk
  rw [hl] at hl2
  rw [hk] at hk2
  clear hc hl hk
  have hN' : (N : Int) ≤ 9 := by omega
  go_enter Try.func23, Try.ntmps23
  go_wp2
  go_loopw [6] (fun u6 wr => ∃ k : Nat, k ≤ N ∧ u6 = .int .i64 k ∧ (∀ j : Nat, j < k → id = first + j → (j : Int) = lost) ∧ wr = w.alloc (.cells #[.int .i64 0, .int .i64 0, .int .i64 0, .string ⟨#[]⟩] 29)) (fun u6 _ => N - (intOf u6).toNat)
  case atStart => exact ⟨0, by omega, rfl, fun j h => by omega, rfl⟩
  case round =>
    obtain ⟨k, hk, rfl, hj, hw⟩ := hrel
    subst hw
    have HJ := Lib.hid hj
    clear hj
    by_cases hlt : k < N
    · have hpc : ∀ j u, (pgC first tx v k)[j]? = some u → (w.alloc (.cells #[.int .i64 0, .int .i64 0, .int .i64 0, .string ⟨#[]⟩] 29)).cell? ⟨b, o + (k * 4 + j), none⟩ = some u := fun j u hj => by
        rw [(below_cells B0).1 b _ hb]; exact HC.out _ _ (HAT.out k hlt j u hj)
      have c0 := hpc 0 _ rfl
      have c1 := hpc 1 _ rfl
      have c2 := hpc 2 _ rfl
      have c3 := hpc 3 _ rfl
      rw [Nat.add_zero] at c0
      rw [← Nat.add_assoc] at c1 c2 c3
      clear hpc
      by_cases hid : id = first + (k : Int)
      · subst hid
        by_cases hlo : lost = (k : Int)
        · subst hlo
          go_wp2
          go_roundw
          case rel => exact ⟨k + 1, by omega, by go_num, (fun j hj he => by omega), trivial⟩
          case measure => simp [intOf]; omega
        · have e2 : ((k : Int) != lost) = true := by simp; omega
          have e3 : ¬ ((k : Int) = lost) := by omega
          have HLO := Lib.hid hlo
          clear hlo
          go_wp2
          refine bodyPost_ret (v := .tuple #[pageV 5 (first + k) tx (partB v k), .int .i64 0]) (by rw [results_cell_tmp rfl]; go_simp) rfl ?_
          refine ⟨.inl ⟨k, hlt, rfl, by have := HLO.out; omega, rfl⟩, ?_⟩
          exact (Below.refl _ _).alloc (Nat.le_refl _) _
      · have e1 : (first + (k : Int) == id) = false := by simp; omega
        have e3 : ¬ (first + (k : Int) = id) := by omega
        have HID := Lib.hid hid
        clear hid
        go_wp2
        go_roundw
        case rel => exact ⟨k + 1, by omega, by go_num, (fun j hj he => by
          by_cases hjk : j < k
          · exact HJ.out j hjk he
          · obtain rfl : j = k := by omega
            exact absurd he HID.out), trivial⟩
        case measure => simp [intOf]; omega
    · obtain rfl : k = N := by omega
      go_wp2
      refine bodyPost_ret (v := .tuple #[noPage, .int .i64 8]) (by rw [results_cell_tmp rfl]; go_simp) rfl ?_
      refine ⟨.inr ⟨HJ.out, rfl⟩, ?_⟩
      exact (Below.refl _ _).alloc (Nat.le_refl _) _
end Go.Proofs.Ytejmpfmkaiaklaa
