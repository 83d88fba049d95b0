/-
  What the document's Need gives. Condition: a value no longer than memory holds.
-/
import Derived.Test.YtejmpfmkaiaklaaBigLay
import Derived.Test.YtejmpfmkaiaklaaPageLaws
namespace Go.Proofs.Ytejmpfmkaiaklaa
open Go Go.RowKit
attribute [local go_sem] cell_set_if

theorem refneed_any (n : Int) (w : World) (hn : n ≤ 9000000000000000000) : Calls Try.prog 22 #[.int .i64 n] w fun e w' => e = .returned (.int .i64 (needI n)) ∧ w' = w := by
  obtain ⟨r, hr⟩ : ∃ r, r = needI n := ⟨_, rfl⟩
  rw [← hr]
  unfold needI needN at hr
  by_cases h0 : n < 0
  · have HR : Hid (r = 0) := by unfold Hid; rw [hr, if_pos h0]
    clear hr
    go_enter Try.func22, Try.ntmps22
    go_wp2
    go_ret
    exact ⟨ret_int HR.out.symm, rfl⟩
  · have HR : Hid (r = max ((n + 231) / 232) 1) := by
      unfold Hid; rw [hr, if_neg h0]
      by_cases h1 : n = 0
      · rw [if_pos (by omega)]; subst h1; decide
      · rw [if_neg (by omega)]; omega
    have h2 : 0 ≤ n := by omega
    clear hr h0
    go_enter Try.func22, Try.ntmps22
    go_wp2
    go_ret
    exact ⟨ret_int (by rw [HR.out]; congr 1; omega), rfl⟩
theorem refneed_nat (n : Nat) (w : World) (h : n ≤ 2000000) : Calls Try.prog 22 #[.int .i64 n] w fun e w' => e = .returned (.int .i64 (needN n)) ∧ w' = w := by
  have := refneed_any n w (by omega)
  unfold needI at this
  rw [if_neg (by omega), Int.toNat_natCast] at this; exact this

end Go.Proofs.Ytejmpfmkaiaklaa
