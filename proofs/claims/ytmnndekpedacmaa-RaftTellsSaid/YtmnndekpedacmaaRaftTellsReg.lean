/-
  One closed fact on the last test of RaftTells: its operations may be walked in the text's order. In pieces, for the checker's memory. No condition.
-/
import Derived.Test.YtmnndekpedacmaaRaftTellsW
import Derived.Test.YtmnndekpedacmaaQuietNew
namespace Go.Proofs.Ytmnndekpedacmaa
open Go Go.RowKit
/-- The region of this number. -/
def regionAt (n : Nat) : Code → Option Code
  | .region i ops d => if i = n then some (.region i ops d) else none
  | .seq a b => match regionAt n a with
    | some c => some c
    | none => regionAt n b
  | .block _ c => regionAt n c
  | .loop c => regionAt n c
  | .scope c => regionAt n c
  | .cond _ a b => match regionAt n a with
    | some c => some c
    | none => regionAt n b
  | _ => none
/-- Its operations. -/
def opsAt : Option Code → List Oper
  | some (.region _ ops _) => ops.toList
  | _ => []
noncomputable def tellsOps : List Oper := opsAt (Try.f4.body.bind (regionAt 21))
/-- m steps from the k-th on. -/
def okFrom (md : Region.Mode) (ops : Array Oper) : Nat → Nat → Array Bool → Bool
  | 0, _, _ => true
  | m + 1, k, listed => (Region.ready md ops listed).contains k && Region.free md ops listed k && okFrom md ops m (k + 1) (listed.setIfInBounds k true)
def markAll : Nat → Nat → Array Bool → Array Bool
  | 0, _, listed => listed
  | m + 1, k, listed => markAll m (k + 1) (listed.setIfInBounds k true)
theorem lexFrom_split {md : Region.Mode} {ops : Array Oper} (m fuel : Nat) : ∀ (k : Nat) (listed : Array Bool), okFrom md ops m k listed = true → Region.lexFrom md ops fuel (k + m) (markAll m k listed) = true → Region.lexFrom md ops (fuel + m) k listed = true := by
  induction m with
  | zero => intro k listed _ h; exact h
  | succ m ih =>
    intro k listed h1 h2
    simp only [okFrom, Bool.and_eq_true] at h1
    show Region.lexFrom md ops ((fuel + m) + 1) k listed = true
    simp only [Region.lexFrom, Bool.and_eq_true]
    refine ⟨h1.1, ih (k + 1) _ h1.2 ?_⟩
    rw [show k + 1 + m = k + (m + 1) by omega]
    exact h2
theorem markAll_add (m n k : Nat) (listed : Array Bool) : markAll n (k + m) (markAll m k listed) = markAll (m + n) k listed := by
  induction m generalizing k listed with
  | zero => simp [markAll]
  | succ m ih =>
    rw [show m + 1 + n = (m + n) + 1 by omega]
    show markAll n (k + (m + 1)) (markAll m (k + 1) (listed.setIfInBounds k true)) = markAll (m + n) (k + 1) (listed.setIfInBounds k true)
    rw [show k + (m + 1) = k + 1 + m by omega]
    exact ih (k + 1) _
/-- Where nothing is done yet. -/
def blank : Array Bool := Array.replicate 135 false
set_option maxRecDepth 100000 in
theorem lexPart0 : okFrom .any tellsOps.toArray 12 0 (markAll 0 0 blank) = true := by kernel_rfl
set_option maxRecDepth 100000 in
theorem lexPart1 : okFrom .any tellsOps.toArray 12 12 (markAll 12 0 blank) = true := by kernel_rfl
set_option maxRecDepth 100000 in
theorem lexPart2 : okFrom .any tellsOps.toArray 12 24 (markAll 24 0 blank) = true := by kernel_rfl
set_option maxRecDepth 100000 in
theorem lexPart3 : okFrom .any tellsOps.toArray 12 36 (markAll 36 0 blank) = true := by kernel_rfl
set_option maxRecDepth 100000 in
theorem lexPart4 : okFrom .any tellsOps.toArray 12 48 (markAll 48 0 blank) = true := by kernel_rfl
set_option maxRecDepth 100000 in
theorem lexPart5 : okFrom .any tellsOps.toArray 12 60 (markAll 60 0 blank) = true := by kernel_rfl
set_option maxRecDepth 100000 in
theorem lexPart6 : okFrom .any tellsOps.toArray 12 72 (markAll 72 0 blank) = true := by kernel_rfl
set_option maxRecDepth 100000 in
theorem lexPart7 : okFrom .any tellsOps.toArray 12 84 (markAll 84 0 blank) = true := by kernel_rfl
set_option maxRecDepth 100000 in
theorem lexPart8 : okFrom .any tellsOps.toArray 12 96 (markAll 96 0 blank) = true := by kernel_rfl
set_option maxRecDepth 100000 in
theorem lexPart9 : okFrom .any tellsOps.toArray 12 108 (markAll 108 0 blank) = true := by kernel_rfl
set_option maxRecDepth 100000 in
theorem lexPart10 : okFrom .any tellsOps.toArray 12 120 (markAll 120 0 blank) = true := by kernel_rfl
set_option maxRecDepth 100000 in
theorem lexPart11 : okFrom .any tellsOps.toArray 3 132 (markAll 132 0 blank) = true := by kernel_rfl
set_option maxRecDepth 100000 in
theorem lexEnd : Region.lexFrom .any tellsOps.toArray 0 135 (markAll 135 0 blank) = true := by kernel_rfl
set_option maxRecDepth 100000 in
theorem lexSel : Region.noSelect tellsOps.toArray = true := by kernel_rfl
set_option maxRecDepth 100000 in
theorem lexSize : tellsOps.toArray.size = 135 := by kernel_rfl
theorem tellsLex : Region.lexB .any tellsOps.toArray = true := by
  unfold Region.lexB
  rw [lexSel, lexSize, Bool.true_and]
  show Region.lexFrom .any tellsOps.toArray 135 0 blank = true
  have h12 := lexEnd
  have h11 : Region.lexFrom .any tellsOps.toArray 3 132 (markAll 132 0 blank) = true := lexFrom_split 3 0 132 _ lexPart11 (by rw [show 132 = 0 + 132 by rfl, markAll_add 132 3 0 blank]; exact h12)
  have h10 : Region.lexFrom .any tellsOps.toArray 15 120 (markAll 120 0 blank) = true := lexFrom_split 12 3 120 _ lexPart10 (by rw [show 120 = 0 + 120 by rfl, markAll_add 120 12 0 blank]; exact h11)
  have h9 : Region.lexFrom .any tellsOps.toArray 27 108 (markAll 108 0 blank) = true := lexFrom_split 12 15 108 _ lexPart9 (by rw [show 108 = 0 + 108 by rfl, markAll_add 108 12 0 blank]; exact h10)
  have h8 : Region.lexFrom .any tellsOps.toArray 39 96 (markAll 96 0 blank) = true := lexFrom_split 12 27 96 _ lexPart8 (by rw [show 96 = 0 + 96 by rfl, markAll_add 96 12 0 blank]; exact h9)
  have h7 : Region.lexFrom .any tellsOps.toArray 51 84 (markAll 84 0 blank) = true := lexFrom_split 12 39 84 _ lexPart7 (by rw [show 84 = 0 + 84 by rfl, markAll_add 84 12 0 blank]; exact h8)
  have h6 : Region.lexFrom .any tellsOps.toArray 63 72 (markAll 72 0 blank) = true := lexFrom_split 12 51 72 _ lexPart6 (by rw [show 72 = 0 + 72 by rfl, markAll_add 72 12 0 blank]; exact h7)
  have h5 : Region.lexFrom .any tellsOps.toArray 75 60 (markAll 60 0 blank) = true := lexFrom_split 12 63 60 _ lexPart5 (by rw [show 60 = 0 + 60 by rfl, markAll_add 60 12 0 blank]; exact h6)
  have h4 : Region.lexFrom .any tellsOps.toArray 87 48 (markAll 48 0 blank) = true := lexFrom_split 12 75 48 _ lexPart4 (by rw [show 48 = 0 + 48 by rfl, markAll_add 48 12 0 blank]; exact h5)
  have h3 : Region.lexFrom .any tellsOps.toArray 99 36 (markAll 36 0 blank) = true := lexFrom_split 12 87 36 _ lexPart3 (by rw [show 36 = 0 + 36 by rfl, markAll_add 36 12 0 blank]; exact h4)
  have h2 : Region.lexFrom .any tellsOps.toArray 111 24 (markAll 24 0 blank) = true := lexFrom_split 12 99 24 _ lexPart2 (by rw [show 24 = 0 + 24 by rfl, markAll_add 24 12 0 blank]; exact h3)
  have h1 : Region.lexFrom .any tellsOps.toArray 123 12 (markAll 12 0 blank) = true := lexFrom_split 12 111 12 _ lexPart1 (by rw [show 12 = 0 + 12 by rfl, markAll_add 12 12 0 blank]; exact h2)
  have h0 : Region.lexFrom .any tellsOps.toArray 135 0 (markAll 0 0 blank) = true := lexFrom_split 12 123 0 _ lexPart0 h1
  exact h0
end Go.Proofs.Ytmnndekpedacmaa
