/-
  A request, an entry, read from bytes, in plain words. No condition of its own.
-/
import Derived.Test.YtgigkekajdgngaaMsgP
import Derived.Test.YtgigkekajdgngaaPackAny
namespace Go.Proofs.Ytgigkekajdgngaa
open Go Go.RowKit

theorem rawLeft (n : Int) (s : PS) : (getRaw n s).2.1.length ≤ s.1.length := by
  unfold getRaw
  split
  · split
    · exact Nat.le_refl _
    · split
      · exact Nat.le_refl _
      · simp only [List.length_drop]; omega
  · exact Nat.le_refl _
theorem rawGot (n : Int) (s : PS) : (getRaw n s).1.length ≤ s.1.length := by
  unfold getRaw
  split
  · split
    · simp
    · split
      · simp
      · simp only [List.length_take]; omega
  · simp
theorem numLeft (n : Nat) (s : PS) : (getNum n s).2.1.length ≤ s.1.length := rawLeft n s
theorem textLeft (s : PS) : (getText s).2.1.length ≤ s.1.length := Nat.le_trans (rawLeft _ _) (numLeft 2 s)
theorem textGot (s : PS) : (getText s).1.length ≤ s.1.length := Nat.le_trans (rawGot _ _) (numLeft 2 s)
theorem numByte (s : PS) : 0 ≤ (getNum 1 s).1 ∧ (getNum 1 s).1 < 256 := by
  have hl : (getRaw 1 s).1.length ≤ 1 := by
    unfold getRaw
    split
    · split
      · simp
      · split
        · simp
        · simp only [List.length_take]; omega
    · simp
  have h := numL_lt (getRaw 1 s).1
  have h2 : 256 ^ (getRaw 1 s).1.length ≤ 256 ^ 1 := Nat.pow_le_pow_right (by omega) hl
  have h3 : numL (getRaw 1 s).1 < 256 := by omega
  show 0 ≤ sgn64 (numL (getRaw 1 s).1) ∧ sgn64 (numL (getRaw 1 s).1) < 256
  unfold sgn64
  split <;> omega
theorem sgnIn {v : Nat} (h : v < 18446744073709551616) : -9223372036854775808 ≤ sgn64 v ∧ sgn64 v ≤ 9223372036854775807 := by
  unfold sgn64
  split <;> omega
theorem numIn {n : Nat} (hn : n ≤ 8) (s : PS) : -9223372036854775808 ≤ (getNum n s).1 ∧ (getNum n s).1 ≤ 9223372036854775807 := by
  have hl : (getRaw n s).1.length ≤ 8 := by
    unfold getRaw
    split
    · split
      · simp
      · split
        · simp
        · simp only [List.length_take]; omega
    · simp
  have h := numL_lt (getRaw n s).1
  have h2 : 256 ^ (getRaw n s).1.length ≤ 256 ^ 8 := Nat.pow_le_pow_right (by omega) hl
  exact sgnIn (by omega)
/-- The next command. -/
def getCm (s : PS) : Cm × PS :=
  (⟨(getNum 1 s).1, bs (getText (getNum 1 s).2).1, bs (getText (getText (getNum 1 s).2).2).1, bs (getText (getText (getText (getNum 1 s).2).2).2).1, bs (getText (getText (getText (getText (getNum 1 s).2).2).2).2).1⟩,
   (getText (getText (getText (getText (getNum 1 s).2).2).2).2).2)
theorem cmLeft (s : PS) : (getCm s).2.1.length ≤ s.1.length := by
  refine Nat.le_trans (textLeft _) ?_
  refine Nat.le_trans (textLeft _) ?_
  refine Nat.le_trans (textLeft _) ?_
  exact Nat.le_trans (textLeft _) (numLeft _ _)
theorem cmGot (s : PS) : (getCm s).1.path.size ≤ s.1.length ∧ (getCm s).1.key.size ≤ s.1.length ∧ (getCm s).1.val.size ≤ s.1.length ∧ (getCm s).1.old.size ≤ s.1.length := by
  have h1 := numLeft 1 s
  have h2 := textLeft (getNum 1 s).2
  have h3 := textLeft (getText (getNum 1 s).2).2
  have h4 := textLeft (getText (getText (getNum 1 s).2).2).2
  have g1 := textGot (getNum 1 s).2
  have g2 := textGot (getText (getNum 1 s).2).2
  have g3 := textGot (getText (getText (getNum 1 s).2).2).2
  have g4 := textGot (getText (getText (getText (getNum 1 s).2).2).2).2
  unfold getCm
  simp only [bs_size]
  omega
/-- So many commands. -/
def getCms : Nat → PS → List Cm × PS
  | 0, s => ([], s)
  | n + 1, s => ((getCms n s).1 ++ [(getCm (getCms n s).2).1], (getCm (getCms n s).2).2)
theorem getCms_len (n : Nat) (s : PS) : (getCms n s).1.length = n := by
  induction n with
  | zero => rfl
  | succ n ih => show ((getCms n s).1 ++ [_]).length = _; rw [List.length_append, ih]; rfl
theorem getCms_left (n : Nat) (s : PS) : (getCms n s).2.1.length ≤ s.1.length := by
  induction n with
  | zero => exact Nat.le_refl _
  | succ n ih => exact Nat.le_trans (cmLeft _) ih
theorem getCms_got (n : Nat) (s : PS) : ∀ x ∈ (getCms n s).1, x.path.size ≤ s.1.length ∧ x.key.size ≤ s.1.length ∧ x.val.size ≤ s.1.length ∧ x.old.size ≤ s.1.length := by
  induction n with
  | zero => intro x hx; exact absurd hx (by simp [getCms])
  | succ n ih =>
    intro x hx
    have hx' : x ∈ (getCms n s).1 ++ [(getCm (getCms n s).2).1] := hx
    rcases List.mem_append.1 hx' with h | h
    · exact ih x h
    · have e := List.mem_singleton.1 h
      have h1 := cmGot (getCms n s).2
      have h2 := getCms_left n s
      rw [e]; omega
/-- A request's numbers and commands, and what is left behind them. -/
structure RdQ where
  client : Int
  seq : Int
  cmds : List Cm
  fin : PS
def rdQ (b : List UInt8) : RdQ :=
  ⟨(getNum 8 (b, 0)).1, (getNum 8 (getNum 8 (b, 0)).2).1, (getCms (getNum 1 (getNum 8 (getNum 8 (b, 0)).2).2).1.toNat (getNum 1 (getNum 8 (getNum 8 (b, 0)).2).2).2).1, (getCms (getNum 1 (getNum 8 (getNum 8 (b, 0)).2).2).1.toNat (getNum 1 (getNum 8 (getNum 8 (b, 0)).2).2).2).2⟩
/-- Why bytes are no request (0: they are one). -/
def errQ (b : List UInt8) : Int :=
  if (endG (rdQ b).fin).2 ≠ 0 then (endG (rdQ b).fin).2
  else if layQ (rdQ b).client (rdQ b).seq (rdQ b).cmds = (bs b, 0) then 0 else 6
theorem errQ_ok {b : List UInt8} (h : errQ b = 0) : layQ (rdQ b).client (rdQ b).seq (rdQ b).cmds = (bs b, 0) := by
  unfold errQ at h
  split at h
  · rename_i h1; exact absurd h h1
  · split at h
    · assumption
    · cases h
theorem layQ_iff {c s : Int} {l : List Cm} {b : List UInt8} (h : layQ c s l = (bs b, 0)) : checkQ c s l = 0 ∧ b = reqB c.toNat s.toNat l := by
  unfold layQ at h
  split at h
  · rename_i h0
    refine ⟨h0, ?_⟩
    have := congrArg (fun x => bts x.1) h
    simp only [bts_bs] at this
    exact this.symm
  · rename_i h0
    exact absurd (congrArg (fun x => x.2) h) h0
/-- What stands behind an entry's two numbers. -/
def restE (b : List UInt8) : PS := (getNum 4 (getNum 4 (b, 0)).2).2
/-- The entry that bytes tell (its row is given). -/
def enQ (b : List UInt8) (A : Option Addr) (n c : Nat) : En :=
  ⟨(getNum 4 (b, 0)).1, (getNum 4 (getNum 4 (b, 0)).2).1, (rdQ (restE b).1).client, (rdQ (restE b).1).seq, A, n, c, (rdQ (restE b).1).cmds⟩
/-- Why bytes are no entry (0: they are one). -/
def errE (b : List UInt8) : Int :=
  if (restE b).2 ≠ 0 then (restE b).2
  else if errQ (restE b).1 ≠ 0 then errQ (restE b).1
  else if layE (enQ b none 0 0) = (bs b, 0) then 0 else 6
theorem layE_row (b : List UInt8) (A : Option Addr) (n c : Nat) : layE (enQ b A n c) = layE (enQ b none 0 0) := rfl
theorem errE_ok {b : List UInt8} (h : errE b = 0) : layE (enQ b none 0 0) = (bs b, 0) := by
  unfold errE at h
  split at h
  · rename_i h1; exact absurd h h1
  · split at h
    · rename_i h1; exact absurd h h1
    · split at h
      · assumption
      · cases h
end Go.Proofs.Ytgigkekajdgngaa
