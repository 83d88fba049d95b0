/-
  A message read from bytes, in plain words. No condition of its own.
-/
import Derived.Test.YtgigkekajdgngaaGreatMsgQ
namespace Go.Proofs.YtgigkekajdgngaaGreat
open Go Go.RowKit

/-- So many texts. -/
def getTs : Nat → PS → List ByteArray × PS
  | 0, s => ([], s)
  | n + 1, s => ((getTs n s).1 ++ [bs (getText (getTs n s).2).1], (getText (getTs n s).2).2)
theorem getTs_len (n : Nat) (s : PS) : (getTs n s).1.length = n := by
  induction n with
  | zero => rfl
  | succ n ih => show ((getTs n s).1 ++ [_]).length = _; rw [List.length_append, ih]; rfl
theorem getTs_left (n : Nat) (s : PS) : (getTs n s).2.1.length ≤ s.1.length := by
  induction n with
  | zero => exact Nat.le_refl _
  | succ n ih => exact Nat.le_trans (textLeft _) ih
theorem getTs_got (n : Nat) (s : PS) : ∀ t ∈ (getTs n s).1, t.size ≤ s.1.length := by
  induction n with
  | zero => intro x hx; exact absurd hx (by simp [getTs])
  | succ n ih =>
    intro x hx
    have hx' : x ∈ (getTs n s).1 ++ [bs (getText (getTs n s).2).1] := hx
    rcases List.mem_append.1 hx' with h | h
    · exact ih x h
    · have e := List.mem_singleton.1 h
      have h1 := textGot (getTs n s).2
      have h2 := getTs_left n s
      rw [e, bs_size]; omega
theorem getTs_mono {k n : Nat} (s : PS) (h : k ≤ n) : (getTs k s).1 <+: (getTs n s).1 := by
  induction n with
  | zero => obtain rfl : k = 0 := by omega
            exact List.prefix_refl _
  | succ n ih =>
    by_cases e : k = n + 1
    · subst e; exact List.prefix_refl _
    · exact (ih (by omega)).trans ⟨[bs (getText (getTs n s).2).1], rfl⟩
/-- An entry without its row. -/
def plE (x : En) : En := { x with A := none, c := 0 }
def enP (t : ByteArray) : En := enQ (bts t) none (rdQ (restE (bts t)).1).cmds.length 0
def okTs (l : List ByteArray) : Bool := l.all fun t => decide (errE (bts t) = 0)
theorem okTs_iff {l : List ByteArray} : okTs l = true ↔ ∀ t ∈ l, errE (bts t) = 0 := by
  unfold okTs
  simp only [List.all_eq_true, decide_eq_true_eq]
/-- What a message's bytes say ahead of its entries: its numbers, its mark, its text, how many entries; what is left. -/
structure HdM where
  kind : Int
  a : Int
  b : Int
  c : Int
  d : Int
  r : Int
  ok : Int
  txt : ByteArray
  n : Int
  fin : PS
def hdM (l : List UInt8) : HdM :=
  let s1 := getNum 1 (l, 0)
  let s2 := getNum 4 s1.2
  let s3 := getNum 4 s2.2
  let s4 := getNum 4 s3.2
  let s5 := getNum 4 s4.2
  let s6 := getNum 4 s5.2
  let s7 := getNum 1 s6.2
  let s8 := getText s7.2
  let s9 := getNum 1 s8.2
  ⟨s1.1, s2.1, s3.1, s4.1, s5.1, s6.1, s7.1, bs s8.1, s9.1, s9.2⟩
def tsM (l : List UInt8) : List ByteArray := (getTs (hdM l).n.toNat (hdM l).fin).1
def rdM (l : List UInt8) : Ms := ⟨(hdM l).kind, (hdM l).a, (hdM l).b, (hdM l).c, (hdM l).d, (hdM l).r, decide ((hdM l).ok = 1), (hdM l).txt, (tsM l).map enP⟩
/-- Why bytes are no message (0: they are one). -/
def errM (b : ByteArray) : Int :=
  if ((openL (bts b)).2 : Int) ≠ 0 then (openL (bts b)).2
  else if okTs (tsM (openL (bts b)).1) = false then 6
  else if layM (rdM (openL (bts b)).1) = (b, 0) then 0 else 6
theorem errM_ok {b : ByteArray} (h : errM b = 0) : layM (rdM (openL (bts b)).1) = (b, 0) := by
  unfold errM at h
  split at h
  · rename_i h1; exact absurd h h1
  · split at h
    · exact absurd h (by decide)
    · split at h
      · assumption
      · exact absurd h (by decide)
theorem layM_plain (m : Ms) (l : List En) (h : m.es.map plE = l.map plE) : layM m = layM { m with es := l } := by
  have hlen : m.es.length = l.length := by
    have := congrArg List.length h
    simpa using this
  have ho : ∀ k : List En, entsOk (k.map plE) = entsOk k := fun k => by
    unfold entsOk
    rw [List.all_map]
    rfl
  have hb : ∀ k : List En, entsB (k.map plE) = entsB k := fun k => by
    unfold entsB
    rw [List.flatMap_map]
    rfl
  unfold layM Ms.bad Ms.body Ms.nums
  simp only [hlen]
  rw [← ho m.es, h, ho l, ← hb m.es, h, hb l]
theorem hdM_n (l : List UInt8) : 0 ≤ (hdM l).n ∧ (hdM l).n < 256 := numByte _
end Go.Proofs.YtgigkekajdgngaaGreat
