/-
  A request as bytes, in plain words: what can be a command, why a request can't be, how it is laid. No condition of its own.
-/
import Derived.Test.YtgigkekajdgngaaEntP
namespace Go.Proofs.Ytgigkekajdgngaa
open Go Go.RowKit

/-- A text with its length ahead. -/
def textB (s : ByteArray) : List UInt8 := lowB s.size 2 ++ bts s
theorem textB_len (s : ByteArray) : (textB s).length = s.size + 2 := by
  unfold textB
  rw [List.length_append, lowB_len]
  have : (bts s).length = s.size := by show s.data.toList.length = s.data.size; rw [Array.length_toList]
  omega
/-- A command as bytes. -/
def cmB (x : Cm) : List UInt8 := lowB x.kind.toNat 1 ++ textB x.path ++ textB x.key ++ textB x.val ++ textB x.old
theorem cmB_len (x : Cm) : (cmB x).length = x.path.size + x.key.size + x.val.size + x.old.size + 9 := by
  unfold cmB
  simp only [List.length_append, lowB_len, textB_len]
  omega
/-- Can it be? -/
def validC (x : Cm) : Bool := decide (1 ≤ x.kind) && decide (x.kind ≤ 9) && decide (x.path.size ≤ 140) && decide (x.key.size ≤ 3000) && decide (x.val.size ≤ 3000) && decide (x.old.size ≤ 3000)
theorem validC_iff {x : Cm} : validC x = true ↔ (1 ≤ x.kind ∧ x.kind ≤ 9) ∧ x.path.size ≤ 140 ∧ x.key.size ≤ 3000 ∧ x.val.size ≤ 3000 ∧ x.old.size ≤ 3000 := by
  unfold validC
  simp only [Bool.and_eq_true, decide_eq_true_eq]
  constructor
  · rintro ⟨⟨⟨⟨⟨h1, h2⟩, h3⟩, h4⟩, h5⟩, h6⟩
    exact ⟨⟨h1, h2⟩, h3, h4, h5, h6⟩
  · rintro ⟨⟨h1, h2⟩, h3, h4, h5, h6⟩
    exact ⟨⟨⟨⟨⟨h1, h2⟩, h3⟩, h4⟩, h5⟩, h6⟩
def cmsB (l : List Cm) : List UInt8 := l.flatMap cmB
theorem cmsB_take (l : List Cm) (k : Nat) (x : Cm) (h : l[k]? = some x) : cmsB (l.take (k + 1)) = cmsB (l.take k) ++ cmB x := by
  unfold cmsB
  rw [List.take_add_one, h, List.flatMap_append]
  simp
theorem cmsB_len {l : List Cm} (h : ∀ x ∈ l, validC x = true) : (cmsB l).length ≤ l.length * 9149 := by
  unfold cmsB
  induction l with
  | nil => simp
  | cons x l ih =>
    have h1 := validC_iff.1 (h x (by simp))
    have h2 := ih fun y hy => h y (by simp [hy])
    have h3 := cmB_len x
    rw [List.flatMap_cons, List.length_append, List.length_cons]
    omega
/-- A request as bytes. -/
def reqB (client seq : Nat) (l : List Cm) : List UInt8 := lowB client 8 ++ lowB seq 8 ++ lowB l.length 1 ++ cmsB l
theorem reqB_len (client seq : Nat) (l : List Cm) : (reqB client seq l).length = 17 + (cmsB l).length := by
  unfold reqB
  simp only [List.length_append, lowB_len]
/-- Why a request can't be (0: it can). -/
def checkQ (client seq : Int) (l : List Cm) : Int :=
  if client < 0 ∨ 1099511627776 < client ∨ seq < 0 ∨ 1099511627776 < seq ∨ l = [] then 1
  else if 6 < l.length then 2
  else if l.all validC then (if 8000 < (reqB client.toNat seq.toNat l).length then 2 else 0)
  else 1
theorem checkQ_ok {client seq : Int} {l : List Cm} (h : checkQ client seq l = 0) : (0 ≤ client ∧ client ≤ 1099511627776) ∧ (0 ≤ seq ∧ seq ≤ 1099511627776) ∧ l ≠ [] ∧ l.length ≤ 6 ∧ (∀ x ∈ l, validC x = true) ∧ (reqB client.toNat seq.toNat l).length ≤ 8000 := by
  unfold checkQ at h
  split at h
  · cases h
  · rename_i h1
    split at h
    · cases h
    · rename_i h2
      split at h
      · rename_i h3
        split at h
        · cases h
        · rename_i h4
          refine ⟨⟨by omega, by omega⟩, ⟨by omega, by omega⟩, fun e => h1 (by simp [e]), by omega, List.all_eq_true.1 h3, by omega⟩
      · cases h
/-- A request as it is laid, or why not. -/
def layQ (client seq : Int) (l : List Cm) : ByteArray × Int := if checkQ client seq l = 0 then (bs (reqB client.toNat seq.toNat l), 0) else (bs [], checkQ client seq l)
/-- An entry as it is laid, or why not. -/
def layE (x : En) : ByteArray × Int :=
  if x.index < 0 ∨ 2147483647 < x.index ∨ x.term < 0 ∨ 2147483647 < x.term then (bs [], 1)
  else if checkQ x.client x.seq x.cmds = 0 then (bs (lowB x.index.toNat 4 ++ lowB x.term.toNat 4 ++ reqB x.client.toNat x.seq.toNat x.cmds), 0)
  else (bs [], checkQ x.client x.seq x.cmds)
end Go.Proofs.Ytgigkekajdgngaa
