/-
  A message's entries as bytes, in plain words. No condition of its own.
-/
import Derived.Test.YtgigkekajdgngaaReqP
namespace Go.Proofs.Ytgigkekajdgngaa
open Go Go.RowKit

theorem layE_ok {x : En} (h : (layE x).2 = 0) : (0 ≤ x.index ∧ x.index ≤ 2147483647) ∧ (0 ≤ x.term ∧ x.term ≤ 2147483647) ∧ checkQ x.client x.seq x.cmds = 0 ∧ layE x = (bs (lowB x.index.toNat 4 ++ lowB x.term.toNat 4 ++ reqB x.client.toNat x.seq.toNat x.cmds), 0) := by
  unfold layE at h ⊢
  split at h
  · cases h
  · rename_i h1
    split at h
    · rename_i h2
      refine ⟨by omega, by omega, h2, ?_⟩
      rw [if_neg h1, if_pos h2]
    · rename_i h2
      exact absurd h h2
theorem layE_size {x : En} (h : (layE x).2 = 0) : (layE x).1.size ≤ 8008 := by
  obtain ⟨_, _, hq, he⟩ := layE_ok h
  have h3 := (checkQ_ok hq).2.2.2.2.2
  rw [he, ← bts_len, bts_bs, List.length_append, List.length_append, lowB_len, lowB_len]
  omega
/-- The first entries as bytes, each with its length ahead. -/
def entsB (l : List En) : List UInt8 := l.flatMap fun x => textB (layE x).1
def entsOk (l : List En) : Bool := l.all fun x => decide ((layE x).2 = 0)
theorem entsB_take (l : List En) (k : Nat) (x : En) (h : l[k]? = some x) : entsB (l.take (k + 1)) = entsB (l.take k) ++ textB (layE x).1 := by
  unfold entsB
  rw [List.take_add_one, h, List.flatMap_append]
  simp
theorem entsB_len {l : List En} (h : ∀ x ∈ l, (layE x).2 = 0) : (entsB l).length ≤ l.length * 8010 := by
  unfold entsB
  induction l with
  | nil => simp
  | cons x l ih =>
    have h1 := layE_size (h x (by simp))
    have h2 := ih fun y hy => h y (by simp [hy])
    have h3 := textB_len (layE x).1
    rw [List.flatMap_cons, List.length_append, List.length_cons]
    omega
theorem entsOk_iff {l : List En} : entsOk l = true ↔ ∀ x ∈ l, (layE x).2 = 0 := by
  unfold entsOk
  simp only [List.all_eq_true, decide_eq_true_eq]
theorem entsOk_bad {l : List En} {k : Nat} {x : En} (h : l[k]? = some x) (hb : (layE x).2 ≠ 0) : entsOk l = false := by
  cases h1 : entsOk l
  · rfl
  · exact absurd (entsOk_iff.1 h1 x (List.mem_of_getElem? h)) hb
end Go.Proofs.Ytgigkekajdgngaa
