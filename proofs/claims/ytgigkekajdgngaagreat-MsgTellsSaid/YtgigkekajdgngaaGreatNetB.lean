/-
  slices.IndexFunc and slices.DeleteFunc over two ends. Conditions: a row of the call's own; no more than a million.
-/
import Derived.Test.YtgigkekajdgngaaGreatNetA
import Derived.Test.YtgigkekajdgngaaGreatDelP
import Derived.Test.YtgigkekajdgngaaGreatClear
import Derived.Test.YtgigkekajdgngaaGreatRowsInts
import Derived.Lib.BufferMore
import Derived.LaidEqlPtr
namespace Go.Proofs.YtgigkekajdgngaaGreat
open Go Go.RowKit
attribute [local go_sem] cell_set_if

theorem tflat_set  (xs : List Ct) (k : Nat) (x : Ct) : ((flatT xs).set (k * 2) (.int .i64 x.a)).set (k * 2 + 1) (.int .i64 x.b) = flatT (xs.set k x) := by
  induction xs generalizing k with
  | nil => rfl
  | cons y ys ih =>
    have e : ∀ (z : Ct) zs, flatT (z :: zs) = (.int .i64 z.a) :: (.int .i64 z.b) :: flatT zs := fun _ _ => rfl
    cases k with
    | zero => rw [e]; rfl
    | succ k =>
      rw [e, List.set_cons_succ, e, ← ih k, show (k + 1) * 2 + 1 = (k * 2 + 1) + 1 + 1 by omega, show (k + 1) * 2 = k * 2 + 1 + 1 by omega, List.set_cons_succ, List.set_cons_succ, List.set_cons_succ, List.set_cons_succ]
theorem tflat_take  (xs : List Ct) (k : Nat) : (flatT xs).take (k * 2) = flatT (xs.take k) := by
  induction xs generalizing k with
  | nil => simp [flatT]
  | cons y ys ih =>
    have e : ∀ (z : Ct) zs, flatT (z :: zs) = (.int .i64 z.a) :: (.int .i64 z.b) :: flatT zs := fun _ _ => rfl
    cases k with
    | zero => simp [flatT]
    | succ k => rw [e, List.take_succ_cons, e, ← ih k, show (k + 1) * 2 = k * 2 + 1 + 1 by omega, List.take_succ_cons, List.take_succ_cons]
theorem Rd.trec  {w : World} {A : Option Addr} {ks : List Ct} (h : Rd w A (flatT ks)) {k : Nat} (hk : k < ks.length) : ∃ b o x, A = some ⟨b, o, none⟩ ∧ b < w.heap.size ∧ ks[k]? = some x ∧ w.cell? ⟨b, o + k * 2, none⟩ = some (.int .i64 x.a) ∧ w.cell? ⟨b, o + k * 2 + 1, none⟩ = some (.int .i64 x.b) := by
  obtain ⟨x, hx⟩ : ∃ x, ks[k]? = some x := ⟨ks[k]'hk, List.getElem?_eq_getElem _⟩
  obtain ⟨b, o, e, hb, hc⟩ := h.flat (by rw [flatT_len]; omega)
  refine ⟨b, o, x, e, hb, hx, ?_, ?_⟩
  · have := hc _ _ (flatT_at ks k x hx 0 _ rfl); simpa using this
  · have := hc _ _ (flatT_at ks k x hx 1 _ rfl); rwa [← Nat.add_assoc] at this

end Go.Proofs.YtgigkekajdgngaaGreat
