/-
  Arguments that are slices of children, opened. No condition of its own.
-/
import Derived.Test.YtldkhhipfoeckaaGreatRowRecs
import Derived.Test.YtldkhhipfoeckaaGreatKidP
namespace Go.Proofs.YtldkhhipfoeckaaGreat
open Go Go.RowKit Go.WideShapes Go.ChangeShapes Go.Deep
section
variable {H : Type} {enc : TypeId × Value → H} {P : Program} {w : World} {base : Nat} {spare : Nat → Bool} {held : Bool} {r : Reach}
theorem open_kids {t e ti ts : TypeId} {f0 f1 : Field} {v : Value} {d : DataW H} {p : List MemPlace} (ht : P.underlying t = some (.slice e)) (he : P.underlying e = some (.struct #[f0, f1])) (hone : oneCellFields P #[f0, f1] = true) (hC : P.cellsOf e = 2)
    (h0 : f0.type = ts) (h1 : f1.type = ti) (hi : P.underlying ti = some (.int .i64)) (hs : P.underlying ts = some .string) (hv : Value.okWide P w r base t v) (h : DataW.Trod enc P w 0 spare held t v d p) :
    ∃ (A : Option Addr) (n c : Nat) (ks : List Kd), v = .slice A n c ∧ Rd w A (flatK ks) ∧ ks.length = n ∧ n ≤ c ∧ c ≤ maxLen ∧ ∀ k ∈ ks, k.key.size ≤ maxLen ∧ -9223372036854775808 ≤ k.page ∧ k.page ≤ 9223372036854775807 := by
  refine open_recs Kd.cells (fun k => k.key.size ≤ maxLen ∧ -9223372036854775808 ≤ k.page ∧ k.page ≤ 9223372036854775807) ht he hone hC (fun _ => rfl) (fun cs hcs => ?_) hv h
  obtain ⟨m0, y0, e0⟩ := hcs 0 f0 rfl
  obtain ⟨m1, y1, e1⟩ := hcs 1 f1 rfl
  rw [h0] at e0
  rw [h1] at e1
  obtain ⟨s, es, _, hz⟩ := DataW.trod_string hs e0
  obtain ⟨b, eb, _, wb⟩ := DataW.trod_int hi e1
  refine ⟨⟨s, b⟩, ⟨hz, wf_i64 wb⟩, fun j u hu => ?_⟩
  simp at es eb
  match j, hu with
  | 0, hu => simp [Kd.cells] at hu; rw [es, ← hu]
  | 1, hu => simp [Kd.cells] at hu; rw [eb, ← hu]
  | j + 2, hu => simp [Kd.cells] at hu
end
end Go.Proofs.YtldkhhipfoeckaaGreat
