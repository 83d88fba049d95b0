/-
  What big.Read gives over the law's closure. Condition: the pages and the two variables lie as told.
-/
import Derived.Test.YtejmpfmkaiaklaaBigGet
import Derived.Test.YtejmpfmkaiaklaaBigPartsP
namespace Go.Proofs.Ytejmpfmkaiaklaa
open Go Go.RowKit
attribute [local go_sem] cell_set_if

/-- The closure's variables and pages, as they lie. -/
structure GetW (w : World) (gl gk b o c N : Nat) (first tx lost : Int) (v : ByteArray) : Prop where
  l : w.cell? ⟨gl, 0, none⟩ = some (.slice (some ⟨b, o, none⟩) N c)
  k : w.cell? ⟨gk, 0, none⟩ = some (.int .i64 lost)
  p : ∀ j x, (pagesV first tx v N)[j]? = some x → w.cell? ⟨b, o + j, none⟩ = some x
  hb : b < w.heap.size
  hgl : gl < w.heap.size
  hgk : gk < w.heap.size
theorem GetW.below {w w' : World} {gl gk b o c N : Nat} {first tx lost : Int} {v : ByteArray} (h : GetW w gl gk b o c N first tx lost v) (hB : Below w.heap.size w w') : GetW w' gl gk b o c N first tx lost v :=
  ⟨((below_cells hB).1 gl 0 h.hgl).trans h.l, ((below_cells hB).1 gk 0 h.hgk).trans h.k, fun j x hj => ((below_cells hB).1 b _ h.hb).trans (h.p j x hj), Nat.lt_of_lt_of_le h.hb hB.size, Nat.lt_of_lt_of_le h.hgl hB.size, Nat.lt_of_lt_of_le h.hgk hB.size⟩
theorem get_yes {w : World} {gl gk b o c N : Nat} {first tx lost : Int} {v : ByteArray} (h : GetW w gl gk b o c N first tx lost v) (h0 : 0 ≤ first) (h1 : first ≤ 5000) (hN : N ≤ 9) (k : Nat) (hk : k < N) (hl : (k : Int) ≠ lost) :
    Calls Try.prog 23 #[.int .i64 (first + k), .pointer (some ⟨gl, 0, none⟩), .pointer (some ⟨gk, 0, none⟩)] w fun e w' => e = .returned (.tuple #[pageV 5 (first + k) tx (partB v k), .int .i64 0]) ∧ Below w.heap.size w w' := by
  refine (get_any w gl gk b o c N first tx lost (first + k) v h0 h1 hN h.l h.k h.p h.hb h.hgl h.hgk).mono ?_
  rintro e w' ⟨⟨j, hj, hjk, _, rfl⟩ | ⟨hn, _⟩, hb⟩
  · obtain rfl : k = j := by omega
    exact ⟨rfl, hb⟩
  · exact absurd (hn k hk rfl) hl
theorem get_no {w : World} {gl gk b o c N : Nat} {first tx lost : Int} {v : ByteArray} (h : GetW w gl gk b o c N first tx lost v) (h0 : 0 ≤ first) (h1 : first ≤ 5000) (hN : N ≤ 9) (k : Nat) (hk : N ≤ k ∨ (k : Int) = lost) :
    Calls Try.prog 23 #[.int .i64 (first + k), .pointer (some ⟨gl, 0, none⟩), .pointer (some ⟨gk, 0, none⟩)] w fun e w' => e = .returned (.tuple #[noPage, .int .i64 8]) ∧ Below w.heap.size w w' := by
  refine (get_any w gl gk b o c N first tx lost (first + k) v h0 h1 hN h.l h.k h.p h.hb h.hgl h.hgk).mono ?_
  rintro e w' ⟨⟨j, hj, hjk, hl, rfl⟩ | ⟨_, rfl⟩, hb⟩
  · obtain rfl : k = j := by omega
    rcases hk with hk | hk
    · omega
    · exact absurd hk hl
  · exact ⟨rfl, hb⟩
end Go.Proofs.Ytejmpfmkaiaklaa
