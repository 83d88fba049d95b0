/-
  FreeWaits: it is true. Condition: ids that can be read.
-/
import Derived.Test.YtdpgeoiehbijlaaGreatFreeWaitsP
namespace Go.Proofs.YtdpgeoiehbijlaaGreat
open Go Go.RowKit
attribute [local go_sem] cell_set_if

theorem fpend_of {base g : Nat} {s : Fs} {tx : Int} {v1 v2 : Value} {pl : List Int} {k : Nat} (hpl : pendS s tx = pl) (hk : pl.length = k) (hok : s.ok) (w : World) (h : FreeAt w base g s v1 v2) :
    Calls Tryz.prog 19 #[.pointer (some ⟨g, 0, none⟩), .int .i64 tx] w fun e w' => (∃ A c, e = .returned (.slice A k c) ∧ w'.ownsRow w.heap.size 3 1 (.slice A k c) k (flatZ pl)) ∧ Below w.heap.size w w' := by
  subst hk hpl
  exact (fpend_any base g s tx v1 v2 w h hok.len.2.1).mono fun e w' ⟨h1, h2⟩ => ⟨h1, h2⟩
theorem fpend_len {base g : Nat} {s : Fs} {tx : Int} {v1 v2 : Value} {k : Nat} (hk : (pendS s tx).length = k) (hok : s.ok) (w : World) (h : FreeAt w base g s v1 v2) :
    Calls Tryz.prog 19 #[.pointer (some ⟨g, 0, none⟩), .int .i64 tx] w fun e w' => (∃ A c, e = .returned (.slice A k c)) ∧ Below w.heap.size w w' := by
  subst hk
  exact (fpend_any base g s tx v1 v2 w h hok.len.2.1).mono fun e w' ⟨⟨A, c, h1, _⟩, h2⟩ => ⟨⟨A, c, h1⟩, h2⟩
theorem ffree_len {base g : Nat} {s : Fs} {v1 v2 : Value} {k : Nat} (hk : s.fr.length = k) (hok : s.ok) (w : World) (h : FreeAt w base g s v1 v2) :
    Calls Tryz.prog 18 #[.pointer (some ⟨g, 0, none⟩)] w fun e w' => (∃ A c, e = .returned (.slice A k c)) ∧ Below w.heap.size w w' := by
  subst hk
  exact (ffree_any base g s v1 v2 w h hok.len.1).mono fun e w' ⟨⟨A, c, h1, _⟩, h2⟩ => ⟨⟨A, c, h1⟩, h2⟩
theorem fpages_of {base g : Nat} {s : Fs} {v1 v2 : Value} {p : Int} (hp : s.pages = p) (w : World) (h : FreeAt w base g s v1 v2) :
    Calls Tryz.prog 25 #[.pointer (some ⟨g, 0, none⟩)] w fun e w' => e = .returned (.int .i64 p) ∧ w' = w := by
  subst hp
  exact fpages_any base g s v1 v2 w h
theorem fnew_of (pages : Int) (h0 : 2 ≤ pages) (h1 : pages ≤ 4000) (w : World) :
    Calls Tryz.prog 10 #[.int .i64 pages] w fun e w' => e = .returned (.pointer (some ⟨w.heap.size, 0, none⟩)) ∧ FreeAt w' w.heap.size w.heap.size ⟨pages, [], []⟩ (.slice none 0 0) (.slice none 0 0) ∧ Below w.heap.size w w' := by
  have h := fnew_any pages w
  rw [show min (max pages 2) 4000 = pages by omega] at h
  exact h
end Go.Proofs.YtdpgeoiehbijlaaGreat
