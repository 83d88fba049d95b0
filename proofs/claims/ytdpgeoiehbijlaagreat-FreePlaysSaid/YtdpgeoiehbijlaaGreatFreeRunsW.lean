/-
  FreeRuns: it is true. Condition: a list that can be read.
-/
import Derived.Test.YtdpgeoiehbijlaaGreatFreeRunsP
import Derived.Test.YtdpgeoiehbijlaaGreatFreeWaitsW
namespace Go.Proofs.YtdpgeoiehbijlaaGreat
open Go Go.RowKit
attribute [local go_sem] cell_set_if

theorem fall_of {base g : Nat} {s : Fs} {v1 v2 : Value} {L : List Int} {k : Nat} (hL : allS s = L) (hk : L.length = k) (hok : s.ok) (w : World) (h : FreeAt w base g s v1 v2) :
    Calls Tryz.prog 20 #[.pointer (some ⟨g, 0, none⟩)] w fun e w' => (∃ A c, e = .returned (.slice A k c) ∧ Rd w' A (flatZ L)) ∧ Below w.heap.size w w' := by
  subst hk hL
  exact (fall_any base g s v1 v2 w h hok.len.1 hok.len.2.1).mono fun e w' ⟨⟨A, c, h1, h3⟩, h2⟩ => ⟨⟨A, c, h1, Rd.of_own h3⟩, h2⟩
theorem allS_len {s : Fs} (h : s.ok) : (allS s).length ≤ 4000 := by
  unfold allS idsP; rw [sortZ_len, List.length_append, List.length_map]; exact h.len.2.2
theorem frel_of {base g k : Nat} {s s' : Fs} {b : Int} {v1 v2 : Value} (hrel : relS s b = (s', k)) (hok : s.ok) (w : World) (h : FreeAt w base g s v1 v2) :
    Calls Tryz.prog 15 #[.pointer (some ⟨g, 0, none⟩), .int .i64 b] w fun e w' => e = .returned (.int .i64 (k : Nat)) ∧ ∃ v1' v2', FreeAt w' base g s' v1' v2' ∧ TurnF g v1 v2 w v1' v2' w' := by
  have := frel_any base g s b v1 v2 w h hok (by have := h.mine_lt g (.inl rfl); omega)
  rw [hrel] at this
  exact this
theorem ftake_of {base g : Nat} {s s' : Fs} {n a f : Int} {v1 v2 : Value} (ht : takeS s n = ((a, f), s')) (hok : s.ok) (w : World) (h : FreeAt w base g s v1 v2) :
    Calls Tryz.prog 11 #[.pointer (some ⟨g, 0, none⟩), .int .i64 n] w fun e w' => e = .returned (.tuple #[.int .i64 a, .int .i64 f]) ∧ ∃ v1' v2', FreeAt w' base g s' v1' v2' ∧ TurnF g v1 v2 w v1' v2' w' := by
  have := ftake_any base g s n v1 v2 w h hok
  unfold TookF at this
  rw [ht] at this
  exact this
end Go.Proofs.YtdpgeoiehbijlaaGreat
