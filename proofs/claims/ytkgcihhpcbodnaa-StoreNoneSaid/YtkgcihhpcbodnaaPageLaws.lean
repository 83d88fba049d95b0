/-
  What the first call of page's laws answers, and the document's ValidPage; Lay for every page. Condition: a body no longer than memory holds.
-/
import Derived.Test.YtkgcihhpcbodnaaPageRead
namespace Go.Proofs.Ytkgcihhpcbodnaa
open Go Go.RowKit
attribute [local go_sem] cell_set_if

section
variable {p : Pg}
theorem kindB_lay (h : p.ok) : kindB (layL p) = p.k := congrArg Pg.k (pgB_lay h)
theorem idB_lay (h : p.ok) : idB (layL p) = p.i := congrArg Pg.i (pgB_lay h)
theorem txB_lay (h : p.ok) : txB (layL p) = p.t := congrArg Pg.t (pgB_lay h)
theorem bodyB_lay (h : p.ok) : bodyB (layL p) = p.body := congrArg Pg.body (pgB_lay h)
end
theorem lay_size {k i t : Nat} {bd : ByteArray} (h : (⟨k, i, t, bts bd⟩ : Pg).ok) : (bs (layL ⟨k, i, t, bts bd⟩)).size = 256 := by rw [bs_size]; exact layL_len h
theorem read_lay (k i t : Nat) (bd : ByteArray) (w : World) (h : (⟨k, i, t, bts bd⟩ : Pg).ok) :
    Calls Try.prog 21 #[str (layL ⟨k, i, t, bts bd⟩)] w fun e w' => e = .returned (.tuple #[pageV k i t bd, .int .i64 0]) ∧ Below w.heap.size w w' := by
  have := read_any (bs (layL ⟨k, i, t, bts bd⟩)) w (lay_size h)
  unfold readV at this
  rw [bts_bs, errB_lay h, if_pos rfl, kindB_lay h, idB_lay h, txB_lay h, bodyB_lay h] at this
  simp only [bs_bts] at this
  exact this
theorem Pc.lt {w : World} {g : Nat} {k i t : Int} {bd : ByteArray} (h : Pc w g k i t bd) : g < w.heap.size := block_lt_of_cell h.1
theorem Pc.step {w w' : World} {g : Nat} {k i t : Int} {bd : ByteArray} (h : Pc w g k i t bd) (hb : Below w.heap.size w w') : Pc w' g k i t bd := h.below hb h.lt
theorem Pc.alloc {w : World} {g : Nat} {k i t : Int} {bd : ByteArray} (h : Pc w g k i t bd) (o : Obj) : Pc (w.alloc o) g k i t bd := h.step ((Below.refl _ _).alloc (Nat.le_refl _) o)
theorem Pc.new (w : World) (k i t : Int) (bd : ByteArray) (T : TypeId) : Pc (w.alloc (.cells #[.int .i64 k, .int .i64 i, .int .i64 t, .string bd] T)) w.heap.size k i t bd := by
  unfold Pc; simp [World.cell?_alloc_new]

theorem Pc.new_at (w : World) (k i t : Int) (bd : ByteArray) (T : TypeId) (g : Nat) (hg : g = w.heap.size) : Pc (w.alloc (.cells #[.int .i64 k, .int .i64 i, .int .i64 t, .string bd] T)) g k i t bd := by
  subst hg; exact Pc.new w k i t bd T

set_option maxHeartbeats 1000000 in
theorem refvalid_any (k i t : Int) (bd : ByteArray) (w : World) (hz : bd.size ≤ 9223372036854775807) :
    Calls Try.prog 18 #[pageV k i t bd] w fun e w' => e = .returned (.bool (decide (okP k i t bd.size))) ∧ Below w.heap.size w w' := by
  have hc : okP k i t bd.size ∨ k < 1 ∨ (1 ≤ k ∧ 5 < k) ∨ (1 ≤ k ∧ k ≤ 5 ∧ i < 0) ∨ (1 ≤ k ∧ k ≤ 5 ∧ 0 ≤ i ∧ 4000 ≤ i) ∨ (1 ≤ k ∧ k ≤ 5 ∧ 0 ≤ i ∧ i < 4000 ∧ t < 0) ∨ (1 ≤ k ∧ k ≤ 5 ∧ 0 ≤ i ∧ i < 4000 ∧ 0 ≤ t ∧ 1099511627776 < t) ∨ (1 ≤ k ∧ k ≤ 5 ∧ 0 ≤ i ∧ i < 4000 ∧ 0 ≤ t ∧ t ≤ 1099511627776 ∧ (232 : Int) < (bd.size : Int)) := by
    unfold okP; omega
  rcases hc with h | h | ⟨h1, h2⟩ | ⟨h1, h2, h3⟩ | ⟨h1, h2, h3, h4⟩ | ⟨h1, h2, h3, h4, h5⟩ | ⟨h1, h2, h3, h4, h5, h6⟩ | ⟨h1, h2, h3, h4, h5, h6, h7⟩
  · rw [decide_eq_true h]
    obtain ⟨h1, h2, h3, h4, h5, h6, h7⟩ := h
    have h7' : (bd.size : Int) ≤ 232 := by omega
    go_enter Try.func18, Try.ntmps18
    go_wp2
    go_ret
    exact ⟨rfl, (Below.refl _ _).alloc (Nat.le_refl _) _⟩
  all_goals
    rw [decide_eq_false (p := okP k i t bd.size) (by unfold okP; omega)]
    go_enter Try.func18, Try.ntmps18
    go_wp2
    go_ret
    exact ⟨ret_bool (by first | rfl | (simp; omega)), (Below.refl _ _).alloc (Nat.le_refl _) _⟩

/-- What Lay answers. -/
def layE (k i t : Int) (bd : ByteArray) : Nat := if okP k i t bd.size then 0 else 1
def layS (k i t : Int) (bd : ByteArray) : ByteArray := if okP k i t bd.size then bs (layL ⟨k.toNat, i.toNat, t.toNat, bts bd⟩) else ⟨#[]⟩
theorem lay_all (k i t : Int) (bd : ByteArray) (w : World) (hz : bd.size ≤ 9223372036854775807) :
    Calls Try.prog 30 #[pageV k i t bd] w fun e w' => e = .returned (.tuple #[.string (layS k i t bd), .int .i64 (layE k i t bd)]) ∧ Below w.heap.size w w' := by
  unfold layS layE
  by_cases h : okP k i t bd.size
  · rw [if_pos h, if_pos h]
    obtain ⟨k, rfl⟩ := Int.eq_ofNat_of_zero_le (show 0 ≤ k by have := h.1; omega)
    obtain ⟨i, rfl⟩ := Int.eq_ofNat_of_zero_le (show 0 ≤ i from h.2.2.1)
    obtain ⟨t, rfl⟩ := Int.eq_ofNat_of_zero_le (show 0 ≤ t from h.2.2.2.2.1)
    exact lay_ok k i t bd w (okP_ok.1 h)
  · rw [if_neg h, if_neg h]
    exact lay_no k i t bd w hz h

end Go.Proofs.Ytkgcihhpcbodnaa
