/-
  Lists of ints that a book keeps: marks, copies, and how they lie. Conditions: no more lists and elements than a hundred thousand.
-/
import Derived.Test.YtmnndekpedacmaaRowsInts
import Derived.Test.YtmnndekpedacmaaIntMore
import Derived.Test.YtmnndekpedacmaaBookNone
namespace Go.Proofs.Ytmnndekpedacmaa
open Go Go.RowKit
attribute [local go_sem] cell_set_if

def markZ (i k : Nat) : Int := -1000000 * (i : Int) - (k : Int) - 7
/-- The marks of the i-th list, from one place on. -/
def marksZ (i f n : Nat) : List Int := (List.range n).map fun j => markZ i (f + j)
theorem marksZ_len (i f n : Nat) : (marksZ i f n).length = n := by simp [marksZ]
theorem marksZ_succ (i f n : Nat) : marksZ i f (n + 1) = marksZ i f n ++ [markZ i (f + n)] := by simp [marksZ, List.range_succ]
theorem marksZ_at (i f n k : Nat) (h : k < n) : (marksZ i f n)[k]? = some (markZ i (f + k)) := by simp [marksZ, h]
theorem marksZ_app (i a b : Nat) : marksZ i 0 a ++ marksZ i a b = marksZ i 0 (a + b) := by
  induction b with
  | zero => simp [marksZ]
  | succ b ih => rw [marksZ_succ, ← List.append_assoc, ih, ← Nat.add_assoc, marksZ_succ]; simp
theorem copyZ_any (A : Option Addr) (n c : Nat) (xs : List Int) (w : World) (hr : Rd w A (flatZ xs)) (hn : xs.length = n) (hn1 : n ≤ 100000) :
    Calls Try.prog 37 #[.slice A n c] w fun e w' => MadeZ w.heap.size e w' xs ∧ Below w.heap.size w w' := by
  obtain ⟨i0, hi0, hz0, hz1, hz2⟩ := info_parts zinfo
  go_enter Try.func37, Try.ntmps37
  go_wp2_with (at_builtin
               refine wpList_app rfl (.const (.slice none 0 0)) (.tmp 3) 23 rfl w.heap.size 3 i0 _ 1 8 Try.underlying23 hi0 hz0 hz1 hz2 rfl (by omega) (.slice none 0 0) 0 _ rfl (World.ownsRow_nil _ _ _ _) A n c (flatZ xs) rfl hr (by rw [flatZ_len, hn]) (flatZ_one xs) (by unfold maxLen; omega) (by omega) (Nat.le_refl _) ?_
               intro v5 w5 hown5 hg5 hb5 hat5
               rw [Nat.zero_add, List.nil_append] at hown5
               obtain ⟨A1, c1, rfl, hc1⟩ := own_form hown5)
  go_ret
  exact ⟨⟨A1, n, c1, hn, rfl, hown5⟩, hb5⟩
theorem sameZ_yes (A B : Option Addr) (n c d : Nat) (xs : List Int) (w : World) (ha : Rd w A (flatZ xs)) (hb : Rd w B (flatZ xs)) (hn : xs.length = n) (hl : n ≤ 1000000) :
    Calls Try.prog 41 #[.slice A n c, .slice B n d] w fun e w' => e = .returned (.bool true) ∧ Qt w w' :=
  (sameints_any A B n n c d xs xs w ha hb hn hn hl).mono fun e w' ⟨⟨b, he, h⟩, hq⟩ => ⟨by rw [he, h.2 rfl], hq⟩
/-- A book that keeps lists of ints alone. -/
def bookZ (v1 v2 : Value) : Array Value := #[.slice none 0 0, .slice none 0 0, v1, v2, .slice none 0 0, .slice none 0 0, .slice none 0 0, .slice none 0 0, .slice none 0 0, .slice none 0 0, .slice none 0 0, .slice none 0 0, .slice none 0 0, .slice none 0 0, .slice none 0 0, .slice none 0 0, .slice none 0 0, .slice none 0 0]
structure BookZ (base : Nat) (w : World) (g N : Nat) (f : Nat → List Int) (v1 v2 : Value) (V W : List Value) : Prop where
  lo : base ≤ g
  B : Blk w g 0 (bookZ v1 v2)
  r1 : w.ownsRow base 23 1 v1 N V
  r2 : w.ownsRow base 23 1 v2 N W
  rV : RowsZ w base V N f
  rW : RowsZ w base W N f
  ap : ApartV V
  ne : ∀ k, v1.ownBlock = some k → v2.ownBlock ≠ some k
theorem BookZ.below {base g N : Nat} {w w' : World} {f : Nat → List Int} {v1 v2 : Value} {V W : List Value} (h : BookZ base w g N f v1 v2 V W) (k : Below w.heap.size w w') : BookZ base w' g N f v1 v2 V W :=
  ⟨h.lo, h.B.below k, own_frm h.r1 (S := no) (Frm.of_below k) (fun _ _ h => h), own_frm h.r2 (S := no) (Frm.of_below k) (fun _ _ h => h), h.rV.below k, h.rW.below k, h.ap, h.ne⟩
end Go.Proofs.Ytmnndekpedacmaa
