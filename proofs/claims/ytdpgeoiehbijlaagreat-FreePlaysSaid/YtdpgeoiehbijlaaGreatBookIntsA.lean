/-
  Lists of ints that a book keeps: marks, copies, and how they lie. Conditions: no more lists and elements than a hundred thousand.
-/
import Derived.Test.YtdpgeoiehbijlaaGreatOne
import Derived.Test.YtdpgeoiehbijlaaGreatBookNone
namespace Go.Proofs.YtdpgeoiehbijlaaGreat
open Go Go.RowKit
attribute [local go_sem] cell_set_if

def markZ (i k : Nat) : Int := -1000000 * (i : Int) - (k : Int) - 7
/-- The marks of the i-th list, from one place on. -/
def marksZ (i f n : Nat) : List Int := (List.range n).map fun j => markZ i (f + j)
theorem marksZ_len (i f n : Nat) : (marksZ i f n).length = n := by simp [marksZ]
theorem marksZ_succ (i f n : Nat) : marksZ i f (n + 1) = marksZ i f n ++ [markZ i (f + n)] := by simp [marksZ, List.range_succ]
theorem marksZ_at (i f n k : Nat) (h : k < n) : (marksZ i f n)[k]? = some (markZ i (f + k)) := by simp [marksZ, h]
theorem marksZ_app (i a b : Nat) : marksZ i 0 a ++ marksZ i a b = marksZ i 0 (a + b) := by
  induction b with
  | zero => simp [marksZ]
  | succ b ih => rw [marksZ_succ, ← List.append_assoc, ih, ← Nat.add_assoc, marksZ_succ]; simp
set_option maxRecDepth 100000 in
set_option maxHeartbeats 1000000 in
theorem markZ_any (i f n : Nat) (w : World) (hi1 : i ≤ 100000) (hf1 : f ≤ 100000) (hn1 : n ≤ 100000) :
    Calls Tryz.prog 93 #[.int .i64 i, .int .i64 f, .int .i64 n] w fun e w' => MadeZ w.heap.size e w' (marksZ i f n) ∧ Below w.heap.size w w' := by
  obtain ⟨i0, hi0, hz0, hz1, hz2⟩ := info_parts zinfo
  have hii : (i : Int) ≤ 100000 := by omega
  have hff : (f : Int) ≤ 100000 := by omega
  have hnn : (n : Int) ≤ 100000 := by omega
  go_enter Tryz.func93, Tryz.ntmps93
  go_wp2
  go_loopw [7, 8] (fun u7 u8 wr => ∃ k : Nat, k ≤ n ∧ u8 = .int .i64 ((f : Int) + k) ∧ wr.ownsRow w.heap.size 3 1 u7 k (flatZ (marksZ i f k)) ∧ Below w.heap.size w wr) (fun _ u8 _ => n - (intOf u8 - f).toNat)
  case atStart => exact ⟨0, by omega, by go_num, World.ownsRow_nil _ _ _ _, Below.refl _ _⟩
  case round =>
    obtain ⟨k, hk, rfl, hO, hB⟩ := hrel
    by_cases hlt : k < n
    · have hkn : (k : Int) < (n : Int) := by omega
      have HT : Hid (flatZ (marksZ i f (k + 1)) = flatZ (marksZ i f k) ++ [.int .i64 (-1000000 * (i : Int) - ((f : Int) + (k : Int)) - 7)]) := by
        unfold Hid; rw [marksZ_succ, flatZ_app]
        show _ ++ [Value.int .i64 (-1000000 * (i : Int) - ((f + k : Nat) : Int) - 7)] = _
        rw [show ((f + k : Nat) : Int) = (f : Int) + (k : Int) by omega]
      go_wp2_with (at_builtin
                   refine wpList_app rfl (.tmp 17) (.tmp 23) 22 rfl w.heap.size 3 i0 _ 1 8 Tryz.underlying22 hi0 hz0 hz1 hz2 rfl (by omega) u7 k _ rfl (hO.alloc _) _ 1 1 _ rfl (Rd.new wr _ 3) rfl (by simp [Value.oneCell']) (by unfold maxLen; omega) (by omega) (by have := hB.size; simp; omega) ?_
                   intro v5 w5 hown5 hg5 hb5 hat5)
      go_roundw
      case rel => exact ⟨k + 1, by omega, by go_num, by rw [HT.out]; exact hown5, (hB.alloc hB.size _).trans hb5⟩
      case measure => simp [intOf]; omega
    · obtain rfl : k = n := by omega
      obtain ⟨A1, c1, rfl, hc1⟩ := own_form hO
      go_wp2
      go_ret
      exact ⟨⟨A1, k, c1, marksZ_len _ _ _, rfl, hO⟩, hB⟩
theorem copyZ_any (A : Option Addr) (n c : Nat) (xs : List Int) (w : World) (hr : Rd w A (flatZ xs)) (hn : xs.length = n) (hn1 : n ≤ 100000) :
    Calls Tryz.prog 28 #[.slice A n c] w fun e w' => MadeZ w.heap.size e w' xs ∧ Below w.heap.size w w' := by
  obtain ⟨i0, hi0, hz0, hz1, hz2⟩ := info_parts zinfo
  go_enter Tryz.func28, Tryz.ntmps28
  go_wp2_with (at_builtin
               refine wpList_app rfl (.const (.slice none 0 0)) (.tmp 3) 22 rfl w.heap.size 3 i0 _ 1 8 Tryz.underlying22 hi0 hz0 hz1 hz2 rfl (by omega) (.slice none 0 0) 0 _ rfl (World.ownsRow_nil _ _ _ _) A n c (flatZ xs) rfl hr (by rw [flatZ_len, hn]) (flatZ_one xs) (by unfold maxLen; omega) (by omega) (Nat.le_refl _) ?_
               intro v5 w5 hown5 hg5 hb5 hat5
               rw [Nat.zero_add, List.nil_append] at hown5
               obtain ⟨A1, c1, rfl, hc1⟩ := own_form hown5)
  go_ret
  exact ⟨⟨A1, n, c1, hn, rfl, hown5⟩, hb5⟩
theorem sameZ_yes (A B : Option Addr) (n c d : Nat) (xs : List Int) (w : World) (ha : Rd w A (flatZ xs)) (hb : Rd w B (flatZ xs)) (hn : xs.length = n) (hl : n ≤ 1000000) :
    Calls Tryz.prog 22 #[.slice A n c, .slice B n d] w fun e w' => e = .returned (.bool true) ∧ Qt w w' :=
  (sameints_any A B n n c d xs xs w ha hb hn hn hl).mono fun e w' ⟨⟨b, he, h⟩, hq⟩ => ⟨by rw [he, h.2 rfl], hq⟩
/-- A book that keeps lists of ints alone. -/
def bookZ (v1 v2 : Value) : Array Value := #[.slice none 0 0, .slice none 0 0, v1, v2, .slice none 0 0, .slice none 0 0, .slice none 0 0, .slice none 0 0, .slice none 0 0, .slice none 0 0, .slice none 0 0, .slice none 0 0, .slice none 0 0, .slice none 0 0, .slice none 0 0, .slice none 0 0, .slice none 0 0, .slice none 0 0]
structure BookZ (base : Nat) (w : World) (g N : Nat) (f : Nat → List Int) (v1 v2 : Value) (V W : List Value) : Prop where
  lo : base ≤ g
  B : Blk w g 49 (bookZ v1 v2)
  r1 : w.ownsRow base 22 1 v1 N V
  r2 : w.ownsRow base 22 1 v2 N W
  rV : RowsZ w base V N f
  rW : RowsZ w base W N f
  ap : ApartV V
  ne : ∀ k, v1.ownBlock = some k → v2.ownBlock ≠ some k
theorem BookZ.below {base g N : Nat} {w w' : World} {f : Nat → List Int} {v1 v2 : Value} {V W : List Value} (h : BookZ base w g N f v1 v2 V W) (k : Below w.heap.size w w') : BookZ base w' g N f v1 v2 V W :=
  ⟨h.lo, h.B.below k, own_frm h.r1 (S := no) (Frm.of_below k) (fun _ _ h => h), own_frm h.r2 (S := no) (Frm.of_below k) (fun _ _ h => h), h.rV.below k, h.rW.below k, h.ap, h.ne⟩
end Go.Proofs.YtdpgeoiehbijlaaGreat
