/-
  Lists of items that a book keeps: marks, copies, and how they lie. Conditions: no more lists and elements than a hundred thousand.
-/
import Derived.Test.YtldkhhipfoeckaaGreatRowsItems
import Derived.Test.YtldkhhipfoeckaaGreatItemMore
import Derived.Test.YtldkhhipfoeckaaGreatBookNone
namespace Go.Proofs.YtldkhhipfoeckaaGreat
open Go Go.RowKit
attribute [local go_sem] cell_set_if

def markI (i k : Nat) : Im := ⟨⟨#[]⟩, ⟨#[]⟩, -1000 * (i : Int) - (k : Int) - 1⟩
/-- The marks of the i-th list, from one place on. -/
def marksI (i f n : Nat) : List Im := (List.range n).map fun j => markI i (f + j)
theorem marksI_len (i f n : Nat) : (marksI i f n).length = n := by simp [marksI]
theorem marksI_succ (i f n : Nat) : marksI i f (n + 1) = marksI i f n ++ [markI i (f + n)] := by simp [marksI, List.range_succ]
theorem marksI_at (i f n k : Nat) (h : k < n) : (marksI i f n)[k]? = some (markI i (f + k)) := by simp [marksI, h]
theorem marksI_app (i a b : Nat) : marksI i 0 a ++ marksI i a b = marksI i 0 (a + b) := by
  induction b with
  | zero => simp [marksI]
  | succ b ih => rw [marksI_succ, ← List.append_assoc, ih, ← Nat.add_assoc, marksI_succ]; simp
set_option maxRecDepth 100000 in
set_option maxHeartbeats 1000000 in
theorem markI_any (i f n : Nat) (w : World) (hi1 : i ≤ 100000) (hf1 : f ≤ 100000) (hn1 : n ≤ 100000) :
    Calls Tryz.prog 121 #[.int .i64 i, .int .i64 f, .int .i64 n] w fun e w' => MadeI w.heap.size e w' (marksI i f n) ∧ Below w.heap.size w w' := by
  obtain ⟨i0, hi0, hz0, hz1, hz2⟩ := info_parts iteminfo
  have hii : (i : Int) ≤ 100000 := by omega
  have hff : (f : Int) ≤ 100000 := by omega
  have hnn : (n : Int) ≤ 100000 := by omega
  go_enter Tryz.func121, Tryz.ntmps121
  go_wp2
  go_loopw [7, 8] (fun u7 u8 wr => ∃ k : Nat, k ≤ n ∧ u8 = .int .i64 ((f : Int) + k) ∧ wr.ownsRow w.heap.size 50 3 u7 k (flatI (marksI i f k)) ∧ Below w.heap.size w wr) (fun _ u8 _ => n - (intOf u8 - f).toNat)
  case atStart => exact ⟨0, by omega, by go_num, World.ownsRow_nil _ _ _ _, Below.refl _ _⟩
  case round =>
    obtain ⟨k, hk, rfl, hO, hB⟩ := hrel
    by_cases hlt : k < n
    · have hkn : (k : Int) < (n : Int) := by omega
      have HT : Hid (flatI (marksI i f (k + 1)) = flatI (marksI i f k) ++ [.string ⟨#[]⟩, .string ⟨#[]⟩, .int .i64 (-1000 * (i : Int) - ((f : Int) + (k : Int)) - 1)]) := by
        unfold Hid; rw [marksI_succ, flatI_app]
        show _ ++ [Value.string ⟨#[]⟩, Value.string ⟨#[]⟩, Value.int .i64 (-1000 * (i : Int) - ((f + k : Nat) : Int) - 1)] = _
        rw [show ((f + k : Nat) : Int) = (f : Int) + (k : Int) by omega]
      go_wp2_with (at_builtin
                   refine wpList_app rfl (.tmp 17) (.tmp 24) 22 rfl w.heap.size 50 i0 _ 3 40 Tryz.underlying22 hi0 hz0 hz1 hz2 rfl (by omega) u7 k _ rfl (hO.alloc _) _ 1 1 _ rfl (Rd.new wr _ 50) rfl (by simp [Value.oneCell']) (by unfold maxLen; omega) (by omega) (by have := hB.size; simp; omega) ?_
                   intro v5 w5 hown5 hg5 hb5 hat5)
      go_roundw
      case rel => exact ⟨k + 1, by omega, by go_num, by rw [HT.out]; exact hown5, (hB.alloc hB.size _).trans hb5⟩
      case measure => simp [intOf]; omega
    · obtain rfl : k = n := by omega
      obtain ⟨A1, c1, rfl, hc1⟩ := own_form hO
      go_wp2
      go_ret
      exact ⟨⟨A1, k, c1, marksI_len _ _ _, rfl, hO⟩, hB⟩
theorem copyI_any (A : Option Addr) (n c : Nat) (xs : List Im) (w : World) (hr : Rd w A (flatI xs)) (hn : xs.length = n) (hn1 : n ≤ 100000) :
    Calls Tryz.prog 40 #[.slice A n c] w fun e w' => MadeI w.heap.size e w' xs ∧ Below w.heap.size w w' := by
  obtain ⟨i0, hi0, hz0, hz1, hz2⟩ := info_parts iteminfo
  go_enter Tryz.func40, Tryz.ntmps40
  go_wp2_with (at_builtin
               refine wpList_app rfl (.const (.slice none 0 0)) (.tmp 3) 22 rfl w.heap.size 50 i0 _ 3 40 Tryz.underlying22 hi0 hz0 hz1 hz2 rfl (by omega) (.slice none 0 0) 0 _ rfl (World.ownsRow_nil _ _ _ _) A n c (flatI xs) rfl hr (by rw [flatI_len, hn]) (flatI_one xs) (by unfold maxLen; omega) (by omega) (Nat.le_refl _) ?_
               intro v5 w5 hown5 hg5 hb5 hat5
               rw [Nat.zero_add, List.nil_append] at hown5
               obtain ⟨A1, c1, rfl, hc1⟩ := own_form hown5)
  go_ret
  exact ⟨⟨A1, n, c1, hn, rfl, hown5⟩, hb5⟩
theorem sameI_yes (A B : Option Addr) (n c d : Nat) (xs : List Im) (w : World) (ha : Rd w A (flatI xs)) (hb : Rd w B (flatI xs)) (hn : xs.length = n) (hl : n ≤ 1000000) :
    Calls Tryz.prog 14 #[.slice A n c, .slice B n d] w fun e w' => e = .returned (.bool true) ∧ Qt w w' :=
  (sameitems_any A B n n c d xs xs w ha hb hn hn hl).mono fun e w' ⟨⟨b, he, h⟩, hq⟩ => ⟨by rw [he, h.2 rfl], hq⟩
/-- A book that keeps lists of items alone. -/
def bookI (v1 v2 : Value) : Array Value := #[.slice none 0 0, .slice none 0 0, .slice none 0 0, .slice none 0 0, v1, v2, .slice none 0 0, .slice none 0 0, .slice none 0 0, .slice none 0 0, .slice none 0 0, .slice none 0 0, .slice none 0 0, .slice none 0 0, .slice none 0 0, .slice none 0 0, .slice none 0 0, .slice none 0 0]
structure BookI (base : Nat) (w : World) (g N : Nat) (f : Nat → List Im) (v1 v2 : Value) (V W : List Value) : Prop where
  lo : base ≤ g
  B : Blk w g 36 (bookI v1 v2)
  r1 : w.ownsRow base 22 1 v1 N V
  r2 : w.ownsRow base 22 1 v2 N W
  rV : RowsI w base V N f
  rW : RowsI w base W N f
  ap : ApartV V
  ne : ∀ k, v1.ownBlock = some k → v2.ownBlock ≠ some k
theorem BookI.below {base g N : Nat} {w w' : World} {f : Nat → List Im} {v1 v2 : Value} {V W : List Value} (h : BookI base w g N f v1 v2 V W) (k : Below w.heap.size w w') : BookI base w' g N f v1 v2 V W :=
  ⟨h.lo, h.B.below k, own_frm h.r1 (S := no) (Frm.of_below k) (fun _ _ h => h), own_frm h.r2 (S := no) (Frm.of_below k) (fun _ _ h => h), h.rV.below k, h.rW.below k, h.ap, h.ne⟩
end Go.Proofs.YtldkhhipfoeckaaGreat
