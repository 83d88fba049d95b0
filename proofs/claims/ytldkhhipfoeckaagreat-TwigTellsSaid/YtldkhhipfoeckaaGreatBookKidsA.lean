/-
  Lists of children that a book keeps: marks, copies, and how they lie. Conditions: no more lists and elements than a hundred thousand.
-/
import Derived.Test.YtldkhhipfoeckaaGreatRowsKids
import Derived.Test.YtldkhhipfoeckaaGreatKidMore
import Derived.Test.YtldkhhipfoeckaaGreatBookNone
namespace Go.Proofs.YtldkhhipfoeckaaGreat
open Go Go.RowKit
attribute [local go_sem] cell_set_if

def markK (i k : Nat) : Kd := ⟨⟨#[]⟩, -1000 * (i : Int) - (k : Int) - 1⟩
/-- The marks of the i-th list, from one place on. -/
def marksK (i f n : Nat) : List Kd := (List.range n).map fun j => markK i (f + j)
theorem marksK_len (i f n : Nat) : (marksK i f n).length = n := by simp [marksK]
theorem marksK_succ (i f n : Nat) : marksK i f (n + 1) = marksK i f n ++ [markK i (f + n)] := by simp [marksK, List.range_succ]
theorem marksK_at (i f n k : Nat) (h : k < n) : (marksK i f n)[k]? = some (markK i (f + k)) := by simp [marksK, h]
theorem marksK_app (i a b : Nat) : marksK i 0 a ++ marksK i a b = marksK i 0 (a + b) := by
  induction b with
  | zero => simp [marksK]
  | succ b ih => rw [marksK_succ, ← List.append_assoc, ih, ← Nat.add_assoc, marksK_succ]; simp
set_option maxRecDepth 100000 in
set_option maxHeartbeats 1000000 in
theorem markK_any (i f n : Nat) (w : World) (hi1 : i ≤ 100000) (hf1 : f ≤ 100000) (hn1 : n ≤ 100000) :
    Calls Tryz.prog 122 #[.int .i64 i, .int .i64 f, .int .i64 n] w fun e w' => MadeK w.heap.size e w' (marksK i f n) ∧ Below w.heap.size w w' := by
  obtain ⟨i0, hi0, hz0, hz1, hz2⟩ := info_parts kidinfo
  have hii : (i : Int) ≤ 100000 := by omega
  have hff : (f : Int) ≤ 100000 := by omega
  have hnn : (n : Int) ≤ 100000 := by omega
  go_enter Tryz.func122, Tryz.ntmps122
  go_wp2
  go_loopw [7, 8] (fun u7 u8 wr => ∃ k : Nat, k ≤ n ∧ u8 = .int .i64 ((f : Int) + k) ∧ wr.ownsRow w.heap.size 65 2 u7 k (flatK (marksK i f k)) ∧ Below w.heap.size w wr) (fun _ u8 _ => n - (intOf u8 - f).toNat)
  case atStart => exact ⟨0, by omega, by go_num, World.ownsRow_nil _ _ _ _, Below.refl _ _⟩
  case round =>
    obtain ⟨k, hk, rfl, hO, hB⟩ := hrel
    by_cases hlt : k < n
    · have hkn : (k : Int) < (n : Int) := by omega
      have HT : Hid (flatK (marksK i f (k + 1)) = flatK (marksK i f k) ++ [.string ⟨#[]⟩, .int .i64 (-1000 * (i : Int) - ((f : Int) + (k : Int)) - 1)]) := by
        unfold Hid; rw [marksK_succ, flatK_app]
        show _ ++ [Value.string ⟨#[]⟩, Value.int .i64 (-1000 * (i : Int) - ((f + k : Nat) : Int) - 1)] = _
        rw [show ((f + k : Nat) : Int) = (f : Int) + (k : Int) by omega]
      go_wp2_with (at_builtin
                   refine wpList_app rfl (.tmp 17) (.tmp 24) 52 rfl w.heap.size 65 i0 _ 2 24 Tryz.underlying52 hi0 hz0 hz1 hz2 rfl (by omega) u7 k _ rfl (hO.alloc _) _ 1 1 _ rfl (Rd.new wr _ 65) rfl (by simp [Value.oneCell']) (by unfold maxLen; omega) (by omega) (by have := hB.size; simp; omega) ?_
                   intro v5 w5 hown5 hg5 hb5 hat5)
      go_roundw
      case rel => exact ⟨k + 1, by omega, by go_num, by rw [HT.out]; exact hown5, (hB.alloc hB.size _).trans hb5⟩
      case measure => simp [intOf]; omega
    · obtain rfl : k = n := by omega
      obtain ⟨A1, c1, rfl, hc1⟩ := own_form hO
      go_wp2
      go_ret
      exact ⟨⟨A1, k, c1, marksK_len _ _ _, rfl, hO⟩, hB⟩
theorem copyK_any (A : Option Addr) (n c : Nat) (xs : List Kd) (w : World) (hr : Rd w A (flatK xs)) (hn : xs.length = n) (hn1 : n ≤ 100000) :
    Calls Tryz.prog 91 #[.slice A n c] w fun e w' => MadeK w.heap.size e w' xs ∧ Below w.heap.size w w' := by
  obtain ⟨i0, hi0, hz0, hz1, hz2⟩ := info_parts kidinfo
  go_enter Tryz.func91, Tryz.ntmps91
  go_wp2_with (at_builtin
               refine wpList_app rfl (.const (.slice none 0 0)) (.tmp 3) 52 rfl w.heap.size 65 i0 _ 2 24 Tryz.underlying52 hi0 hz0 hz1 hz2 rfl (by omega) (.slice none 0 0) 0 _ rfl (World.ownsRow_nil _ _ _ _) A n c (flatK xs) rfl hr (by rw [flatK_len, hn]) (flatK_one xs) (by unfold maxLen; omega) (by omega) (Nat.le_refl _) ?_
               intro v5 w5 hown5 hg5 hb5 hat5
               rw [Nat.zero_add, List.nil_append] at hown5
               obtain ⟨A1, c1, rfl, hc1⟩ := own_form hown5)
  go_ret
  exact ⟨⟨A1, n, c1, hn, rfl, hown5⟩, hb5⟩
theorem sameK_yes (A B : Option Addr) (n c d : Nat) (xs : List Kd) (w : World) (ha : Rd w A (flatK xs)) (hb : Rd w B (flatK xs)) (hn : xs.length = n) (hl : n ≤ 1000000) :
    Calls Tryz.prog 29 #[.slice A n c, .slice B n d] w fun e w' => e = .returned (.bool true) ∧ Qt w w' :=
  (samekids_any A B n n c d xs xs w ha hb hn hn hl).mono fun e w' ⟨⟨b, he, h⟩, hq⟩ => ⟨by rw [he, h.2 rfl], hq⟩
/-- A book that keeps lists of children alone. -/
def bookK (v1 v2 : Value) : Array Value := #[.slice none 0 0, .slice none 0 0, .slice none 0 0, .slice none 0 0, .slice none 0 0, .slice none 0 0, v1, v2, .slice none 0 0, .slice none 0 0, .slice none 0 0, .slice none 0 0, .slice none 0 0, .slice none 0 0, .slice none 0 0, .slice none 0 0, .slice none 0 0, .slice none 0 0]
structure BookK (base : Nat) (w : World) (g N : Nat) (f : Nat → List Kd) (v1 v2 : Value) (V W : List Value) : Prop where
  lo : base ≤ g
  B : Blk w g 36 (bookK v1 v2)
  r1 : w.ownsRow base 52 1 v1 N V
  r2 : w.ownsRow base 52 1 v2 N W
  rV : RowsK w base V N f
  rW : RowsK w base W N f
  ap : ApartV V
  ne : ∀ k, v1.ownBlock = some k → v2.ownBlock ≠ some k
theorem BookK.below {base g N : Nat} {w w' : World} {f : Nat → List Kd} {v1 v2 : Value} {V W : List Value} (h : BookK base w g N f v1 v2 V W) (k : Below w.heap.size w w') : BookK base w' g N f v1 v2 V W :=
  ⟨h.lo, h.B.below k, own_frm h.r1 (S := no) (Frm.of_below k) (fun _ _ h => h), own_frm h.r2 (S := no) (Frm.of_below k) (fun _ _ h => h), h.rV.below k, h.rW.below k, h.ap, h.ne⟩
end Go.Proofs.YtldkhhipfoeckaaGreat
