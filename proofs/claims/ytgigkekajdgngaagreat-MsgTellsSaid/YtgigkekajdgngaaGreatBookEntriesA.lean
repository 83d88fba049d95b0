/-
  Lists of entries that a book keeps: marks, copies, and how they lie. Conditions: no more lists and elements than a hundred thousand.
-/
import Derived.Test.YtgigkekajdgngaaGreatRowsEntries
import Derived.Test.YtgigkekajdgngaaGreatEntsB
import Derived.Test.YtgigkekajdgngaaGreatBookNone
namespace Go.Proofs.YtgigkekajdgngaaGreat
open Go Go.RowKit
attribute [local go_sem] cell_set_if

def markEn (i k : Nat) : En := ⟨-1000 * (i : Int) - (k : Int) - 1, 0, 0, 0, none, 0, 0, []⟩
/-- The marks of the i-th list, from one place on. -/
def marksEn (i f n : Nat) : List En := (List.range n).map fun j => markEn i (f + j)
theorem marksEn_len (i f n : Nat) : (marksEn i f n).length = n := by simp [marksEn]
theorem marksEn_succ (i f n : Nat) : marksEn i f (n + 1) = marksEn i f n ++ [markEn i (f + n)] := by simp [marksEn, List.range_succ]
theorem marksEn_at (i f n k : Nat) (h : k < n) : (marksEn i f n)[k]? = some (markEn i (f + k)) := by simp [marksEn, h]
theorem marksEn_app (i a b : Nat) : marksEn i 0 a ++ marksEn i a b = marksEn i 0 (a + b) := by
  induction b with
  | zero => simp [marksEn]
  | succ b ih => rw [marksEn_succ, ← List.append_assoc, ih, ← Nat.add_assoc, marksEn_succ]; simp
set_option maxRecDepth 100000 in
set_option maxHeartbeats 1000000 in
theorem markEn_any (i f n : Nat) (w : World) (hi1 : i ≤ 100000) (hf1 : f ≤ 100000) (hn1 : n ≤ 100000) :
    Calls Tryz.prog 117 #[.int .i64 i, .int .i64 f, .int .i64 n] w fun e w' => MadeEn w.heap.size e w' (marksEn i f n) ∧ Below w.heap.size w w' := by
  obtain ⟨i0, hi0, hz0, hz1, hz2⟩ := info_parts enInfo
  have hii : (i : Int) ≤ 100000 := by omega
  have hff : (f : Int) ≤ 100000 := by omega
  have hnn : (n : Int) ≤ 100000 := by omega
  go_enter Tryz.func117, Tryz.ntmps117
  go_wp2
  go_loopw [7, 8] (fun u7 u8 wr => ∃ k : Nat, k ≤ n ∧ u8 = .int .i64 ((f : Int) + k) ∧ wr.ownsRow w.heap.size 61 5 u7 k (flatEn (marksEn i f k)) ∧ Below w.heap.size w wr) (fun _ u8 _ => n - (intOf u8 - f).toNat)
  case atStart => exact ⟨0, by omega, by go_num, World.ownsRow_nil _ _ _ _, Below.refl _ _⟩
  case round =>
    obtain ⟨k, hk, rfl, hO, hB⟩ := hrel
    by_cases hlt : k < n
    · have hkn : (k : Int) < (n : Int) := by omega
      have HT : Hid (flatEn (marksEn i f (k + 1)) = flatEn (marksEn i f k) ++ [.int .i64 (-1000 * (i : Int) - ((f : Int) + (k : Int)) - 1), .int .i64 0, .int .i64 0, .int .i64 0, .slice none 0 0]) := by
        unfold Hid; rw [marksEn_succ, flatEn_app]
        show _ ++ [Value.int .i64 (-1000 * (i : Int) - ((f + k : Nat) : Int) - 1), .int .i64 0, .int .i64 0, .int .i64 0, .slice none 0 0] = _
        rw [show ((f + k : Nat) : Int) = (f : Int) + (k : Int) by omega]
      go_wp2_with (at_builtin
                   refine wpList_app rfl (.tmp 17) (.tmp 24) 22 rfl w.heap.size 61 i0 _ 5 56 Tryz.underlying22 hi0 hz0 hz1 hz2 rfl (by omega) u7 k _ rfl (hO.alloc _) _ 1 1 _ rfl (Rd.new wr _ 61) rfl (by simp [Value.oneCell']) (by unfold maxLen; omega) (by omega) (by have := hB.size; simp; omega) ?_
                   intro v5 w5 hown5 hg5 hb5 hat5)
      go_roundw
      case rel => exact ⟨k + 1, by omega, by go_num, by rw [HT.out]; exact hown5, (hB.alloc hB.size _).trans hb5⟩
      case measure => simp [intOf]; omega
    · obtain rfl : k = n := by omega
      obtain ⟨A1, c1, rfl, hc1⟩ := own_form hO
      go_wp2
      go_ret
      exact ⟨⟨A1, k, c1, marksEn_len _ _ _, rfl, hO⟩, hB⟩
theorem marksEn_has (i f n : Nat) (w : World) : ∀ x ∈ marksEn i f n, x.has w := fun x hx => by
  unfold marksEn at hx
  obtain ⟨j, _, rfl⟩ := List.mem_map.1 hx
  exact ⟨Rd.nil _ _, rfl, by show 0 ≤ 100000; omega⟩
/-- A book that keeps lists of entries alone. -/
def bookEn (v1 v2 : Value) : Array Value := #[.slice none 0 0, .slice none 0 0, .slice none 0 0, .slice none 0 0, .slice none 0 0, .slice none 0 0, .slice none 0 0, .slice none 0 0, .slice none 0 0, .slice none 0 0, .slice none 0 0, .slice none 0 0, .slice none 0 0, .slice none 0 0, .slice none 0 0, .slice none 0 0, v1, v2]
structure BookEn (base : Nat) (w : World) (g N : Nat) (f fw : Nat → List En) (v1 v2 : Value) (V W : List Value) : Prop where
  lo : base ≤ g
  B : Blk w g 39 (bookEn v1 v2)
  r1 : w.ownsRow base 22 1 v1 N V
  r2 : w.ownsRow base 22 1 v2 N W
  rV : RowsEn w base V N f
  rW : RowsEn w base W N fw
  ap : ApartV V
  ne : ∀ k, v1.ownBlock = some k → v2.ownBlock ≠ some k
theorem BookEn.below {base g N : Nat} {w w' : World} {f fw : Nat → List En} {v1 v2 : Value} {V W : List Value} (h : BookEn base w g N f fw v1 v2 V W) (k : Below w.heap.size w w') : BookEn base w' g N f fw v1 v2 V W :=
  ⟨h.lo, h.B.below k, own_frm h.r1 (S := no) (Frm.of_below k) (fun _ _ h => h), own_frm h.r2 (S := no) (Frm.of_below k) (fun _ _ h => h), h.rV.below k, h.rW.below k, h.ap, h.ne⟩
end Go.Proofs.YtgigkekajdgngaaGreat
