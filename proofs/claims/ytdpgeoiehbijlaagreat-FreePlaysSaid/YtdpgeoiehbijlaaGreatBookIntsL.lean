/-
  Lists of ints that are lent with room behind them, in which a mark stands; and that stay as they were. Condition: no more elements than a hundred thousand.
-/
import Derived.Test.YtdpgeoiehbijlaaGreatBookIntsA
namespace Go.Proofs.YtdpgeoiehbijlaaGreat
open Go Go.RowKit
attribute [local go_sem] cell_set_if

theorem Rd.pre {w : World} {A : Option Addr} {xs ys : List Value} (h : Rd w A (xs ++ ys)) : Rd w A xs := fun j x hx => h j x (by rw [List.getElem?_append_left (List.getElem?_eq_some_iff.1 hx).1]; exact hx)
/-- A lent list: n elements, and one behind them. -/
inductive LentZ (base : Nat) (e : Ending) (w' : World) (ks : List Int) : Prop
  | mk (g n c : Nat) (hn : ks.length = n) (hc : n + 1 ≤ c) (he : e = .returned (.slice (some ⟨g, 0, none⟩) n c)) (ho : w'.ownsRow base 3 1 (.slice (some ⟨g, 0, none⟩) (n + 1) c) (n + 1) (flatZ (ks ++ [-77]))) : LentZ base e w' ks
set_option maxRecDepth 100000 in
theorem lentZ_any (A : Option Addr) (n c : Nat) (ks : List Int) (w : World) (hr : Rd w A (flatZ ks)) (hn : ks.length = n) (hn1 : n ≤ 100000) :
    Calls Tryz.prog 6 #[.slice A n c] w fun e w' => LentZ w.heap.size e w' ks ∧ Below w.heap.size w w' := by
  obtain ⟨i0, hi0, hz0, hz1, hz2⟩ := info_parts zinfo
  have HC := Lib.hid (copyZ_any A n c ks w hr hn hn1)
  have HN := Lib.hid hn
  have hnn : (n : Int) ≤ 100000 := by omega
  have HX : Hid (flatZ ks ++ [.int .i64 (-77)] = flatZ (ks ++ [-77])) := by unfold Hid; rw [flatZ_app]; rfl
  clear hr hn
  go_enter Tryz.func6, Tryz.ntmps6
  go_wp2_with (first
    | (go_at_call 28; with_reducible refine HC.out.mono ?_; rintro e w1 ⟨⟨A1, n1, c1, hn1', rfl, ho1⟩, b1⟩
       obtain rfl : n1 = n := by rw [← hn1', HN.out])
    | (at_builtin
       refine wpList_app rfl (.tmp 4) (.tmp 5) 22 rfl w.heap.size 3 i0 _ 1 8 Tryz.underlying22 hi0 hz0 hz1 hz2 rfl (by omega) (.slice A1 n1 c1) n1 (flatZ ks) rfl (ho1.alloc _) _ 1 1 _ rfl (Rd.new w1 _ 3) rfl (by simp [Value.oneCell']) (by unfold maxLen; omega) (by omega) (by have := b1.size; simp; omega) ?_
       intro v5 w5 hown5 hg5 hb5 hat5
       rw [HX.out] at hown5
       obtain ⟨g5, c5, rfl, _, _⟩ := hown5.form (by omega)
       have hc5 : n1 + 1 ≤ c5 := by obtain ⟨A6, c6, hv6, h6⟩ := own_form hown5; injection hv6 with _ _ e6; omega
       have hc5i : (n1 : Int) ≤ (c5 : Int) := by omega))
  go_ret
  exact ⟨⟨g5, n1, c5, hn1', hc5, rfl, hown5⟩, (b1.alloc b1.size _).trans hb5⟩
set_option maxRecDepth 100000 in
set_option maxHeartbeats 1000000 in
theorem staysZ_any (A : Option Addr) (g n m c d : Nat) (ks : List Int) (w : World) (ha : Rd w (some ⟨g, 0, none⟩) (flatZ (ks ++ [-77]))) (hb : Rd w A (flatZ ks)) (hn : ks.length = n) (hc : n + 1 ≤ c) (hn1 : n ≤ 100000) :
    Calls Tryz.prog 8 #[.slice (some ⟨g, 0, none⟩) n c, .slice A n d] w fun e w' => e = .returned (.bool true) ∧ Qt w w' := by
  have ha1 : Rd w (some ⟨g, 0, none⟩) (flatZ ks) := by rw [flatZ_app] at ha; exact ha.pre
  obtain ⟨b, o, x, hA, _, hx, x1⟩ := ha.num (k := n) (by rw [List.length_append, hn]; simp)
  injection hA with hA
  injection hA with e1 e2
  subst e1 e2
  rw [List.getElem?_append_right (by omega), hn, Nat.sub_self, List.getElem?_cons_zero] at hx
  injection hx with hx
  subst hx
  rw [Nat.zero_add] at x1
  have HS := Lib.hid (sameZ_yes (some ⟨g, 0, none⟩) A n c d ks w ha1 hb hn (by omega))
  have hcc : (n : Int) + 1 ≤ (c : Int) := by omega
  have hnn : (n : Int) ≤ 100000 := by omega
  have x2 : w.cell? ⟨g, n, none⟩ = some (.int .i64 (-77)) := x1
  clear ha hb hn ha1 x1
  go_enter Tryz.func8, Tryz.ntmps8
  go_wp2_with (go_at_call 22; (with_reducible refine HS.out.mono ?_); rintro e w1 ⟨rfl, k1, h1⟩; subst h1)
  go_ret
  exact ⟨rfl, Qt.drewN _ _⟩
end Go.Proofs.YtdpgeoiehbijlaaGreat
