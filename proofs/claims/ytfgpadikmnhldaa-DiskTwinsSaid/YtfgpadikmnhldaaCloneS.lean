/-
  slices.Clone of strings: a list of the call's own. Condition: no more than a million.
-/
import Derived.Test.YtfgpadikmnhldaaDelP
import Derived.Test.YtfgpadikmnhldaaDiskM
import Derived.Lib.BufferMore
namespace Go.Proofs.Ytfgpadikmnhldaa
open Go Go.RowKit
attribute [local go_sem] cell_set_if

theorem strInfoD : (Try.prog.info? 9).map (fun i => (i.zero, i.size, i.bytes)) = some (some (.string ByteArray.empty), 1, 16) := by kernel_rfl
theorem cloneS_any (w : World) (A : Option Addr) (n c : Nat) (ks : List ByteArray) (hr : Rd w A (strs ks)) (hn : ks.length = n) (hm : n ≤ 1000000) :
    Calls Try.prog 26 #[.slice A n c] w fun e w' => (∃ B d, e = .returned (.slice B n d) ∧ w'.ownsRow w.heap.size 9 1 (.slice B n d) n (strs ks)) ∧ Below w.heap.size w w' := by
  cases A with
  | none =>
    have hx0 : strs ks = [] := by
      cases h : strs ks with
      | nil => rfl
      | cons b l => obtain ⟨ad, e, _⟩ := hr 0 b (by rw [h]; rfl); cases e
    have hn0 : n = 0 := by have := strs_len ks; rw [hx0] at this; rw [List.length_nil] at this; omega
    rw [hx0]
    subst hn0
    have he := Lib.run_eql_slice_nil_nil (P := Try.prog) w 0 c Try.underlying32
    clear hr hn hx0
    go_enter Try.func26, Try.ntmps26
    go_wp2
    go_ret
    exact ⟨⟨_, _, rfl, World.ownsRow_nil _ _ _ _⟩, Below.refl _ _⟩
  | some ad =>
    have he := Lib.run_eql_slice_some_nil (P := Try.prog) w ad n c Try.underlying32
    obtain ⟨i0, hi0, hz0, hz1, hz2⟩ := info_parts strInfoD
    have hl : (strs ks).length = n * 1 := by rw [strs_len, hn, Nat.mul_one]
    have HX := Lib.hid hl
    have H1 := Lib.hid (strs_one ks)
    have HR := Lib.hid hr
    generalize strs ks = xs at *
    clear hn hl hr
    go_enter Try.func26, Try.ntmps26
    go_wp2_with (at_builtin
                 refine wpList_app rfl (.tmp 5) (.tmp 6) 32 rfl w.heap.size 9 i0 _ 1 16 Try.underlying32 hi0 hz0 hz1 hz2 rfl (by omega) (.slice (some ⟨w.heap.size, 0, none⟩) 0 0) 0 [] rfl (own_mt0 _ _ _) (some ad) n c xs rfl (HR.out.alloc _) HX.out H1.out (by unfold maxLen; omega) (by omega) (by simp) ?_
                 intro v2 w2 hown2 hg2 hb2 hat2
                 rw [Nat.zero_add, List.nil_append] at hown2
                 obtain ⟨A2, c2, rfl, hc2⟩ := own_form hown2)
    go_ret
    exact ⟨⟨_, _, rfl, hown2⟩, ((Below.refl _ _).alloc (Nat.le_refl _) _).trans hb2⟩
end Go.Proofs.Ytfgpadikmnhldaa
