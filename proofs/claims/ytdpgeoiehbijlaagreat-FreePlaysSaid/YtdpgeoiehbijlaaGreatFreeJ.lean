/-
  slices.Clone of what is pending, and free.List's Copy: what they give. Conditions: the list is in order.
-/
import Derived.Test.YtdpgeoiehbijlaaGreatFreeH
namespace Go.Proofs.YtdpgeoiehbijlaaGreat
open Go Go.RowKit
attribute [local go_sem] cell_set_if

theorem cloneP_any (w : World) (A : Option Addr) (n c : Nat) (ks : List (Int × Int)) (hr : Rd w A (flatP ks)) (hn : ks.length = n) (hm : n ≤ 1000000) :
    Calls Tryz.prog 39 #[.slice A n c] w fun e w' => (∃ B d, e = .returned (.slice B n d) ∧ w'.ownsRow w.heap.size 71 2 (.slice B n d) n (flatP ks)) ∧ Below w.heap.size w w' := by
  cases A with
  | none =>
    have hx0 : flatP ks = [] := by
      cases h : flatP ks with
      | nil => rfl
      | cons b l => obtain ⟨ad, e, _⟩ := hr 0 b (by rw [h]; rfl); cases e
    have hn0 : n = 0 := by have := flatP_len ks; rw [hx0] at this; rw [List.length_nil] at this; omega
    rw [hx0]
    subst hn0
    have he := Lib.run_eql_slice_nil_nil (P := Tryz.prog) w 0 c Tryz.underlying63
    clear hr hn hx0
    go_enter Tryz.func39, Tryz.ntmps39
    go_wp2
    go_ret
    exact ⟨⟨_, _, rfl, World.ownsRow_nil _ _ _ _⟩, Below.refl _ _⟩
  | some ad =>
    have he := Lib.run_eql_slice_some_nil (P := Tryz.prog) w ad n c Tryz.underlying63
    obtain ⟨i0, hi0, hz0, hz1, hz2⟩ := info_parts pendInfo
    have hl := flatP_len ks
    rw [hn] at hl
    have HX := Lib.hid hl
    have H1 := Lib.hid (flatP_one ks)
    have HR := Lib.hid hr
    generalize flatP ks = xs at *
    clear hn hl hr
    go_enter Tryz.func39, Tryz.ntmps39
    go_wp2_with (at_builtin
                 refine wpList_app rfl (.tmp 5) (.tmp 6) 63 rfl w.heap.size 71 i0 _ 2 16 Tryz.underlying63 hi0 hz0 hz1 hz2 rfl (by omega) (.slice (some ⟨w.heap.size, 0, none⟩) 0 0) 0 [] rfl (own_mt0 _ _ _) (some ad) n c xs rfl (HR.out.alloc _) HX.out H1.out (by unfold maxLen; omega) (by omega) (by simp) ?_
                 intro v2 w2 hown2 hg2 hb2 hat2
                 rw [Nat.zero_add, List.nil_append] at hown2
                 obtain ⟨A2, c2, rfl, hc2⟩ := own_form hown2)
    go_ret
    exact ⟨⟨_, _, rfl, hown2⟩, ((Below.refl _ _).alloc (Nat.le_refl _) _).trans hb2⟩
/-- A list like this one, of the call's own. -/
def CopiedF (base : Nat) (s : Fs) (e : Ending) (w' : World) : Prop := ∃ g v1 v2, e = .returned (.pointer (some ⟨g, 0, none⟩)) ∧ FreeAt w' base g s v1 v2
theorem CopiedF.mk_ {base g : Nat} {s : Fs} {B1 B2 : Option Addr} {n1 n2 d1 d2 : Nat} {w : World} {e : Ending} (h1 : s.fr.length = n1) (h2 : s.pd.length = n2) (o1 : w.ownsRow base 3 1 (.slice B1 n1 d1) n1 (flatZ s.fr)) (o2 : w.ownsRow base 71 2 (.slice B2 n2 d2) n2 (flatP s.pd)) (hb : base ≤ w.heap.size) (hg : g = w.heap.size) (he : e = .returned (.pointer (some ⟨g, 0, none⟩))) :
    CopiedF base s e (w.alloc (.cells #[.int .i64 s.pages, .slice B1 n1 d1, .slice B2 n2 d2] 65)) := by
  subst hg
  exact ⟨_, _, _, he, Blk.new _ _ _, hb, by rw [h1]; exact o1.alloc _, by rw [h2]; exact o2.alloc _⟩
set_option maxRecDepth 100000 in
set_option maxHeartbeats 4000000 in
theorem fcopy_any (base g : Nat) (s : Fs) (v1 v2 : Value) (w : World) (h : FreeAt w base g s v1 v2) (hm1 : s.fr.length ≤ 4000) (hm2 : s.pd.length ≤ 4000) :
    Calls Tryz.prog 17 #[.pointer (some ⟨g, 0, none⟩)] w fun e w' => CopiedF w.heap.size s e w' ∧ Below w.heap.size w w' := by
  obtain ⟨A1, c1, A2, c2, hv1, hv2, r1, r2, _, _⟩ := h.reads
  obtain ⟨n1, hn1⟩ : ∃ n, n = s.fr.length := ⟨_, rfl⟩
  obtain ⟨n2, hn2⟩ : ∃ n, n = s.pd.length := ⟨_, rfl⟩
  rw [← hn1] at hv1
  rw [← hn2] at hv2
  have HC1 := Lib.hid fun w r => cloneZ_any w A1 n1 c1 s.fr r hn1.symm (by omega)
  have HC2 := Lib.hid fun w r => cloneP_any w A2 n2 c2 s.pd r hn2.symm (by omega)
  have R1 : Rd w.drew A1 (flatZ s.fr) := r1
  have R2 : Rd w.drew A2 (flatP s.pd) := r2
  have B : Blk w.drew g 65 #[.int .i64 s.pages, .slice A1 n1 c1, .slice A2 n2 c2] := by rw [← hv1, ← hv2]; exact h.blk
  have S0 : w.drew.cell? ⟨g, 0, none⟩ = some (.int .i64 s.pages) ∧ w.drew.cell? ⟨g, 1, none⟩ = some (.slice A1 n1 c1) ∧ w.drew.cell? ⟨g, 2, none⟩ = some (.slice A2 n2 c2) := ⟨B.cell 0, B.cell 1, B.cell 2⟩
  have N1 := Lib.hid hn1
  have N2 := Lib.hid hn2
  have hbd : Below w.heap.size w w.drew := (Below.refl _ w).drew
  clear h hv1 hv2 r1 r2 hn1 hn2 hm1 hm2
  go_enter Tryz.func17, Tryz.ntmps17
  go_wp2
  go_region_held3 (fun W => W.cell? ⟨g, 0, none⟩ = some (.int .i64 s.pages) ∧ W.cell? ⟨g, 1, none⟩ = some (.slice A1 n1 c1) ∧ W.cell? ⟨g, 2, none⟩ = some (.slice A2 n2 c2)) (first | exact S0 | with_reducible assumption | exact SA _)
    (first
      | (go_at_call 29; with_reducible refine (HC1.out _ R1b).mono ?_; rintro e w5 ⟨⟨B5, d5, rfl, o5⟩, b5⟩
         have O6 := own_frm o6 (Frm.of_below (S := no) b5) (fun _ _ h => h)
         have O5 := own_base o5 (b6.size)
         have S5 : w5.cell? ⟨g, 0, none⟩ = some (.int .i64 s.pages) ∧ w5.cell? ⟨g, 1, none⟩ = some (.slice A1 n1 c1) ∧ w5.cell? ⟨g, 2, none⟩ = some (.slice A2 n2 c2) := ⟨cell_b b5 S6.1, cell_b b5 S6.2.1, cell_b b5 S6.2.2⟩
         have SA : ∀ o, (w5.alloc o).cell? ⟨g, 0, none⟩ = some (.int .i64 s.pages) ∧ (w5.alloc o).cell? ⟨g, 1, none⟩ = some (.slice A1 n1 c1) ∧ (w5.alloc o).cell? ⟨g, 2, none⟩ = some (.slice A2 n2 c2) := fun o => ⟨cell_b ((Below.refl _ _).alloc (Nat.le_refl _) _) S5.1, cell_b ((Below.refl _ _).alloc (Nat.le_refl _) _) S5.2.1, cell_b ((Below.refl _ _).alloc (Nat.le_refl _) _) S5.2.2⟩
         have hb := (hbd.trans b6).trans (b5.mono b6.size))
      | (go_at_call 39; with_reducible refine (HC2.out _ R2b).mono ?_; rintro e w6 ⟨⟨B6, d6, rfl, o6⟩, b6⟩
         have O5 := own_frm o5 (Frm.of_below (S := no) b6) (fun _ _ h => h)
         have O6 := own_base o6 (b5.size)
         have S6 : w6.cell? ⟨g, 0, none⟩ = some (.int .i64 s.pages) ∧ w6.cell? ⟨g, 1, none⟩ = some (.slice A1 n1 c1) ∧ w6.cell? ⟨g, 2, none⟩ = some (.slice A2 n2 c2) := ⟨cell_b b6 S5.1, cell_b b6 S5.2.1, cell_b b6 S5.2.2⟩
         have SA : ∀ o, (w6.alloc o).cell? ⟨g, 0, none⟩ = some (.int .i64 s.pages) ∧ (w6.alloc o).cell? ⟨g, 1, none⟩ = some (.slice A1 n1 c1) ∧ (w6.alloc o).cell? ⟨g, 2, none⟩ = some (.slice A2 n2 c2) := fun o => ⟨cell_b ((Below.refl _ _).alloc (Nat.le_refl _) _) S6.1, cell_b ((Below.refl _ _).alloc (Nat.le_refl _) _) S6.2.1, cell_b ((Below.refl _ _).alloc (Nat.le_refl _) _) S6.2.2⟩
         have hb := (hbd.trans b5).trans (b6.mono b5.size))
      | (go_at_call 29; with_reducible refine (HC1.out _ R1).mono ?_; rintro e w5 ⟨⟨B5, d5, rfl, o5⟩, b5⟩
         have R2b := R2.below b5
         have S5 : w5.cell? ⟨g, 0, none⟩ = some (.int .i64 s.pages) ∧ w5.cell? ⟨g, 1, none⟩ = some (.slice A1 n1 c1) ∧ w5.cell? ⟨g, 2, none⟩ = some (.slice A2 n2 c2) := ⟨cell_b b5 S0.1, cell_b b5 S0.2.1, cell_b b5 S0.2.2⟩)
      | (go_at_call 39; with_reducible refine (HC2.out _ R2).mono ?_; rintro e w6 ⟨⟨B6, d6, rfl, o6⟩, b6⟩
         have R1b := R1.below b6
         have S6 : w6.cell? ⟨g, 0, none⟩ = some (.int .i64 s.pages) ∧ w6.cell? ⟨g, 1, none⟩ = some (.slice A1 n1 c1) ∧ w6.cell? ⟨g, 2, none⟩ = some (.slice A2 n2 c2) := ⟨cell_b b6 S0.1, cell_b b6 S0.2.1, cell_b b6 S0.2.2⟩))
  all_goals
    go_wp2
    go_ret
    exact ⟨CopiedF.mk_ N1.out.symm N2.out.symm O5 O6 hb.size rfl rfl, hb.alloc hb.size _⟩
end Go.Proofs.YtdpgeoiehbijlaaGreat
