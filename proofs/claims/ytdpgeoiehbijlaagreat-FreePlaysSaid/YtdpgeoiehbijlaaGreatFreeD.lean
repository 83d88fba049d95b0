/-
  free.List's has and Give: what they give. Conditions: the list is in order.
-/
import Derived.Test.YtdpgeoiehbijlaaGreatFreeC
namespace Go.Proofs.YtdpgeoiehbijlaaGreat
open Go Go.RowKit
attribute [local go_sem] cell_set_if

theorem any_ids (pd : List (Int × Int)) (id : Int) : (pd.any fun x => x.2 == id) = decide (id ∈ idsP pd) := by
  rw [Bool.eq_iff_iff, List.any_eq_true, decide_eq_true_iff]
  unfold idsP
  simp only [List.mem_map, beq_iff_eq]
theorem FreeT.reads {T E : TypeId} {w : World} {base g : Nat} {s : Fs} {v1 v2 : Value} (h : FreeT T E w base g s v1 v2) : ∃ A1 c1 A2 c2, v1 = .slice A1 s.fr.length c1 ∧ v2 = .slice A2 s.pd.length c2 ∧ Rd w A1 (flatZ s.fr) ∧ Rd w A2 (flatP s.pd) ∧ s.fr.length ≤ c1 ∧ s.pd.length ≤ c2 := by
  obtain ⟨⟨A1, c1, hv1, h1⟩, ⟨A2, c2, hv2, h2⟩⟩ := h.form
  exact ⟨A1, c1, A2, c2, hv1, hv2, Rd.of_own (hv1 ▸ h.o1), Rd.of_own (hv2 ▸ h.o2), h1, h2⟩
set_option maxRecDepth 100000 in
set_option maxHeartbeats 2000000 in
theorem fhas_any (base g : Nat) (s : Fs) (id : Int) (v1 v2 : Value) (w : World) (h : FreeAt w base g s v1 v2) (hm1 : s.fr.length ≤ 4000) (hm2 : s.pd.length ≤ 4000) :
    Calls Tryz.prog 34 #[.pointer (some ⟨g, 0, none⟩), .int .i64 id] w fun e w' => e = .returned (.bool (hasS s id)) ∧ Below w.heap.size w w' := by
  obtain ⟨A1, c1, A2, c2, hv1, hv2, r1, r2, _, _⟩ := h.reads
  have B := h.blk
  rw [hv1, hv2] at B
  have HS : Hid (hasS s id = (decide (id ∈ s.fr) || s.pd.any fun x => x.2 == id)) := by unfold Hid hasS; rw [any_ids]
  obtain ⟨n1, hn1⟩ : ∃ n, n = s.fr.length := ⟨_, rfl⟩
  obtain ⟨n2, hn2⟩ : ∃ n, n = s.pd.length := ⟨_, rfl⟩
  rw [← hn1, ← hn2] at B
  obtain ⟨q1, hq1⟩ : ∃ q, q = decide (id ∈ s.fr) := ⟨_, rfl⟩
  obtain ⟨q2, hq2⟩ : ∃ q, q = s.pd.any fun x => x.2 == id := ⟨_, rfl⟩
  rw [← hq1, ← hq2] at HS
  have hC1 := fun w (r : Rd w A1 (flatZ s.fr)) => contains_any A1 n1 c1 s.fr id w r hn1.symm (by omega)
  have hC2 := fun gk w (r : Rd w A2 (flatP s.pd)) hk => cfH_any A2 n2 c2 gk s.pd id w r hn2.symm hk (by omega)
  rw [← hq1] at hC1
  rw [← hq2] at hC2
  have HC1 := Lib.hid hC1
  have HC2 := Lib.hid hC2
  have R1 := Lib.hid r1
  have R2 := Lib.hid r2
  clear h hv1 hv2 hm1 hm2 r1 r2 hC1 hC2 hn1 hn2 hq1 hq2
  go_enter Tryz.func34, Tryz.ntmps34
  go_upto_region 1 with fail
  have hb1 : Below w.heap.size w (w.alloc (.cells #[.int .i64 id] 3)) := (Below.refl _ _).alloc (Nat.le_refl _) _
  have K := Blk.new w 3 #[.int .i64 id]
  generalize w.alloc (.cells #[.int .i64 id] 3) = W at hb1 K ⊢
  have k0 : W.cell? ⟨w.heap.size, 0, none⟩ = some (.int .i64 id) := K.cell 0
  have a1 : W.cell? ⟨g, 1, none⟩ = some (.slice A1 n1 c1) := cell_b hb1 (B.cell 1)
  have a2 : W.cell? ⟨g, 2, none⟩ = some (.slice A2 n2 c2) := cell_b hb1 (B.cell 2)
  have k0 := NewM.cell k0
  have a1 := NewM.cell a1
  have a2 := NewM.cell a2
  have X1 : ∀ r : NewM W, Calls Tryz.prog 76 #[.slice A1 n1 c1, .int .i64 id] r.w' fun e w' => e = .returned (.bool q1) ∧ w' = r.w' := fun r => HC1.out _ ((R1.out.below hb1).below r.h)
  have X2 : ∀ r : NewM W, Calls Tryz.prog 77 #[.slice A2 n2 c2, .func (.func 78) #[] #[.pointer (some ⟨w.heap.size, 0, none⟩)]] r.w' fun e w' => e = .returned (.bool q2) ∧ Below r.w'.heap.size r.w' w' := fun r => HC2.out _ _ ((R2.out.below hb1).below r.h) (k0 r)
  clear B HC1 HC2
  refine wp_region_quiet_new (by kernel_rfl) (by kernel_rfl) ?_
  cases q1
  all_goals
    repeat (go_big_quiet_step (first
      | (go_at_call 76; with_reducible exact NewM.call_same (X1 _))
      | (go_at_call 77; with_reducible exact NewM.call (X2 _))))
    refine wpQuiet_nil ?_
    rintro _ ⟨r, rfl⟩
    go_wp2
    go_ret
    exact ⟨by (rw [HS.out]) <;> rfl, below_of r.h hb1 hb1.size⟩
end Go.Proofs.YtdpgeoiehbijlaaGreat
