/-
  UNDER WAY: regions 17 and 18 of RaftTells by an invariant over what is done.
-/
import Derived.Test.YtmnndekpedacmaaRaftTellsReg
import Derived.Test.YtmnndekpedacmaaSlots
import Derived.StillTail
namespace Go.Proofs.Ytmnndekpedacmaa
open Go Go.RowKit
attribute [local go_sem] cell_set_if

theorem ready_waits {md : Region.Mode} {ops : Array Oper} {listed : Array Bool} {i j : Nat} (h : j ∈ Region.ready md ops listed) (hw : Region.waitsFor md ops j i = true) : listed.getD i false = true := by
  obtain ⟨oj, hoj, e, he, hb, hi⟩ := Region.waitsFor_spec hw
  obtain ⟨_, oj', hoj', hall⟩ := mem_ready.1 h
  rw [hoj] at hoj'
  injection hoj' with hoj'
  subst hoj'
  have := hall e he hb
  rwa [hi] at this
noncomputable def ops17 : List Oper := opsAt (Try.f4.body.bind (regionAt 17))
theorem op17_0 : (ops17.toArray[0]?).map (fun o => (o.dst, o.op, o.guard)) = some (some 133, .load 38 (.tmp 8), none) := by kernel_rfl
theorem op17_10 : (ops17.toArray[10]?).map (fun o => (o.dst, o.op, o.guard)) = some (some 27, .alloc 38, none) := by kernel_rfl
theorem op17_12 : (ops17.toArray[12]?).map (fun o => (o.dst, o.op, o.guard)) = some (none, .store 38 (.tmp 27) (.tmp 137), none) := by kernel_rfl
theorem w17_4 : Region.waitsFor .any ops17.toArray 4 0 = true ∧ Region.waitsFor .any ops17.toArray 4 3 = true := ⟨by kernel_rfl, by kernel_rfl⟩
theorem oper_parts {ops : Array Oper} {i : Nat} {d : Option Tmp} {op : Op} {g : Option (Nat × Bool)} (h : (ops[i]?).map (fun o => (o.dst, o.op, o.guard)) = some (d, op, g)) : ∃ o, ops[i]? = some o ∧ o.dst = d ∧ o.op = op ∧ o.guard = g := by
  cases ho : ops[i]? with
  | none => rw [ho] at h; cases h
  | some o =>
    rw [ho] at h
    simp only [Option.map_some, Option.some.injEq, Prod.mk.injEq] at h
    exact ⟨o, rfl, h.1, h.2.1, h.2.2⟩
/-- An operation without a guard. -/
theorem wpOp_go {P : Program} {ops : Array Oper} {Q : Exit → Act → World → Prop} {i : Nat} {K : Act → World → Prop} {a : Act} {w : World} {o : Oper} (ho : ops[i]? = some o) (hg : o.guard = none) (h : o.wp P a w K Q) : wpOp P ops Q i K a w := by
  unfold wpOp
  rw [ho]
  simp only [Region.wanted, hg]
  exact .inl h
theorem step_loadR (a : Act) (w : World) (o : Oper) (K : Act → World → Prop) (Q : Exit → Act → World → Prop) (d p g : Nat) (t f : Int) (hd : o.dst = some d) (hop : o.op = .load 38 (.tmp p)) (hp : slot a p = .pointer (some ⟨g, 0, none⟩)) (h0 : w.cell? ⟨g, 0, none⟩ = some (.int .i64 t)) (h1 : w.cell? ⟨g, 1, none⟩ = some (.int .i64 f))
    (hK : K (a.put (some d) (bal t f)) w) : o.wp Try.prog a w K Q := by
  have e : a.eval (.tmp p) = .pointer (some ⟨g, 0, none⟩) := hp
  unfold Oper.wp execOp
  simp only [hop, e]
  go_simp
  exact hK
theorem step_loadF (a : Act) (w : World) (o : Oper) (K : Act → World → Prop) (Q : Exit → Act → World → Prop) (d p g : Nat) (t f : Int) (hd : o.dst = some d) (hop : o.op = .load 42 (.tmp p)) (hp : slot a p = .pointer (some ⟨g, 0, none⟩)) (h0 : w.cell? ⟨g, 0, none⟩ = some (.int .i64 t)) (h1 : w.cell? ⟨g, 1, none⟩ = some (.int .i64 f))
    (hK : K (a.put (some d) (bal t f)) w) : o.wp Try.prog a w K Q := by
  have e : a.eval (.tmp p) = .pointer (some ⟨g, 0, none⟩) := hp
  unfold Oper.wp execOp
  simp only [hop, e]
  go_simp
  exact hK
theorem step_move (a : Act) (w : World) (o : Oper) (K : Act → World → Prop) (Q : Exit → Act → World → Prop) (d s : Nat) (v : Value) (hd : o.dst = some d) (hop : o.op = .move (.tmp s)) (hv : slot a s = v) (hK : K (a.put (some d) v) w) : o.wp Try.prog a w K Q := by
  have e : a.eval (.tmp s) = v := hv
  unfold Oper.wp execOp
  simp only [hop, e]
  go_simp
  exact hK
theorem step_index (a : Act) (w : World) (o : Oper) (K : Act → World → Prop) (Q : Exit → Act → World → Prop) (d s b off c k : Nat) (hk : k < 5) (hd : o.dst = some d) (hop : o.op = .indexAddr 23 (.tmp s) (.const (.int .i64 k))) (hv : slot a s = .slice (some ⟨b, off, none⟩) 5 c) (hK : K (a.put (some d) (.pointer (some ⟨b, off + k, none⟩))) w) : o.wp Try.prog a w K Q := by
  have e : a.eval (.tmp s) = .slice (some ⟨b, off, none⟩) 5 c := hv
  have e2 : a.eval (.const (.int .i64 k)) = .int .i64 k := rfl
  have hki : (k : Int) < 5 := by omega
  unfold Oper.wp execOp
  simp only [hop, e, e2]
  go_simp
  exact hK
theorem step_loadI (a : Act) (w : World) (o : Oper) (K : Act → World → Prop) (Q : Exit → Act → World → Prop) (d p : Nat) (ad : Addr) (z : Int) (hd : o.dst = some d) (hop : o.op = .load 3 (.tmp p)) (hp : slot a p = .pointer (some ad)) (h0 : w.cell? ad = some (.int .i64 z))
    (hK : K (a.put (some d) (.int .i64 z)) w) : o.wp Try.prog a w K Q := by
  have e : a.eval (.tmp p) = .pointer (some ad) := hp
  unfold Oper.wp execOp
  simp only [hop, e]
  go_simp
  exact hK
theorem step_call (a : Act) (w : World) (o : Oper) (K : Act → World → Prop) (Q : Exit → Act → World → Prop) (d F s1 s2 : Nat) (tys : Array TypeId) (v1 v2 v : Value) (hd : o.dst = some d) (hop : o.op = .call { callee := .value (.func F), args := #[.tmp s1, .tmp s2], argTypes := tys }) (hv1 : slot a s1 = v1) (hv2 : slot a s2 = v2)
    (hC : Calls Try.prog F #[v1, v2] w fun e w' => e = .returned v ∧ Below w.heap.size w w') (eg : (callFunc F #[v1, v2]).run Try.prog w = .ok (.enter F #[v1, v2]) w) (hK : ∀ w', Below w.heap.size w w' → K (a.put (some d) v) w') : o.wp Try.prog a w K Q := by
  have e1 : a.eval (.tmp s1) = v1 := hv1
  have e2 : a.eval (.tmp s2) = v2 := hv2
  have g1 : a.tmps[s1]?.getD undef = v1 := by
    have := hv1
    unfold slot at this
    rwa [Array.getD_eq_getD_getElem?] at this
  have g2 : a.tmps[s2]?.getD undef = v2 := by
    have := hv2
    unfold slot at this
    rwa [Array.getD_eq_getD_getElem?] at this
  unfold Oper.wp execOp
  simp only [hop, e1, e2]
  go_simp
  refine hC.mono ?_
  rintro e w' ⟨rfl, hb⟩
  exact hK w' hb
theorem step_alloc (a : Act) (w : World) (o : Oper) (K : Act → World → Prop) (Q : Exit → Act → World → Prop) (d : Nat) (hd : o.dst = some d) (hop : o.op = .alloc 38) (hK : K (a.put (some d) (.pointer (some ⟨w.heap.size, 0, none⟩))) (w.alloc (.cells #[.int .i64 0, .int .i64 0] 38))) : o.wp Try.prog a w K Q := by
  unfold Oper.wp execOp
  simp only [hop]
  go_simp
  exact hK
theorem step_allocF (a : Act) (w : World) (o : Oper) (K : Act → World → Prop) (Q : Exit → Act → World → Prop) (d : Nat) (hd : o.dst = some d) (hop : o.op = .alloc 42) (hK : K (a.put (some d) (.pointer (some ⟨w.heap.size, 0, none⟩))) (w.alloc (.cells #[.int .i64 0, .int .i64 0] 42))) : o.wp Try.prog a w K Q := by
  unfold Oper.wp execOp
  simp only [hop]
  go_simp
  exact hK
theorem step_store (a : Act) (w : World) (o : Oper) (K : Act → World → Prop) (Q : Exit → Act → World → Prop) (p s g : Nat) (x y : Int) (hd : o.dst = none) (hop : o.op = .store 38 (.tmp p) (.tmp s)) (hp : slot a p = .pointer (some ⟨g, 0, none⟩)) (hs : slot a s = bal x y) {c1 c2 : Value} (hB : Blk w g 38 #[c1, c2])
    (hK : K a ((w.setCell ⟨g, 0, none⟩ (.int .i64 x)).setCell ⟨g, 1, none⟩ (.int .i64 y))) : o.wp Try.prog a w K Q := by
  have e1 : a.eval (.tmp p) = .pointer (some ⟨g, 0, none⟩) := hp
  have e2 : a.eval (.tmp s) = bal x y := hs
  have c := hB.cell
  have f := hB.free
  unfold Oper.wp execOp
  simp only [hop, e1, e2]
  go_simp
  exact hK
theorem step_storeF (a : Act) (w : World) (o : Oper) (K : Act → World → Prop) (Q : Exit → Act → World → Prop) (p s g : Nat) (x y : Int) (hd : o.dst = none) (hop : o.op = .store 42 (.tmp p) (.tmp s)) (hp : slot a p = .pointer (some ⟨g, 0, none⟩)) (hs : slot a s = bal x y) {c1 c2 : Value} (hB : Blk w g 42 #[c1, c2])
    (hK : K a ((w.setCell ⟨g, 0, none⟩ (.int .i64 x)).setCell ⟨g, 1, none⟩ (.int .i64 y))) : o.wp Try.prog a w K Q := by
  have e1 : a.eval (.tmp p) = .pointer (some ⟨g, 0, none⟩) := hp
  have e2 : a.eval (.tmp s) = bal x y := hs
  have c := hB.cell
  have f := hB.free
  unfold Oper.wp execOp
  simp only [hop, e1, e2]
  go_simp
  exact hK
end Go.Proofs.Ytmnndekpedacmaa
