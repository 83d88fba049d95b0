/-
  What stays beside what: the program's reads, the document's, the book, an act. Conditions: none of their own.
-/
import Derived.Test.YtlhmccinmhikkaaTyAt
import Derived.Test.YtlhmccinmhikkaaRowActs
import Derived.Test.YtlhmccinmhikkaaReadsRef
import Derived.Test.YtlhmccinmhikkaaBookIntsE
namespace Go.Proofs.Ytlhmccinmhikkaa
open Go Go.RowKit

theorem ReadsAt.far {base g : Nat} {w w' : World} {L : List R3} {v : Value} {S : Nat → Prop} {Ts : List TypeId} (h : ReadsAt base w g L v) (k : Frm S w w') (hS : TyS w S Ts) (h1 : 27 ∉ Ts) (h2 : 96 ∉ Ts) : ReadsAt base w' g L v :=
  ⟨h.lo, h.B.frm_ty k hS h1, own_frm_ty h.r k hS h2⟩
theorem RefRAt.far {base g : Nat} {w w' : World} {L : List R3} {v : Value} {S : Nat → Prop} {Ts : List TypeId} (h : RefRAt base w g L v) (k : Frm S w w') (hS : TyS w S Ts) (h1 : 31 ∉ Ts) (h2 : 48 ∉ Ts) : RefRAt base w' g L v :=
  ⟨h.lo, h.B.frm_ty k hS h1, own_frm_ty h.r k hS h2⟩
theorem RowsZ.far {w w' : World} {base N : Nat} {V : List Value} {f : Nat → List Int} {S : Nat → Prop} {Ts : List TypeId} (h : RowsZ w base V N f) (k : Frm S w w') (hS : TyS w S Ts) (h1 : 3 ∉ Ts) : RowsZ w' base V N f :=
  ⟨h.len, fun i hi => by obtain ⟨A, c, h2, h3⟩ := h.at_ i hi; exact ⟨A, c, h2, own_frm_ty h3 k hS h1⟩⟩
theorem BookZ.far {base g N : Nat} {w w' : World} {f : Nat → List Int} {v1 v2 : Value} {V W : List Value} {S : Nat → Prop} {Ts : List TypeId} (h : BookZ base w g N f v1 v2 V W) (k : Frm S w w') (hS : TyS w S Ts) (h1 : 43 ∉ Ts) (h2 : 49 ∉ Ts) (h3 : 3 ∉ Ts) : BookZ base w' g N f v1 v2 V W :=
  ⟨h.lo, h.B.frm_ty k hS h1, own_frm_ty h.r1 k hS h2, own_frm_ty h.r2 k hS h2, h.rV.far k hS h3, h.rW.far k hS h3, h.ap, h.ne⟩

theorem flatO_len (L : List O4) : (flatO L).length = L.length * 4 := flat_len O4.cells (fun _ => rfl) L
theorem flatO_at (L : List O4) (k : Nat) (x : O4) (h : L[k]? = some x) (j : Nat) (v : Value) (hv : x.cells[j]? = some v) : (flatO L)[k * 4 + j]? = some v := flat_at O4.cells (fun _ => rfl) L k x h j v hv
theorem Rd.act {w : World} {A : Option Addr} {L : List O4} (h : Rd w A (flatO L)) {k : Nat} (hk : k < L.length) : ∃ b o x, A = some ⟨b, o, none⟩ ∧ b < w.heap.size ∧ L[k]? = some x ∧ w.cell? ⟨b, o + k * 4, none⟩ = some (.int .i64 x.kind) ∧ w.cell? ⟨b, o + k * 4 + 1, none⟩ = some (.int .i64 x.a) ∧ w.cell? ⟨b, o + k * 4 + 2, none⟩ = some (.int .i64 x.b) ∧ w.cell? ⟨b, o + k * 4 + 3, none⟩ = some (.int .i64 x.c) := by
  obtain ⟨x, hx⟩ : ∃ x, L[k]? = some x := ⟨L[k]'hk, List.getElem?_eq_getElem _⟩
  obtain ⟨b, o, e, hb, hc⟩ := h.flat (by rw [flatO_len]; omega)
  refine ⟨b, o, x, e, hb, hx, ?_, ?_, ?_, ?_⟩
  · have := hc _ _ (flatO_at L k x hx 0 _ rfl); simpa using this
  · have := hc _ _ (flatO_at L k x hx 1 _ rfl); rwa [← Nat.add_assoc] at this
  · have := hc _ _ (flatO_at L k x hx 2 _ rfl); rwa [← Nat.add_assoc] at this
  · have := hc _ _ (flatO_at L k x hx 3 _ rfl); rwa [← Nat.add_assoc] at this
/-- All that wait are of numbers that an int holds. -/
def Small3 (L : List R3) : Prop := ∀ x ∈ L, x.com ≤ 9223372036854775807 ∧ x.rnd ≤ 9223372036854775807
theorem Small3.out {L : List R3} (h : Small3 L) : outR (mayR 9223372036854775807 9223372036854775807) L = L.map (·.id) := by
  unfold outR
  rw [List.filter_eq_self.2 fun x hx => by simp [mayR, h x hx]]
theorem Small3.left_ {L : List R3} (h : Small3 L) : leftR (mayR 9223372036854775807 9223372036854775807) L = [] := by
  unfold leftR
  rw [List.filter_eq_nil_iff]
  intro x hx
  simp [mayR, h x hx]
theorem Small3.filter {L : List R3} (h : Small3 L) (p : R3 → Bool) : Small3 (leftR p L) := fun x hx => h x (List.mem_filter.1 hx).1
theorem Small3.snoc {L : List R3} (h : Small3 L) (x : R3) (h1 : x.com ≤ 9223372036854775807) (h2 : x.rnd ≤ 9223372036854775807) : Small3 (L ++ [x]) := fun y hy => by
  rcases List.mem_append.1 hy with hy | hy
  · exact h y hy
  · simp at hy; subst hy; exact ⟨h1, h2⟩
theorem left_len (p : R3 → Bool) (L : List R3) : (leftR p L).length ≤ L.length := List.length_filter_le _ _
theorem out_len (p : R3 → Bool) (L : List R3) : (outR p L).length ≤ L.length := by unfold outR; rw [List.length_map]; exact List.length_filter_le _ _
/-- All that the law holds behind k acts. -/
structure Holds (B : Nat) (w : World) (k : Nat) (L : List R3) (vx vr : Value) (N : Nat) (f : Nat → List Int) (v1 v2 : Value) (V W : List Value) : Prop where
  x : ReadsAt B w B L vx
  r : RefRAt B w (B + 1) L vr
  b : BookZ B w (B + 1 + 1) N f v1 v2 V W
  s : Small3 L
  l : L.length ≤ k
  n : N ≤ k
  f : ∀ i, (f i).length ≤ 100
theorem Holds.below {B : Nat} {w w' : World} {k : Nat} {L : List R3} {vx vr : Value} {N : Nat} {f : Nat → List Int} {v1 v2 : Value} {V W : List Value} (h : Holds B w k L vx vr N f v1 v2 V W) (hb : Below w.heap.size w w') : Holds B w' k L vx vr N f v1 v2 V W :=
  ⟨h.x.below hb, h.r.below hb, h.b.below hb, h.s, h.l, h.n, h.f⟩
theorem Holds.start (w : World) : Holds w.heap.size (((w.alloc (.cells #[.slice none 0 0] 27)).alloc (.cells #[.slice none 0 0] 31)).alloc (.cells (bookZ (.slice none 0 0) (.slice none 0 0)) 43)) 0 [] (.slice none 0 0) (.slice none 0 0) 0 (fun _ => []) (.slice none 0 0) (.slice none 0 0) [] [] := by
  have s1 : (w.alloc (.cells #[.slice none 0 0] 27)).heap.size = w.heap.size + 1 := by simp
  have s2 : ((w.alloc (.cells #[.slice none 0 0] 27)).alloc (.cells #[.slice none 0 0] 31)).heap.size = w.heap.size + 1 + 1 := by simp
  refine ⟨⟨Nat.le_refl _, ((Blk.new w _ _).alloc _).alloc _, World.ownsRow_nil _ _ _ _⟩, ⟨by omega, ?_, World.ownsRow_nil _ _ _ _⟩, ?_, fun x hx => by simp at hx, Nat.le_refl _, Nat.le_refl _, fun i => by simp⟩
  · have := (Blk.new (w.alloc (.cells #[.slice none 0 0] 27)) 31 #[.slice none 0 0]).alloc (.cells (bookZ (.slice none 0 0) (.slice none 0 0)) 43)
    rwa [s1] at this
  · have := BookZ.start w.heap.size ((w.alloc (.cells #[.slice none 0 0] 27)).alloc (.cells #[.slice none 0 0] 31)) (by omega) (fun _ => [])
    rwa [s2] at this
end Go.Proofs.Ytlhmccinmhikkaa
