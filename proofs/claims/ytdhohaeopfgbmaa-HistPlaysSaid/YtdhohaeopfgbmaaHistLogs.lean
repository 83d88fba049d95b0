/-
  Chapter 25's logs: a log and the document's one, of terms behind a base. Conditions: the base is at most 2^59, at most 100000 terms.
-/
import Derived.Test.YtdhohaeopfgbmaaHistRef
namespace Go.Proofs.Ytdhohaeopfgbmaa
open Go Go.RowKit
attribute [local go_sem] cell_set_if

/-- The entries of terms behind an index and a term. -/
def risenE (i t : Int) : List Int → List Ent
  | [] => []
  | x :: xs => ⟨i + 1, max t x, 0, 0, .slice none 0 0⟩ :: risenE (i + 1) (max t x) xs
/-- The greatest of a term and terms. -/
def risenT (t : Int) : List Int → Int
  | [] => t
  | x :: xs => risenT (max t x) xs
theorem risenE_len (i t : Int) (xs : List Int) : (risenE i t xs).length = xs.length := by
  induction xs generalizing i t with
  | nil => rfl
  | cons x xs ih => simp [risenE, ih]
theorem risenT_app (t : Int) (xs : List Int) (x : Int) : risenT t (xs ++ [x]) = max (risenT t xs) x := by
  induction xs generalizing t with
  | nil => rfl
  | cons y xs ih => simp [risenT, ih]
theorem risenE_app (i t : Int) (xs : List Int) (x : Int) : risenE i t (xs ++ [x]) = risenE i t xs ++ [⟨i + xs.length + 1, max (risenT t xs) x, 0, 0, .slice none 0 0⟩] := by
  induction xs generalizing i t with
  | nil => simp [risenE, risenT]
  | cons y xs ih =>
    simp only [List.cons_append, risenE, risenT, ih, List.length_cons]
    rw [show i + 1 + (xs.length : Int) + 1 = i + ((xs.length + 1 : Nat) : Int) + 1 by omega]
theorem lastT_app (t : Int) (es : List Ent) (e : Ent) : lastT t (es ++ [e]) = e.term := by unfold lastT; simp
theorem lastT_cons (t : Int) (e : Ent) (es : List Ent) : lastT t (e :: es) = lastT e.term es := by
  unfold lastT
  cases es with
  | nil => rfl
  | cons a es => simp [List.getLast?_cons]
theorem risenE_last (i t : Int) (xs : List Int) : lastT t (risenE i t xs) = risenT t xs := by
  induction xs generalizing i t with
  | nil => rfl
  | cons x xs ih => rw [risenE, lastT_cons, ih]; rfl
theorem risenE_nil (i t : Int) (xs : List Int) : ∀ e ∈ risenE i t xs, e.cmds = .slice none 0 0 := by
  induction xs generalizing i t with
  | nil => intro e he; cases he
  | cons x xs ih =>
    intro e he
    simp only [risenE, List.mem_cons] at he
    rcases he with rfl | he
    · rfl
    · exact ih _ _ e he
theorem risenE_one (i t : Int) (xs : List Int) : ∀ e ∈ risenE i t xs, e.cmds.oneCell' = true := fun e he => by rw [risenE_nil i t xs e he]; rfl

theorem LogT.base {T : TypeId} {w : World} {base base' g : Nat} {idx trm : Int} {es : List Ent} {v : Value} (h : LogT T w base g idx trm es v) (hb : base' ≤ base) : LogT T w base' g idx trm es v :=
  ⟨h.blk, Nat.le_trans hb h.low, own_base h.own hb, h.i0, h.i1, h.n1⟩
theorem LogT.mine_lt {T : TypeId} {w : World} {base g : Nat} {idx trm : Int} {es : List Ent} {v : Value} (h : LogT T w base g idx trm es v) (k : Nat) (hk : mine g v k) : base ≤ k ∧ k < w.heap.size := by
  rcases hk with rfl | hk
  · exact ⟨h.low, h.blk.lt⟩
  · have := h.own.lt k hk; omega
/-- Two objects have no block in common. -/
def Aside (g : Nat) (v : Value) (g' : Nat) (v' : Value) : Prop := ∀ k, mine g v k → ¬ mine g' v' k
theorem LogT.turn {T : TypeId} {w w' : World} {base g g' : Nat} {idx trm : Int} {es : List Ent} {v u u' : Value} (h : LogT T w base g idx trm es v) (ha : Aside g v g' u) (hT : Turn g' u w u' w') :
    LogT T w' base g idx trm es v ∧ Aside g v g' u' := by
  refine ⟨h.frm hT.frm (ha g (.inl rfl)) fun r hr => ha r (.inr hr), fun k hk hm => ?_⟩
  rcases hT.ofmine k hm with h1 | h1
  · exact ha k hk h1
  · have := h.mine_lt k hk; omega

theorem Aside.symm {g g' : Nat} {v v' : Value} (h : Aside g v g' v') : Aside g' v' g v := fun k h1 h2 => h k h2 h1
theorem Turn.new_cell {g : Nat} {v v' : Value} {w w' : World} {o : Obj} (h : Turn g v (w.alloc o) v' w') (hm : ∀ k, mine g v k → k < w.heap.size) (j : Nat) : w'.cell? ⟨w.heap.size, j, none⟩ = (w.alloc o).cell? ⟨w.heap.size, j, none⟩ :=
  h.frm.cell (by simp) (fun hk => by have := hm _ hk; simp at this)
theorem Turn.new {g : Nat} {v v' : Value} {w w' : World} {o : Obj} (h : Turn g v (w.alloc o) v' w') : Turn g v w v' w' :=
  Turn.trans (v' := v) ⟨(Frm.refl _ _).alloc _, fun _k hk => .inl hk⟩ h

theorem rises_one (last t t' : Int) (h : t ≤ t') : Rises last (fun k => if k = 0 then t else t') [⟨last + 1, t', 0, 0, .slice none 0 0⟩] := by
  constructor
  all_goals
    intro k e he
    rcases k with _ | k
    · simp at he; subst he; simp <;> omega
    · simp at he

theorem one_append (w : World) (base g : Nat) (idx trm : Int) (es : List Ent) (v : Value) (h : LogAt w base g idx trm es v) (B : Nat) (hB : B = w.heap.size) (x t' : Int) (hx : x = idx + es.length + 1) (ht : lastT trm es ≤ t') (hlen : es.length + 1 ≤ 1000000) :
    Calls Try.prog 12 #[.pointer (some ⟨g, 0, none⟩), .slice (some ⟨B, 0, none⟩) 1 1] (w.alloc (.cells #[.int .i64 x, .int .i64 t', .int .i64 0, .int .i64 0, .slice none 0 0] 53))
      fun e w' => e = .returned (.int .i64 0) ∧ ∃ v', LogAt w' base g idx trm (es ++ [⟨idx + es.length + 1, t', 0, 0, .slice none 0 0⟩]) v' ∧ Turn g v w v' w' := by
  subst hB
  subst hx
  have L1 := h.below ((Below.refl _ _).alloc (Nat.le_refl _) (.cells #[.int .i64 (idx + es.length + 1), .int .i64 t', .int .i64 0, .int .i64 0, .slice none 0 0] 53))
  refine (append_turn _ base g idx trm es v L1 w.heap.size 0 1 1 [⟨idx + es.length + 1, t', 0, 0, .slice none 0 0⟩] (fun k => if k = 0 then lastT trm es else t') (fun j x hx => ?_) rfl (rises_one _ _ _ ht) rfl (by simp) (by have := h.blk.lt; omega) (fun hk => ?_) hlen).mono ?_
  · rw [Nat.zero_add, World.cell?_alloc_new]
    simpa [flatE, Ent.cells] using hx
  · have := h.own.lt _ hk; omega
  · rintro e w' ⟨h0, v', h1, h2, h3⟩
    exact ⟨h0, v', h1, Turn.trans (v' := v) ⟨(Frm.refl _ _).alloc _, fun k hk => .inl hk⟩ h3⟩
theorem one_ref_append (w : World) (base g : Nat) (idx trm : Int) (es : List Ent) (v : Value) (h : RefAt w base g idx trm es v) (B : Nat) (hB : B = w.heap.size) (x t' : Int) (hx : x = idx + es.length + 1) (ht : lastT trm es ≤ t') (hlen : es.length + 1 ≤ 1000000) (he1 : ∀ e ∈ es, e.cmds.oneCell' = true) :
    Calls Try.prog 13 #[.pointer (some ⟨g, 0, none⟩), .slice (some ⟨B, 0, none⟩) 1 1] (w.alloc (.cells #[.int .i64 x, .int .i64 t', .int .i64 0, .int .i64 0, .slice none 0 0] 53))
      fun e w' => e = .returned (.int .i64 0) ∧ ∃ v', RefAt w' base g idx trm (es ++ [⟨idx + es.length + 1, t', 0, 0, .slice none 0 0⟩]) v' ∧ Turn g v w v' w' := by
  subst hB
  subst hx
  have L1 := h.below ((Below.refl _ _).alloc (Nat.le_refl _) (.cells #[.int .i64 (idx + es.length + 1), .int .i64 t', .int .i64 0, .int .i64 0, .slice none 0 0] 53))
  refine (ref_append_any _ base g idx trm es v L1 w.heap.size 0 1 1 [⟨idx + es.length + 1, t', 0, 0, .slice none 0 0⟩] (fun k => if k = 0 then lastT trm es else t') (fun j x hx => ?_) rfl (rises_one _ _ _ ht).rises0 rfl (by simp) hlen he1 ?_).mono ?_
  · rw [Nat.zero_add, World.cell?_alloc_new]
    simpa [flatE, Ent.cells] using hx
  · intro e he; simp at he; subst he; rfl
  · rintro e w' ⟨h0, v', h1, h2, h3⟩
    exact ⟨h0, v', h1, Turn.trans (v' := v) ⟨(Frm.refl _ _).alloc _, fun k hk => .inl hk⟩ h3⟩

end Go.Proofs.Ytdhohaeopfgbmaa
