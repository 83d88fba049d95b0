/-
  The log in memory: what its reading calls give (Last, LastTerm, Term, Newer), and New. Condition: its base and its length are below 2^60.
-/
import Derived.Test.YtmnndekpedacmaaRows
import Derived.Test.YtmnndekpedacmaaBase
import Derived.Test.YtmnndekpedacmaaQt
namespace Go.Proofs.Ytmnndekpedacmaa
open Go Go.RowKit

/-- An entry's cells. -/
structure Ent where
  index : Int
  term : Int
  client : Int
  seq : Int
  cmds : Value
def Ent.cells (e : Ent) : List Value := [.int .i64 e.index, .int .i64 e.term, .int .i64 e.client, .int .i64 e.seq, e.cmds]
def flatE (es : List Ent) : List Value := es.flatMap Ent.cells
theorem flatE_len (es : List Ent) : (flatE es).length = es.length * 5 := by
  induction es with
  | nil => rfl
  | cons e es ih => simp [flatE, Ent.cells] at ih ⊢; omega
theorem flatE_at (es : List Ent) (k : Nat) (e : Ent) (h : es[k]? = some e) (j : Nat) (v : Value) (hv : e.cells[j]? = some v) : (flatE es)[k * 5 + j]? = some v := by
  induction es generalizing k with
  | nil => simp at h
  | cons d es ih =>
    have hd : flatE (d :: es) = d.cells ++ flatE es := rfl
    rw [hd]
    cases k with
    | zero =>
      simp at h; subst h
      have hj : j < d.cells.length := (List.getElem?_eq_some_iff.1 hv).1
      rw [Nat.zero_mul, Nat.zero_add, List.getElem?_append_left hj]; exact hv
    | succ k =>
      simp at h
      have hl : d.cells.length = 5 := rfl
      rw [List.getElem?_append_right (by omega), hl, show (k + 1) * 5 + j - 5 = k * 5 + j by omega]
      exact ih k h

/-- A log (T: its struct's type): its base's index and term, and its entries, at block g. -/
structure LogT (T : TypeId) (w : World) (base g : Nat) (idx trm : Int) (es : List Ent) (v : Value) : Prop where
  blk : Blk w g T #[.int .i64 idx, .int .i64 trm, v]
  low : base ≤ g
  own : w.ownsRow base 63 5 v es.length (flatE es)
  i0 : 0 ≤ idx
  i1 : idx ≤ 1152921504606846976
  n1 : es.length ≤ 1000000000

/-- The program's log. -/
abbrev LogAt := LogT 73
/-- The document's log. -/
abbrev RefAt := LogT 58

/-- The term of an index. -/
def termE (idx trm : Int) (es : List Ent) (i : Int) : Option Int :=
  if i < idx ∨ idx + es.length < i then none else if i = idx then some trm else (es[(i - idx - 1).toNat]?).map (·.term)

theorem termE_base (idx trm : Int) (es : List Ent) : termE idx trm es idx = some trm := by unfold termE; rw [if_neg (by omega), if_pos rfl]

section
variable {T : TypeId} {w w' : World} {base g : Nat} {idx trm : Int} {es : List Ent} {v : Value}
theorem LogT.drewN (h : LogT T w base g idx trm es v) (n : Nat) : LogT T (w.drewN n) base g idx trm es v := ⟨h.blk, h.low, h.own, h.i0, h.i1, h.n1⟩
theorem LogT.frm {S : Nat → Prop} (h : LogT T w base g idx trm es v) (k : Frm S w w') (hg : ¬ S g) (hv : ∀ r, v.ownBlock = some r → ¬ S r) : LogT T w' base g idx trm es v :=
  ⟨h.blk.frm k hg, h.low, own_frm h.own k hv, h.i0, h.i1, h.n1⟩
theorem LogT.below (h : LogT T w base g idx trm es v) (k : Below w.heap.size w w') : LogT T w' base g idx trm es v :=
  h.frm (S := no) (Frm.of_below k) id fun _ _ => id
theorem LogT.form (h : LogT T w base g idx trm es v) : ∃ A c, v = .slice A es.length c ∧ es.length ≤ c := own_form h.own
end

theorem new_log (w : World) (x' y' x y : Int) (hx : x' = x) (hy : y' = y) (h0 : 0 ≤ x) (h1 : x ≤ 1152921504606846976) :
    LogAt (w.alloc (.cells #[.int .i64 x', .int .i64 y', .slice none 0 0] 73)) w.heap.size w.heap.size x y [] (.slice none 0 0) := by
  subst hx hy
  exact ⟨Blk.new _ _ _, Nat.le_refl _, World.ownsRow_nil _ _ _ _, h0, h1, by simp⟩

theorem new_any (i t : Int) (w : World) (hi : i ≤ 1152921504606846976) :
    Calls Try.prog 27 #[.int .i64 i, .int .i64 t] w fun e w' => e = .returned (.pointer (some ⟨w.heap.size, 0, none⟩)) ∧ LogAt w' w.heap.size w.heap.size (max i 0) (max t 0) [] (.slice none 0 0) ∧ Below w.heap.size w w' := by
  have H1 : Hid (max i 0 ≤ 1152921504606846976) := by unfold Hid; omega
  have H0 : Hid (0 ≤ max i 0) := by unfold Hid; omega
  obtain ⟨x, hx⟩ : ∃ x, x = max i 0 := ⟨_, rfl⟩
  obtain ⟨y, hy⟩ : ∃ y, y = max t 0 := ⟨_, rfl⟩
  rw [← hx] at H1 H0 ⊢
  rw [← hy]
  have HX := Lib.hid hx
  have HY := Lib.hid hy
  clear hx hy
  go_enter Try.func27, Try.ntmps27
  go_wp2
  all_goals go_ret
  all_goals exact ⟨rfl, new_log _ _ _ _ _ (by have := HX.out; omega) (by have := HY.out; omega) H0.out H1.out, (Below.refl _ _).alloc (Nat.le_refl _) _⟩

theorem LogT.qt {T : TypeId} {w w' : World} {base g : Nat} {idx trm : Int} {es : List Ent} {v : Value} (h : LogT T w base g idx trm es v) (k : Qt w w') : LogT T w' base g idx trm es v := by obtain ⟨n, rfl⟩ := k; exact h.drewN n

theorem last_any (w : World) (base g : Nat) (idx trm : Int) (es : List Ent) (v : Value) (h : LogAt w base g idx trm es v) :
    Calls Try.prog 33 #[.pointer (some ⟨g, 0, none⟩)] w fun e w' => e = .returned (.int .i64 (idx + es.length)) ∧ Qt w w' := by
  obtain ⟨A, c, rfl, hc⟩ := h.form
  have c0 := h.blk.cell 0
  have c2 := h.blk.cell 2
  have h0 := h.i0
  have h1 := h.i1
  have h2 := h.n1
  simp at c0 c2
  clear h
  go_enter Try.func33, Try.ntmps33
  go_wp2
  go_quiet (fail)
  go_wp2
  go_ret
  exact ⟨rfl, Qt.drewN _ _⟩

set_option maxHeartbeats 1000000 in
theorem term_no (w : World) (base g : Nat) (idx trm : Int) (es : List Ent) (v : Value) (i : Int) (h : LogAt w base g idx trm es v) (hi : i < idx ∨ idx + es.length < i) :
    Calls Try.prog 32 #[.pointer (some ⟨g, 0, none⟩), .int .i64 i] w fun e w' => e = .returned (.tuple #[.int .i64 0, .bool false]) ∧ Qt w w' := by
  have H := Lib.hid h
  have c0 := h.blk.cell 0
  simp at c0
  clear h
  by_cases h1 : i < idx
  · go_enter Try.func32, Try.ntmps32
    go_wp2
    go_ret2
    exact ⟨rfl, Qt.refl _⟩
  · have h2 : idx + es.length < i := by omega
    clear hi
    go_enter Try.func32, Try.ntmps32
    go_wp2_with (go_at_call 33; refine (last_any _ _ _ _ _ _ _ H.out).mono ?_; rintro e w1 ⟨rfl, hq⟩)
    go_ret2
    exact ⟨rfl, hq⟩
set_option maxHeartbeats 1000000 in
theorem term_base (w : World) (base g : Nat) (idx trm : Int) (es : List Ent) (v : Value) (h : LogAt w base g idx trm es v) :
    Calls Try.prog 32 #[.pointer (some ⟨g, 0, none⟩), .int .i64 idx] w fun e w' => e = .returned (.tuple #[.int .i64 trm, .bool true]) ∧ Qt w w' := by
  have H := Lib.hid h
  have c0 := h.blk.cell 0
  simp at c0
  clear h
  go_enter Try.func32, Try.ntmps32
  go_wp2_with (go_at_call 33; refine (last_any _ _ _ _ _ _ _ H.out).mono ?_; rintro e w1 ⟨rfl, n, rfl⟩; have c0 := (H.out.drewN n).blk.cell 0; have c1 := (H.out.drewN n).blk.cell 1; simp at c0 c1)
  go_ret2
  exact ⟨rfl, Qt.drewN _ _⟩
set_option maxHeartbeats 1000000 in
theorem term_at (w : World) (base g : Nat) (idx trm : Int) (es : List Ent) (v : Value) (k : Nat) (e : Ent) (h : LogAt w base g idx trm es v) (hk : es[k]? = some e) :
    Calls Try.prog 32 #[.pointer (some ⟨g, 0, none⟩), .int .i64 (idx + k + 1)] w fun e' w' => e' = .returned (.tuple #[.int .i64 e.term, .bool true]) ∧ Qt w w' := by
  have H := Lib.hid h
  have c0 := h.blk.cell 0
  have hl := (List.getElem?_eq_some_iff.1 hk).1
  have hi0 := h.i0
  have hi1 := h.i1
  have hn1 := h.n1
  obtain ⟨r, c, rfl, _, _⟩ := h.own.form (by omega)
  have hcell := h.own.cellAt (k * 5 + 1) (by omega)
  rw [flatE_at es k e hk 1 (.int .i64 e.term) rfl] at hcell
  have HC := Lib.hid hcell
  simp at c0
  clear h hk hcell
  go_enter Try.func32, Try.ntmps32
  go_wp2_with (go_at_call 33; refine (last_any _ _ _ _ _ _ _ H.out).mono ?_; rintro e w1 ⟨rfl, n, rfl⟩; have c0 := (H.out.drewN n).blk.cell 0; have c2 := (H.out.drewN n).blk.cell 2; simp at c0 c2)
  have e1 : IntKind.i64.wrap (idx + k + 1 - idx) = (k : Int) + 1 := by rw [show idx + k + 1 - idx = (k : Int) + 1 by omega]; exact IntWalk.i64_in _ (by omega)
  have e2 : IntKind.i64.wrap (k : Int) = (k : Int) := IntWalk.i64_in _ (by omega)
  have hki : (k : Int) < (es.length : Int) := by omega
  have hcc := HC.out
  go_quiet (fail)
  go_wp2
  go_ret2
  exact ⟨rfl, (Qt.drewN w n).trans (Qt.drewN _ _)⟩

/-- Term, at every index. -/
theorem term_any (w : World) (base g : Nat) (idx trm : Int) (es : List Ent) (v : Value) (i : Int) (h : LogAt w base g idx trm es v) :
    Calls Try.prog 32 #[.pointer (some ⟨g, 0, none⟩), .int .i64 i] w fun e' w' => e' = .returned (.tuple #[.int .i64 ((termE idx trm es i).getD 0), .bool (termE idx trm es i).isSome]) ∧ Qt w w' := by
  by_cases h1 : i < idx ∨ idx + es.length < i
  · have : termE idx trm es i = none := by unfold termE; rw [if_pos h1]
    rw [this]
    exact term_no w base g idx trm es v i h h1
  · by_cases h2 : i = idx
    · subst h2
      rw [termE_base]
      exact term_base w base g i trm es v h
    · obtain ⟨k, hk⟩ : ∃ k : Nat, i = idx + k + 1 := ⟨(i - idx - 1).toNat, by omega⟩
      have hkl : k < es.length := by omega
      have : termE idx trm es i = some es[k].term := by
        unfold termE
        rw [if_neg h1, if_neg h2, show (i - idx - 1).toNat = k by omega, List.getElem?_eq_getElem hkl]; rfl
      rw [this, hk]
      exact term_at w base g idx trm es v k es[k] h (List.getElem?_eq_getElem hkl)

/-- The last term. -/
def lastT (trm : Int) (es : List Ent) : Int := ((es.getLast?).map (·.term)).getD trm
theorem termE_last (idx trm : Int) (es : List Ent) (_h : 0 ≤ idx) : termE idx trm es (idx + es.length) = some (lastT trm es) := by
  unfold termE lastT
  rw [if_neg (by omega)]
  cases hl : es.getLast? with
  | none =>
    have : es = [] := by simpa using hl
    subst this; simp
  | some e =>
    have hne : es ≠ [] := by intro h; rw [h] at hl; simp at hl
    have hp : 0 < es.length := List.length_pos_iff.2 hne
    rw [if_neg (by omega), show (idx + (es.length : Int) - idx - 1).toNat = es.length - 1 by omega, ← List.getLast?_eq_getElem?, hl]; rfl

theorem lastterm_any (w : World) (base g : Nat) (idx trm : Int) (es : List Ent) (v : Value) (h : LogAt w base g idx trm es v) :
    Calls Try.prog 42 #[.pointer (some ⟨g, 0, none⟩)] w fun e' w' => e' = .returned (.int .i64 (lastT trm es)) ∧ Qt w w' := by
  have H := Lib.hid h
  have E := Lib.hid (termE_last idx trm es h.i0)
  clear h
  go_enter Try.func42, Try.ntmps42
  go_wp2_with (first
    | (go_at_call 33; refine (last_any _ _ _ _ _ _ _ H.out).mono ?_; rintro e w1 ⟨rfl, q1⟩)
    | (go_at_call 32; refine (term_any _ _ _ _ _ _ _ _ (H.out.qt q1)).mono ?_; rw [E.out]; rintro e w2 ⟨rfl, q2⟩))
  go_ret
  exact ⟨rfl, q1.trans q2⟩

/-- Is a log of this last index and term as new as one? -/
def newerB (idx trm : Int) (es : List Ent) (i t : Int) : Bool := decide (lastT trm es < t) || (t == lastT trm es && decide (idx + es.length ≤ i))
set_option maxHeartbeats 1000000 in
theorem newer_any (w : World) (base g : Nat) (idx trm : Int) (es : List Ent) (v : Value) (i t : Int) (h : LogAt w base g idx trm es v) :
    Calls Try.prog 35 #[.pointer (some ⟨g, 0, none⟩), .int .i64 i, .int .i64 t] w fun e' w' => e' = .returned (.bool (newerB idx trm es i t)) ∧ Qt w w' := by
  have H := Lib.hid h
  clear h
  obtain ⟨r, hr⟩ : ∃ r, r = newerB idx trm es i t := ⟨_, rfl⟩
  rw [← hr]
  unfold newerB at hr
  obtain ⟨l, hl⟩ : ∃ l, l = lastT trm es := ⟨_, rfl⟩
  rw [← hl] at hr
  have hlt : ∀ w, LogAt w base g idx trm es v → Calls Try.prog 42 #[.pointer (some ⟨g, 0, none⟩)] w fun e' w' => e' = .returned (.int .i64 l) ∧ Qt w w' := by
    rw [hl]; exact fun w h => lastterm_any w base g idx trm es v h
  have HL := Lib.hid hlt
  clear hl hlt
  by_cases h1 : l < t
  · have HR : Hid (r = true) := by unfold Hid; rw [hr]; simp [h1]
    clear hr
    go_enter Try.func35, Try.ntmps35
    go_wp2_with (go_at_call 42; refine (HL.out _ H.out).mono ?_; rintro e w1 ⟨rfl, q1⟩)
    go_ret
    exact ⟨ret_bool HR.out.symm, q1⟩
  · by_cases h2 : t = l
    · have h2' : (t == l) = true := by simpa using h2
      have HR : Hid (r = decide (idx + es.length ≤ i)) := by unfold Hid; rw [hr]; simp [h1, h2]
      clear hr h2
      go_enter Try.func35, Try.ntmps35
      go_wp2_with fail
      refine (HL.out _ H.out).mono ?_; rintro e w1 ⟨rfl, q1⟩
      go_wp2_with fail
      refine (HL.out _ (H.out.qt q1)).mono ?_; rintro e w2 ⟨rfl, q2⟩
      go_wp2_with fail
      refine (last_any _ _ _ _ _ _ _ ((H.out.qt q1).qt q2)).mono ?_; rintro e w3 ⟨rfl, q3⟩
      go_wp2_with fail
      go_ret
      exact ⟨ret_bool (by rw [HR.out, show decide (l < t) = false by simp; omega]; rfl), (q1.trans q2).trans q3⟩
    · have h2' : (t == l) = false := by simpa using h2
      have HR : Hid (r = false) := by unfold Hid; rw [hr]; simp [h1, h2]
      clear hr h2
      go_enter Try.func35, Try.ntmps35
      go_wp2_with fail
      refine (HL.out _ H.out).mono ?_; rintro e w1 ⟨rfl, q1⟩
      go_wp2_with fail
      refine (HL.out _ (H.out.qt q1)).mono ?_; rintro e w2 ⟨rfl, q2⟩
      go_wp2_with fail
      go_ret
      exact ⟨ret_bool (by rw [HR.out]; simp; omega), q1.trans q2⟩
end Go.Proofs.Ytmnndekpedacmaa
