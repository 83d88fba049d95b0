/-
  Lists of logs in memory, the program's and the document's, for the law RaftSafe. No condition of its own.
-/
import Derived.Test.YtmnndekpedacmaaSafeP
import Derived.Test.YtmnndekpedacmaaTyAt
import Derived.Test.YtmnndekpedacmaaConfRQ
import Derived.Test.YtmnndekpedacmaaRaftCommit
import Derived.Test.YtmnndekpedacmaaRaftWould
namespace Go.Proofs.Ytmnndekpedacmaa
open Go Go.RowKit

/-- The cells of a list of pointers. -/
def ptrsV (gs : List Nat) : List Value := gs.map fun g => .pointer (some ⟨g, 0, none⟩)
theorem ptrsV_at {gs : List Nat} {k g : Nat} (h : gs[k]? = some g) : (ptrsV gs)[k]? = some (.pointer (some ⟨g, 0, none⟩)) := by unfold ptrsV; rw [List.getElem?_map, h]; rfl
theorem ptrsV_app (gs : List Nat) (g : Nat) : ptrsV (gs ++ [g]) = ptrsV gs ++ [.pointer (some ⟨g, 0, none⟩)] := by unfold ptrsV; simp
theorem ptrInfo1 : (Try.prog.info? 28).map (fun i => (i.zero, i.size, i.bytes)) = some (some (.pointer none), 1, 8) := by kernel_rfl
theorem ptrInfo2 : (Try.prog.info? 29).map (fun i => (i.zero, i.size, i.bytes)) = some (some (.pointer none), 1, 8) := by kernel_rfl

theorem TyS.own {w : World} {base n s : Nat} {e : TypeId} {v : Value} {xs : List Value} (o : w.ownsRow base e s v n xs) : TyS w (fun q => v.ownBlock = some q) [e] := fun q _ hs => ⟨e, by simp, own_ty o hs⟩
theorem grown_frm {w w' : World} {v : Value} (hg : w.grownBy w' v.ownBlock) : Frm (fun q => v.ownBlock = some q) w w' := (Frm.refl _ _).grown hg fun _ hk _ => hk

section
variable {T : TypeId} {w w' : World} {base : Nat} {E : Nat → List Ent} {gs : List Nat} {S : Nat → Prop} {Ts : List TypeId}
theorem LogT.frm_ty {g : Nat} {idx trm : Int} {es : List Ent} {v : Value} (h : LogT T w base g idx trm es v) (k : Frm S w w') (hS : TyS w S Ts) (h1 : T ∉ Ts) (h2 : 63 ∉ Ts) : LogT T w' base g idx trm es v :=
  ⟨h.blk.frm_ty k hS h1, h.low, own_frm_ty h.own k hS h2, h.i0, h.i1, h.n1⟩
/-- Each of these pointers is to a log, the k-th of the entries E k. -/
def Logs (T : TypeId) (w : World) (base : Nat) (E : Nat → List Ent) (gs : List Nat) : Prop := ∀ k g, gs[k]? = some g → ∃ v, LogT T w base g 0 0 (E k) v
theorem Logs.nil : Logs T w base E [] := fun k g h => by simp at h
theorem Logs.below (h : Logs T w base E gs) (k : Below w.heap.size w w') : Logs T w' base E gs := fun i g hi => by
  obtain ⟨v, hv⟩ := h i g hi
  exact ⟨v, hv.below k⟩
theorem Logs.frm_ty (h : Logs T w base E gs) (k : Frm S w w') (hS : TyS w S Ts) (h1 : T ∉ Ts) (h2 : 63 ∉ Ts) : Logs T w' base E gs := fun i g hi => by
  obtain ⟨v, hv⟩ := h i g hi
  exact ⟨v, hv.frm_ty k hS h1 h2⟩
theorem Logs.snoc (h : Logs T w base E gs) {g : Nat} {v : Value} (hg : LogT T w base g 0 0 (E gs.length) v) : Logs T w base E (gs ++ [g]) := fun i g' hi => by
  by_cases hl : i < gs.length
  · rw [List.getElem?_append_left hl] at hi
    exact h i g' hi
  · have hlt := (List.getElem?_eq_some_iff.1 hi).1
    simp at hlt
    obtain rfl : i = gs.length := by omega
    simp at hi
    subst hi
    exact ⟨v, hg⟩
end

/-- Both lists: i logs of each kind. -/
structure Two (w : World) (base : Nat) (E : Nat → List Ent) (i : Nat) (v9 v10 : Value) (gs hs : List Nat) : Prop where
  o9 : w.ownsRow base 28 1 v9 i (ptrsV gs)
  o10 : w.ownsRow base 29 1 v10 i (ptrsV hs)
  l9 : gs.length = i
  l10 : hs.length = i
  P : Logs 73 w base E gs
  R : Logs 58 w base E hs
section
variable {w w' : World} {base : Nat} {E : Nat → List Ent} {i : Nat} {v9 v10 : Value} {gs hs : List Nat}
theorem Two.nil (w : World) (base : Nat) (E : Nat → List Ent) : Two w base E 0 (.slice none 0 0) (.slice none 0 0) [] [] := ⟨World.ownsRow_nil _ _ _ _, World.ownsRow_nil _ _ _ _, rfl, rfl, Logs.nil, Logs.nil⟩
theorem Two.below (h : Two w base E i v9 v10 gs hs) (k : Below w.heap.size w w') : Two w' base E i v9 v10 gs hs :=
  ⟨own_frm h.o9 (Frm.of_below (S := no) k) (fun _ _ => id), own_frm h.o10 (Frm.of_below (S := no) k) (fun _ _ => id), h.l9, h.l10, h.P.below k, h.R.below k⟩
theorem Two.frm_ty {S : Nat → Prop} {Ts : List TypeId} (h : Two w base E i v9 v10 gs hs) (k : Frm S w w') (hS : TyS w S Ts) (h0 : 28 ∉ Ts) (h1 : 29 ∉ Ts) (h2 : 73 ∉ Ts) (h3 : 58 ∉ Ts) (h4 : 63 ∉ Ts) : Two w' base E i v9 v10 gs hs :=
  ⟨own_frm_ty h.o9 k hS h0, own_frm_ty h.o10 k hS h1, h.l9, h.l10, h.P.frm_ty k hS h2 h4, h.R.frm_ty k hS h3 h4⟩
/-- One log more of each kind. -/
theorem Two.app {w1 w2 w3 w4 : World} (h : Two w base E i v9 v10 gs hs) {g1 g2 : Nat} {u1 u2 v9' v10' : Value} (L1 : LogT 73 w base g1 0 0 (E i) u1) (L2 : LogT 58 w base g2 0 0 (E i) u2)
    (b1 : Below w.heap.size w w1) (a1 : w2.ownsRow base 28 1 v9' (i + 1) (ptrsV gs ++ [.pointer (some ⟨g1, 0, none⟩)])) (k1 : w1.grownBy w2 v9.ownBlock) (b2 : Below w2.heap.size w2 w3)
    (a2 : w4.ownsRow base 29 1 v10' (i + 1) (ptrsV hs ++ [.pointer (some ⟨g2, 0, none⟩)])) (k2 : w3.grownBy w4 v10.ownBlock) : Two w4 base E (i + 1) v9' v10' (gs ++ [g1]) (hs ++ [g2]) := by
  have H1 := h.below b1
  have f1 := grown_frm k1
  have t1 := TyS.own H1.o9
  have M1 := L1.below b1
  have M2 := L2.below b1
  have N1 := (M1.frm_ty f1 t1 (by decide) (by decide)).below b2
  have N2 := (M2.frm_ty f1 t1 (by decide) (by decide)).below b2
  have P1 := (H1.P.frm_ty f1 t1 (by decide) (by decide)).below b2
  have R1 := (H1.R.frm_ty f1 t1 (by decide) (by decide)).below b2
  have O1 := own_frm (own_frm_ty H1.o10 f1 t1 (by decide)) (Frm.of_below (S := no) b2) (fun _ _ => id)
  have A1 := own_frm a1 (Frm.of_below (S := no) b2) (fun _ _ => id)
  have f2 := grown_frm k2
  have t2 := TyS.own O1
  refine ⟨by rw [ptrsV_app]; exact own_frm_ty A1 f2 t2 (by decide), by rw [ptrsV_app]; exact a2, by rw [List.length_append, h.l9]; rfl, by rw [List.length_append, h.l10]; rfl, ?_, ?_⟩
  · exact (P1.frm_ty f2 t2 (by decide) (by decide)).snoc (v := u1) (by rw [h.l9]; exact N1.frm_ty f2 t2 (by decide) (by decide))
  · exact (R1.frm_ty f2 t2 (by decide) (by decide)).snoc (v := u2) (by rw [h.l10]; exact N2.frm_ty f2 t2 (by decide) (by decide))
theorem own_at {e : TypeId} {v : Value} {n k : Nat} {xs : List Value} {x : Value} (h : w.ownsRow base e 1 v n xs) (hx : xs[k]? = some x) : ∃ q c, v = .slice (some ⟨q, 0, none⟩) n c ∧ n ≤ c ∧ w.cell? ⟨q, k, none⟩ = some x := by
  have hl := (List.getElem?_eq_some_iff.1 hx).1
  have hn : 0 < n := by have := h.1; omega
  obtain ⟨q, c, hv, hc, _⟩ := h.form hn
  subst hv
  have := h.cells (g := q) rfl k x hx
  rw [add_flat, Nat.zero_add] at this
  obtain ⟨A, c', e', hc'⟩ := own_form h
  injection e' with e1 e2 e3
  subst e3
  exact ⟨q, c, rfl, hc', this⟩
theorem Two.log9 (h : Two w base E i v9 v10 gs hs) {k : Nat} (hk : k < i) : ∃ q c g v, v9 = .slice (some ⟨q, 0, none⟩) i c ∧ i ≤ c ∧ w.cell? ⟨q, k, none⟩ = some (.pointer (some ⟨g, 0, none⟩)) ∧ LogT 73 w base g 0 0 (E k) v := by
  have hg : gs[k]? = some (gs[k]'(by rw [h.l9]; exact hk)) := List.getElem?_eq_getElem _
  obtain ⟨v, hv⟩ := h.P k _ hg
  obtain ⟨q, c, e, hc, hcell⟩ := own_at h.o9 (ptrsV_at hg)
  exact ⟨q, c, _, v, e, hc, hcell, hv⟩
theorem Two.log10 (h : Two w base E i v9 v10 gs hs) {k : Nat} (hk : k < i) : ∃ q c g v, v10 = .slice (some ⟨q, 0, none⟩) i c ∧ i ≤ c ∧ w.cell? ⟨q, k, none⟩ = some (.pointer (some ⟨g, 0, none⟩)) ∧ LogT 58 w base g 0 0 (E k) v := by
  have hg : hs[k]? = some (hs[k]'(by rw [h.l10]; exact hk)) := List.getElem?_eq_getElem _
  obtain ⟨v, hv⟩ := h.R k _ hg
  obtain ⟨q, c, e, hc, hcell⟩ := own_at h.o10 (ptrsV_at hg)
  exact ⟨q, c, _, v, e, hc, hcell, hv⟩
end
/-- A term between none and five. -/
def cutT (x : Int) : Int := min (max x 0) 5

/-- How much of the leader's log each one has, so far. -/
structure MatchOk (E : Nat → List Ent) (ld n : Nat) (ms : List Int) : Prop where
  len : ms.length = n
  ok : ∀ (k : Nat) (x : Int), ms[k]? = some x → 0 ≤ x ∧ x ≤ ((E ld).length : Int) ∧ Agree (E ld) (E k) x
theorem MatchOk.start (E : Nat → List Ent) (ld n : Nat) : MatchOk E ld n (List.replicate n 0) := ⟨by simp, fun k x h => by
  rw [List.getElem?_replicate] at h
  split at h
  · cases h; exact ⟨Int.le_refl _, by omega, Agree.zero _ _⟩
  · cases h⟩
theorem MatchOk.next {E : Nat → List Ent} {ld n j m : Nat} {ms : List Int} {t : Int} (h : MatchOk E ld n ms) (hx : ms[j]? = some (m : Int)) (h1 : ((E ld)[m]?).map (·.term) = some t) (h2 : ((E j)[m]?).map (·.term) = some t) : MatchOk E ld n (ms.set j ((m : Int) + 1)) :=
  ⟨by rw [List.length_set]; exact h.len, fun k x hk => by
    by_cases e : j = k
    · subst e
      rw [List.getElem?_set_self (List.getElem?_eq_some_iff.1 hx).1] at hk
      obtain rfl := (Option.some.inj hk).symm
      have hm : m < (E ld).length := by
        rcases Nat.lt_or_ge m (E ld).length with h' | h'
        · exact h'
        · rw [List.getElem?_eq_none h'] at h1; cases h1
      exact ⟨by omega, by omega, (h.ok j _ hx).2.2.step h1 h2⟩
    · rw [List.getElem?_set_ne e] at hk
      exact h.ok k x hk⟩

/-- The state behind the first loop: both lists, and how much each one has. -/
structure Mid (w wr : World) (E : Nat → List Ent) (ld n g : Nat) (v9 v10 : Value) (gs hs : List Nat) (ms : List Int) : Prop where
  own : wr.ownsRow w.heap.size 3 1 (.slice (some ⟨g, 0, none⟩) n n) n (flatZ ms)
  ok : MatchOk E ld n ms
  two : Two wr w.heap.size E n v9 v10 gs hs
  bel : Below w.heap.size w wr
section
variable {w wr wr' : World} {E : Nat → List Ent} {ld n g : Nat} {v9 v10 : Value} {gs hs : List Nat} {ms : List Int}
theorem Mid.below (h : Mid w wr E ld n g v9 v10 gs hs ms) (k : Below wr.heap.size wr wr') : Mid w wr' E ld n g v9 v10 gs hs ms :=
  ⟨own_frm h.own (Frm.of_below (S := no) k) (fun _ _ => id), h.ok, h.two.below k, below_of k h.bel h.bel.size⟩
theorem Mid.qt (h : Mid w wr E ld n g v9 v10 gs hs ms) (k : Qt wr wr') : Mid w wr' E ld n g v9 v10 gs hs ms := h.below (k.below _)
theorem flatZ_put (xs : List Int) (k : Nat) (x : Int) : (flatZ xs).set k (.int .i64 x) = flatZ (xs.set k x) := by
  rw [flatZ_map, flatZ_map, List.map_set]
theorem Mid.next {j m : Nat} {t : Int} (h : Mid w wr E ld n g v9 v10 gs hs ms) (hx : ms[j]? = some (m : Int)) (h1 : ((E ld)[m]?).map (·.term) = some t) (h2 : ((E j)[m]?).map (·.term) = some t) :
    Mid w (wr.setCell ⟨g, j, none⟩ (.int .i64 ((m : Int) + 1))) E ld n g v9 v10 gs hs (ms.set j ((m : Int) + 1)) := by
  have hj := (List.getElem?_eq_some_iff.1 hx).1
  have hg : w.heap.size ≤ g := (h.own.lt g rfl).1
  have f : Frm (at1 g) wr (wr.setCell ⟨g, j, none⟩ (.int .i64 ((m : Int) + 1))) := (Frm.refl (at1 g) wr).setCell (p := ⟨g, j, none⟩) (fun _ => rfl) _
  have t : TyS wr (at1 g) [3] := fun q _ hq => ⟨_, by simp, own_ty h.own (show some g = some q by rw [show q = g from hq])⟩
  refine ⟨?_, h.ok.next hx h1 h2, h.two.frm_ty f t (by decide) (by decide) (by decide) (by decide) (by decide), h.bel.setCell hg _⟩
  have := own_put (x := .int .i64 ((m : Int) + 1)) h.own (p := j) (by have := h.ok.len; omega)
  rwa [flatZ_put] at this
theorem Mid.cell (h : Mid w wr E ld n g v9 v10 gs hs ms) {j : Nat} (hj : j < n) : ∃ m : Nat, ms[j]? = some (m : Int) ∧ m ≤ (E ld).length ∧ wr.cell? ⟨g, j, none⟩ = some (.int .i64 (m : Int)) := by
  have hx : ms[j]? = some (ms[j]'(by rw [h.ok.len]; exact hj)) := List.getElem?_eq_getElem _
  obtain ⟨h0, h1, _⟩ := h.ok.ok j _ hx
  obtain ⟨m, hm⟩ : ∃ m : Nat, ms[j]'(by rw [h.ok.len]; exact hj) = (m : Int) := ⟨_, (Int.toNat_of_nonneg h0).symm⟩
  rw [hm] at hx h1
  refine ⟨m, hx, by omega, ?_⟩
  have := h.own.cells (g := g) rfl j _ (flatZ_at ms j _ hx)
  rwa [add_flat, Nat.zero_add] at this
theorem Mid.log9 {q c : Nat} (h : Mid w wr E ld n g (.slice (some ⟨q, 0, none⟩) n c) v10 gs hs ms) {k : Nat} (hk : k < n) : ∃ r v, wr.cell? ⟨q, k, none⟩ = some (.pointer (some ⟨r, 0, none⟩)) ∧ LogT 73 wr w.heap.size r 0 0 (E k) v := by
  obtain ⟨q', c', r, v, e, _, hc, hL⟩ := h.two.log9 hk
  injection e with e; injection e with e; injection e with e; subst e
  exact ⟨r, v, hc, hL⟩
theorem Mid.log10 {q c : Nat} (h : Mid w wr E ld n g v9 (.slice (some ⟨q, 0, none⟩) n c) gs hs ms) {k : Nat} (hk : k < n) : ∃ r v, wr.cell? ⟨q, k, none⟩ = some (.pointer (some ⟨r, 0, none⟩)) ∧ LogT 58 wr w.heap.size r 0 0 (E k) v := by
  obtain ⟨q', c', r, v, e, _, hc, hL⟩ := h.two.log10 hk
  injection e with e; injection e with e; injection e with e; subst e
  exact ⟨r, v, hc, hL⟩
theorem Mid.free (h : Mid w wr E ld n g v9 v10 gs hs ms) (j : Nat) : wr.frozen? ⟨g, j, none⟩ = false := own_free h.own j
end
/-- The list of those that would grant, so far. -/
def WouldOk (E : Nat → List Ent) (i : Nat) (ws : List Int) : Prop := ∀ x ∈ ws, ∃ j : Nat, x = (j : Int) ∧ newerB 0 0 (E j) (0 + ((E i).length : Int)) (lastT 0 (E i)) = true
theorem WouldOk.nil (E : Nat → List Ent) (i : Nat) : WouldOk E i [] := fun x h => by simp at h
theorem WouldOk.app {E : Nat → List Ent} {i j : Nat} {ws : List Int} (h : WouldOk E i ws) (hj : newerB 0 0 (E j) (0 + ((E i).length : Int)) (lastT 0 (E i)) = true) : WouldOk E i (ws ++ [(j : Int)]) := fun x hx => by
  rcases List.mem_append.1 hx with hx | hx
  · exact h x hx
  · simp at hx; subst hx; exact ⟨j, rfl, hj⟩
end Go.Proofs.Ytmnndekpedacmaa
