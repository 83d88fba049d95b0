/-
  FreePlays: each call on what the law holds. No condition of its own.
-/
import Derived.Test.YtdpgeoiehbijlaaGreatFreePlaysP
import Derived.Test.YtdpgeoiehbijlaaGreatFreeRunsW
namespace Go.Proofs.YtdpgeoiehbijlaaGreat
open Go Go.RowKit
attribute [local go_sem] cell_set_if

/-- Blocks of the law's own that may turn: not those in E. -/
def outE (B : Nat) (E : Nat → Prop) (q : Nat) : Prop := B ≤ q ∧ ¬ E q
section
variable {B : Nat} {w w' : World} {E E' : Nat → Prop} {sx sr s' : Fs} {gx : Nat} {v1 v2 v1' v2' : Value} {gr : Nat} {u1 u2 u1' u2' : Value} {gb N : Nat} {f : Nat → List Int} {b1 b2 : Value} {V W : List Value}
theorem PlaysAt.outX (h : PlaysAt B w E sx sr gx v1 v2 gr u1 u2 gb N f b1 b2 V W) (T : Frm (mineF gx v1 v2) w w') : Frm (outE B E) w w' := T.mono fun q _ hq => ⟨(h.x.mine_lt q hq).1, h.xe q hq⟩
theorem PlaysAt.outR (h : PlaysAt B w E sx sr gx v1 v2 gr u1 u2 gb N f b1 b2 V W) (T : Frm (mineF gr u1 u2) w w') : Frm (outE B E) w w' := T.mono fun q _ hq => ⟨(h.r.mine_lt q hq).1, h.re q hq⟩
theorem PlaysAt.takeX (h : PlaysAt B w E sx sr gx v1 v2 gr u1 u2 gb N f b1 b2 V W) {n a e0 : Int} (ht : takeS sx n = ((a, e0), s')) :
    Calls Tryz.prog 11 #[.pointer (some ⟨gx, 0, none⟩), .int .i64 n] w fun e w' => e = .returned (.tuple #[.int .i64 a, .int .i64 e0]) ∧ (∃ v1' v2', PlaysAt B w' E s' sr gx v1' v2' gr u1 u2 gb N f b1 b2 V W) ∧ Frm (outE B E) w w' :=
  (ftake_of ht h.ox w h.x).mono fun _ _ ⟨he, x1, x2, F, T⟩ => ⟨he, ⟨x1, x2, h.turnX F (by have := takeS_ok h.ox n; rwa [ht] at this) T⟩, h.outX T.frm⟩
theorem PlaysAt.takeR (h : PlaysAt B w E sx sr gx v1 v2 gr u1 u2 gb N f b1 b2 V W) {n a e0 : Int} (ht : takeS sr n = ((a, e0), s')) :
    Calls Tryz.prog 12 #[.pointer (some ⟨gr, 0, none⟩), .int .i64 n] w fun e w' => e = .returned (.tuple #[.int .i64 a, .int .i64 e0]) ∧ (∃ u1' u2', PlaysAt B w' E sx s' gx v1 v2 gr u1' u2' gb N f b1 b2 V W) ∧ Frm (outE B E) w w' := by
  have h1 := rtake_any B gr sr n u1 u2 w h.r h.od
  rw [ht] at h1
  exact h1.mono fun _ _ ⟨he, x1, x2, F, T⟩ => ⟨he, ⟨x1, x2, h.turnR F (by have := takeS_ok h.od n; rwa [ht] at this) T⟩, h.outR T.frm⟩
theorem PlaysAt.giveX (h : PlaysAt B w E sx sr gx v1 v2 gr u1 u2 gb N f b1 b2 V W) {tx : Int} {A : Option Addr} {n c k : Nat} {ids : List Int} (hr : Rd w A (flatZ ids)) (hn : ids.length = n) (hm : n ≤ 5000) (hA : 0 < n → ∀ a, A = some a → E a.block ∨ a.block < B) (hg : giveS sx tx ids = (s', k)) :
    Calls Tryz.prog 13 #[.pointer (some ⟨gx, 0, none⟩), .int .i64 tx, .slice A n c] w fun e w' => e = .returned (.int .i64 (k : Nat)) ∧ (∃ v2', PlaysAt B w' E s' sr gx v1 v2' gr u1 u2 gb N f b1 b2 V W) ∧ Frm (outE B E) w w' := by
  have h1 := fgive_any B gx sx tx v1 v2 w h.x h.ox A n c ids hr hn hm (fun hn0 a ha hm => by
    rcases hA hn0 a ha with h2 | h2
    · exact h.xe _ hm h2
    · have := (h.x.mine_lt _ hm).1; omega) h.size
  rw [hg] at h1
  exact h1.mono fun _ _ ⟨he, x2, F, T⟩ => ⟨he, ⟨x2, h.turnX F (by have := giveS_ok h.ox tx ids; rwa [hg] at this) T⟩, h.outX T.frm⟩
theorem PlaysAt.giveR (h : PlaysAt B w E sx sr gx v1 v2 gr u1 u2 gb N f b1 b2 V W) {tx : Int} {A : Option Addr} {n c k : Nat} {ids : List Int} (hr : Rd w A (flatZ ids)) (hn : ids.length = n) (hm : n ≤ 5000) (hA : 0 < n → ∀ a, A = some a → E a.block ∨ a.block < B) (hg : giveS sr tx ids = (s', k)) :
    Calls Tryz.prog 14 #[.pointer (some ⟨gr, 0, none⟩), .int .i64 tx, .slice A n c] w fun e w' => e = .returned (.int .i64 (k : Nat)) ∧ (∃ u2', PlaysAt B w' E sx s' gx v1 v2 gr u1 u2' gb N f b1 b2 V W) ∧ Frm (outE B E) w w' := by
  have h1 := rgive_any B gr sr tx u1 u2 w h.r h.od A n c ids hr hn hm (fun hn0 a ha hm => by
    rcases hA hn0 a ha with h2 | h2
    · exact h.re _ hm h2
    · have := (h.r.mine_lt _ hm).1; omega) h.size
  rw [hg] at h1
  exact h1.mono fun _ _ ⟨he, x2, F, T⟩ => ⟨he, ⟨x2, h.turnR F (by have := giveS_ok h.od tx ids; rwa [hg] at this) T⟩, h.outR T.frm⟩
theorem PlaysAt.relX (h : PlaysAt B w E sx sr gx v1 v2 gr u1 u2 gb N f b1 b2 V W) {b : Int} {k : Nat} (hr : relS sx b = (s', k)) :
    Calls Tryz.prog 15 #[.pointer (some ⟨gx, 0, none⟩), .int .i64 b] w fun e w' => e = .returned (.int .i64 (k : Nat)) ∧ (∃ v1' v2', PlaysAt B w' E s' sr gx v1' v2' gr u1 u2 gb N f b1 b2 V W) ∧ Frm (outE B E) w w' :=
  (frel_of hr h.ox w h.x).mono fun _ _ ⟨he, x1, x2, F, T⟩ => ⟨he, ⟨x1, x2, h.turnX F (by have := relS_ok h.ox b; rwa [hr] at this) T⟩, h.outX T.frm⟩
theorem PlaysAt.relR (h : PlaysAt B w E sx sr gx v1 v2 gr u1 u2 gb N f b1 b2 V W) {b : Int} {k : Nat} (hr : relS sr b = (s', k)) :
    Calls Tryz.prog 16 #[.pointer (some ⟨gr, 0, none⟩), .int .i64 b] w fun e w' => e = .returned (.int .i64 (k : Nat)) ∧ (∃ u1' u2', PlaysAt B w' E sx s' gx v1 v2 gr u1' u2' gb N f b1 b2 V W) ∧ Frm (outE B E) w w' := by
  have h1 := rrel_any B gr sr b u1 u2 w h.r h.od h.size
  rw [hr] at h1
  exact h1.mono fun _ _ ⟨he, x1, x2, F, T⟩ => ⟨he, ⟨x1, x2, h.turnR F (by have := relS_ok h.od b; rwa [hr] at this) T⟩, h.outR T.frm⟩
theorem PlaysAt.copyX (h : PlaysAt B w E sx sr gx v1 v2 gr u1 u2 gb N f b1 b2 V W) :
    Calls Tryz.prog 17 #[.pointer (some ⟨gx, 0, none⟩)] w fun e w' => (∃ gy y1 y2, e = .returned (.pointer (some ⟨gy, 0, none⟩)) ∧ FreeAt w' B gy sx y1 y2 ∧ PlaysAt B w' (mineF gy y1 y2) sx sr gx v1 v2 gr u1 u2 gb N f b1 b2 V W ∧ ∀ q, mineF gy y1 y2 q → ¬ bookAll gb b1 b2 V W q) ∧ Below w.heap.size w w' :=
  (fcopy_any B gx sx v1 v2 w h.x h.ox.len.1 h.ox.len.2.1).mono fun _ _ ⟨⟨g, y1, y2, he, F⟩, hb⟩ => ⟨⟨g, y1, y2, he, F.base_ h.size, h.ext hb fun q hq => .inr (F.mine_lt q hq), fun q hq hbq => by
    have h1 := (F.mine_lt q hq).1
    have h2 := (h.b.all_lt hbq).2
    omega⟩, hb⟩
/-- A list that a call gave is one more that is to stay. -/
theorem PlaysAt.gives (h : PlaysAt B w E sx sr gx v1 v2 gr u1 u2 gb N f b1 b2 V W) {l : List Int} {n : Nat} (hn : l.length = n) {e : Ending} (hg : GivesZ w.heap.size l e w' ∧ Below w.heap.size w w') :
    ∃ A c, e = .returned (.slice A n c) ∧ w'.ownsRow B 3 1 (.slice A n c) n (flatZ l) ∧ (∀ q, (Value.slice A n c).ownBlock = some q → w.heap.size ≤ q ∧ q < w'.heap.size) ∧ PlaysAt B w' (fun q => E q ∨ (Value.slice A n c).ownBlock = some q) sx sr gx v1 v2 gr u1 u2 gb N f b1 b2 V W ∧ Below w.heap.size w w' := by
  subst hn
  obtain ⟨⟨A, c, he, ho⟩, hb⟩ := hg
  exact ⟨A, c, he, own_base ho h.size, ho.lt, h.ext hb fun q hq => hq.elim .inl fun hq => .inr (ho.lt q hq), hb⟩
theorem rpend_of {base g m : Nat} {s : Fs} {tx : Int} {v1 v2 : Value} {L : List Int} {w : World} (hL : L = pendS s tx) (hm : L.length = m) (hok : s.ok) (h : FreeDoc w base g s v1 v2) :
    Calls Tryz.prog 23 #[.pointer (some ⟨g, 0, none⟩), .int .i64 tx] w fun e w' => (∃ A c, e = .returned (.slice A m c) ∧ w'.ownsRow w.heap.size 3 1 (.slice A m c) m (flatZ L)) ∧ Below w.heap.size w w' := by
  subst hm hL
  exact rpend_any base g s tx v1 v2 w h hok
theorem Blk.outE {g : Nat} {t : TypeId} {cs : Array Value} (h : Blk w g t cs) (k : Frm (outE B E) w w') (hE : E g) : Blk w' g t cs := h.frm k fun hs => hs.2 hE
theorem own_outE {base n s : Nat} {e : TypeId} {v : Value} {xs : List Value} (h : w.ownsRow base e s v n xs) (k : Frm (outE B E) w w') (hE : ∀ q, v.ownBlock = some q → E q) : w'.ownsRow base e s v n xs := own_frm h k fun q hq hs => hs.2 (hE q hq)
theorem Rd.outE {A : Option Addr} {xs : List Value} (h : Rd w A xs) (k : Frm (outE B E) w w') (hE : 0 < xs.length → ∀ a, A = some a → E a.block ∨ a.block < B) : Rd w' A xs := by
  cases xs with
  | nil => exact Rd.nil _ _
  | cons x xs =>
    refine h.frm k fun a ha hs => ?_
    rcases hE (by simp) a ha with h1 | h1
    · exact hs.2 h1
    · have := hs.1; omega
theorem Frm.belowE (k : Frm (outE B E) w w') (hB : B ≤ w.heap.size) : Below B w w' := k.below hB fun _ h => h.1
end
theorem vs_snoc {V : List Value} {v : Value} {q : Nat} (h : VS (V ++ [v]) q) : VS V q ∨ v.ownBlock = some q := by
  obtain ⟨i, x, hx, hq⟩ := h
  by_cases hi : i < V.length
  · rw [List.getElem?_append_left hi] at hx
    exact .inl ⟨i, x, hx, hq⟩
  · have hi' : i = V.length := by have := (List.getElem?_eq_some_iff.1 hx).1; simp at this; omega
    subst hi'
    rw [List.getElem?_append_right (Nat.le_refl _), Nat.sub_self] at hx
    injection hx with hx
    subst hx
    exact .inr hq
theorem fload_yes {pages : Int} {A : Option Addr} {n c : Nat} {l : List Int} {w : World} (hb : riseB pages l = true) (hr : Rd w A (flatZ l)) (hn : l.length = n) (hm : n ≤ 1000) :
    Calls Tryz.prog 7 #[.int .i64 pages, .slice A n c] w fun e w' => (∃ g v1, e = .returned (.tuple #[.pointer (some ⟨g, 0, none⟩), .int .i64 0]) ∧ FreeAt w' w.heap.size g ⟨pages, l, []⟩ v1 (.slice none 0 0)) ∧ Below w.heap.size w w' :=
  (fload_any pages A n c l w hr hn hm).mono fun e w' ⟨h, k⟩ => ⟨(by
    rcases h with ⟨_, h⟩ | ⟨h, _⟩
    · exact h
    · rw [hb] at h; cases h), k⟩
theorem fload_no {pages : Int} {A : Option Addr} {n c : Nat} {l : List Int} {w : World} (hb : riseB pages l = false) (hr : Rd w A (flatZ l)) (hn : l.length = n) (hm : n ≤ 1000) :
    Calls Tryz.prog 7 #[.int .i64 pages, .slice A n c] w fun e w' => e = .returned (.tuple #[.pointer none, .int .i64 1]) ∧ Below w.heap.size w w' :=
  (fload_any pages A n c l w hr hn hm).mono fun e w' ⟨h, k⟩ => ⟨(by
    rcases h with ⟨h, _⟩ | ⟨_, h⟩
    · rw [hb] at h; cases h
    · exact h), k⟩
/-- What Load may give. -/
theorem fload_may {pages : Int} {A : Option Addr} {n c : Nat} {l : List Int} {w : World} (hr : Rd w A (flatZ l)) (hn : l.length = n) (hm : n ≤ 1000) :
    Calls Tryz.prog 7 #[.int .i64 pages, .slice A n c] w fun e w' => (∃ xv ev, e = .returned (.tuple #[xv, .int .i64 ev]) ∧ ((riseB pages l = true ∧ ∃ g v1, xv = .pointer (some ⟨g, 0, none⟩) ∧ ev = 0 ∧ FreeAt w' w.heap.size g ⟨pages, l, []⟩ v1 (.slice none 0 0)) ∨ (riseB pages l = false ∧ xv = .pointer none ∧ ev = 1))) ∧ Below w.heap.size w w' :=
  (fload_any pages A n c l w hr hn hm).mono fun e w' ⟨h, k⟩ => ⟨(by
    rcases h with ⟨h1, g, v1, rfl, h2⟩ | ⟨h1, rfl⟩
    · exact ⟨_, _, rfl, .inl ⟨h1, g, v1, rfl, rfl, h2⟩⟩
    · exact ⟨_, _, rfl, .inr ⟨h1, rfl, rfl⟩⟩), k⟩
end Go.Proofs.YtdpgeoiehbijlaaGreat
