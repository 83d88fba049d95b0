/-
  The list of free pages in memory, the program's and the document's. No condition of its own.
-/
import Derived.Test.YtfgihfhpnhedkaaFreeP
import Derived.Test.YtfgihfhpnhedkaaTyAt
import Derived.Test.YtfgihfhpnhedkaaIntMore
import Derived.Test.YtfgihfhpnhedkaaSliceSz
namespace Go.Proofs.Ytfgihfhpnhedkaa
open Go Go.RowKit

/-- A pending page's cells. -/
def pcells (p : Int × Int) : List Value := [.int .i64 p.1, .int .i64 p.2]
def flatP (ks : List (Int × Int)) : List Value := ks.flatMap pcells
theorem flatP_len (ks : List (Int × Int)) : (flatP ks).length = ks.length * 2 := flat_len pcells (fun _ => rfl) ks
theorem flatP_at (ks : List (Int × Int)) (k : Nat) (x : Int × Int) (h : ks[k]? = some x) (j : Nat) (v : Value) (hv : (pcells x)[j]? = some v) : (flatP ks)[k * 2 + j]? = some v := flat_at pcells (fun _ => rfl) ks k x h j v hv
theorem flatP_one (ks : List (Int × Int)) : ∀ u ∈ flatP ks, u.oneCell' = true := flat_one pcells (fun x u hu => by unfold pcells at hu; simp at hu; rcases hu with rfl | rfl <;> rfl) ks
theorem flatP_app (a b : List (Int × Int)) : flatP (a ++ b) = flatP a ++ flatP b := by unfold flatP; rw [List.flatMap_append]
theorem Rd.pair {w : World} {A : Option Addr} {ks : List (Int × Int)} (h : Rd w A (flatP ks)) {k : Nat} (hk : k < ks.length) : ∃ b o x, A = some ⟨b, o, none⟩ ∧ b < w.heap.size ∧ ks[k]? = some x ∧ w.cell? ⟨b, o + k * 2, none⟩ = some (.int .i64 x.1) ∧ w.cell? ⟨b, o + k * 2 + 1, none⟩ = some (.int .i64 x.2) := by
  obtain ⟨b, o, e, hb, hc⟩ := h.flat (by rw [flatP_len]; omega)
  have hx : ks[k]? = some (ks[k]'hk) := List.getElem?_eq_getElem _
  exact ⟨b, o, ks[k], e, hb, hx, hc (k * 2) _ (flatP_at ks k _ hx 0 _ rfl), hc (k * 2 + 1) _ (flatP_at ks k _ hx 1 _ rfl)⟩

/-- A list of free pages at block g (T: its struct's type, E: that of what is pending). -/
structure FreeT (T E : TypeId) (w : World) (base g : Nat) (s : Fs) (v1 v2 : Value) : Prop where
  blk : Blk w g T #[.int .i64 s.pages, v1, v2]
  low : base ≤ g
  o1 : w.ownsRow base 3 1 v1 s.fr.length (flatZ s.fr)
  o2 : w.ownsRow base E 2 v2 s.pd.length (flatP s.pd)
/-- Its blocks. -/
def mineF (g : Nat) (v1 v2 : Value) : Nat → Prop := fun k => k = g ∨ v1.ownBlock = some k ∨ v2.ownBlock = some k
section
variable {T E : TypeId} {w w' : World} {base base' g : Nat} {s : Fs} {v1 v2 : Value} {S : Nat → Prop}
theorem FreeT.below (h : FreeT T E w base g s v1 v2) (k : Below w.heap.size w w') : FreeT T E w' base g s v1 v2 :=
  ⟨h.blk.below k, h.low, own_frm h.o1 (Frm.of_below (S := no) k) (fun _ _ => id), own_frm h.o2 (Frm.of_below (S := no) k) (fun _ _ => id)⟩
theorem FreeT.frm (h : FreeT T E w base g s v1 v2) (k : Frm S w w') (hS : ∀ q, mineF g v1 v2 q → ¬ S q) : FreeT T E w' base g s v1 v2 :=
  ⟨h.blk.frm k (hS g (.inl rfl)), h.low, own_frm h.o1 k (fun q hq => hS q (.inr (.inl hq))), own_frm h.o2 k (fun q hq => hS q (.inr (.inr hq)))⟩
theorem FreeT.frm_ty {Ts : List TypeId} (h : FreeT T E w base g s v1 v2) (k : Frm S w w') (hS : TyS w S Ts) (h1 : T ∉ Ts) (h2 : E ∉ Ts) (h3 : 3 ∉ Ts) : FreeT T E w' base g s v1 v2 :=
  ⟨h.blk.frm_ty k hS h1, h.low, own_frm_ty h.o1 k hS h3, own_frm_ty h.o2 k hS h2⟩
theorem FreeT.base_ (h : FreeT T E w base g s v1 v2) (hb : base' ≤ base) : FreeT T E w base' g s v1 v2 := ⟨h.blk, Nat.le_trans hb h.low, own_base h.o1 hb, own_base h.o2 hb⟩
theorem FreeT.mine_lt (h : FreeT T E w base g s v1 v2) (q : Nat) (hq : mineF g v1 v2 q) : base ≤ q ∧ q < w.heap.size := by
  rcases hq with rfl | hq | hq
  · exact ⟨h.low, h.blk.lt⟩
  · exact h.o1.lt q hq
  · exact h.o2.lt q hq
theorem FreeT.ty (h : FreeT T E w base g s v1 v2) : TyS w (mineF g v1 v2) [T, 3, E] := fun q _ hs => by
  rcases hs with rfl | hs | hs
  · exact ⟨T, by simp, h.blk.ty⟩
  · exact ⟨_, by simp, own_ty h.o1 hs⟩
  · exact ⟨E, by simp, own_ty h.o2 hs⟩
theorem FreeT.form (h : FreeT T E w base g s v1 v2) : (∃ A c, v1 = .slice A s.fr.length c ∧ s.fr.length ≤ c) ∧ ∃ A c, v2 = .slice A s.pd.length c ∧ s.pd.length ≤ c := ⟨own_form h.o1, own_form h.o2⟩
end
/-- The program's. -/
abbrev FreeAt := FreeT 44 47
/-- What became of an object: its blocks have turned, others not; what it has now it had, or is new. -/
structure TurnF (g : Nat) (v1 v2 : Value) (w : World) (v1' v2' : Value) (w' : World) : Prop where
  frm : Frm (mineF g v1 v2) w w'
  own : ∀ k, mineF g v1' v2' k → mineF g v1 v2 k ∨ w.heap.size ≤ k
theorem TurnF.refl (g : Nat) (v1 v2 : Value) (w : World) : TurnF g v1 v2 w v1 v2 w := ⟨Frm.refl _ _, fun _ h => .inl h⟩
theorem TurnF.step {g : Nat} {v1 v2 v1' v2' : Value} {w w1 w2 : World} (h : TurnF g v1 v2 w v1' v2' w1) (k : Below w1.heap.size w1 w2) : TurnF g v1 v2 w v1' v2' w2 := ⟨h.frm.step k, h.own⟩
theorem TurnF.trans {g : Nat} {v1 v2 v1' v2' v1'' v2'' : Value} {w w1 w2 : World} (h : TurnF g v1 v2 w v1' v2' w1) (k : TurnF g v1' v2' w1 v1'' v2'' w2) : TurnF g v1 v2 w v1'' v2'' w2 :=
  ⟨h.frm.trans k.frm fun i hi hm => by
    rcases h.own i hm with h1 | h1
    · exact h1
    · omega, fun i hi => by
    rcases k.own i hi with h1 | h1
    · exact h.own i h1
    · exact .inr (Nat.le_trans h.frm.size h1)⟩
theorem TurnF.below {g base : Nat} {v1 v2 v1' v2' : Value} {w w' : World} (h : TurnF g v1 v2 w v1' v2' w') (hb : base ≤ w.heap.size) (hm : ∀ q, mineF g v1 v2 q → base ≤ q) : Below base w w' := h.frm.below hb hm
theorem pendInfo : (Try.prog.info? 47).map (fun i => (i.zero, i.size, i.bytes)) = some (some (.agg #[.int .i64 0, .int .i64 0]), 2, 16) := by kernel_rfl

/-- May these be free in a file of so many pages? -/
def RiseK (pages : Int) (l : List Int) (k : Nat) : Prop := (l.take k).Pairwise (· < ·) ∧ ∀ x ∈ l.take k, 2 ≤ x ∧ x < pages
def riseB (pages : Int) (l : List Int) : Bool := decide (2 ≤ pages) && decide (pages ≤ 4000) && decide (l.Pairwise (· < ·)) && decide (∀ x ∈ l, 2 ≤ x ∧ x < pages)
theorem riseB_iff {pages : Int} {l : List Int} : riseB pages l = true ↔ 2 ≤ pages ∧ pages ≤ 4000 ∧ l.Pairwise (· < ·) ∧ ∀ x ∈ l, 2 ≤ x ∧ x < pages := by
  unfold riseB; simp only [Bool.and_eq_true, decide_eq_true_eq, and_assoc]
theorem RiseK.zero (pages : Int) (l : List Int) : RiseK pages l 0 := ⟨by simp, by simp⟩
theorem RiseK.next {pages : Int} {l : List Int} {k : Nat} {x : Int} (h : RiseK pages l k) (hx : l[k]? = some x) (h1 : 2 ≤ x) (h2 : x < pages) (h3 : k = 0 ∨ ∃ y, l[k - 1]? = some y ∧ y < x) : RiseK pages l (k + 1) := by
  have htk : l.take (k + 1) = l.take k ++ [x] := by rw [List.take_add_one, hx]; rfl
  unfold RiseK
  rw [htk]
  refine ⟨?_, fun z hz => ?_⟩
  · rw [List.pairwise_append]
    refine ⟨h.1, by simp, fun a ha b hb => ?_⟩
    simp at hb
    subst hb
    rcases h3 with rfl | ⟨y, hy, hyx⟩
    · simp at ha
    · obtain ⟨j, hj⟩ := List.mem_iff_getElem?.1 ha
      have hjl := (List.getElem?_eq_some_iff.1 hj).1
      rw [List.length_take] at hjl
      have hk0 : 0 < k := by omega
      have hyk : (l.take k)[k - 1]? = some y := by rw [List.getElem?_take, if_pos (by omega)]; exact hy
      by_cases e : j = k - 1
      · subst e; rw [hj] at hyk; have := Option.some.inj hyk; omega
      · have := rise_lt h.1 hj hyk (by omega); omega
  · rcases List.mem_append.1 hz with hz | hz
    · exact h.2 z hz
    · simp at hz; subst hz; exact ⟨h1, h2⟩
theorem RiseK.all {pages : Int} {l : List Int} (h : RiseK pages l l.length) (h1 : 2 ≤ pages) (h2 : pages ≤ 4000) : riseB pages l = true := by
  unfold RiseK at h
  rw [List.take_length] at h
  exact riseB_iff.2 ⟨h1, h2, h.1, h.2⟩
theorem riseB_bad {pages : Int} {l : List Int} {k : Nat} {x : Int} (hx : l[k]? = some x) (h : x < 2 ∨ pages ≤ x ∨ (0 < k ∧ ∃ y, l[k - 1]? = some y ∧ x ≤ y)) : riseB pages l = false := by
  cases hb : riseB pages l with
  | false => rfl
  | true =>
    obtain ⟨_, _, hu, hr⟩ := riseB_iff.1 hb
    have h1 := hr x (List.mem_of_getElem? hx)
    rcases h with h | h | ⟨hk, y, hy, hxy⟩
    · omega
    · omega
    · have := rise_lt hu hy hx (by omega); omega
theorem riseB_out {pages : Int} {l : List Int} (h : pages < 2 ∨ 4000 < pages) : riseB pages l = false := by
  cases hb : riseB pages l with
  | false => rfl
  | true => obtain ⟨h1, h2, _⟩ := riseB_iff.1 hb; omega
end Go.Proofs.Ytfgihfhpnhedkaa
