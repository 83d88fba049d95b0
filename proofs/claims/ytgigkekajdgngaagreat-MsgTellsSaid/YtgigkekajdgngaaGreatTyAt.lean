/-
  The type of a block: blocks of other types are other blocks. No condition of its own.
-/
import Derived.Test.YtgigkekajdgngaaGreatOwn2
namespace Go.Proofs.YtgigkekajdgngaaGreat
open Go Go.RowKit

/-- The block q holds cells of the type t. -/
def TyAt (w : World) (q : Nat) (t : TypeId) : Prop := ∃ cs fr, w.heap[q]? = some (.cells cs t fr)
theorem TyAt.eq {w : World} {q : Nat} {t t' : TypeId} (h : TyAt w q t) (k : TyAt w q t') : t = t' := by
  obtain ⟨cs, fr, h⟩ := h
  obtain ⟨cs', fr', k⟩ := k
  rw [h] at k; injection k with k; injection k
theorem Blk.ty {w : World} {g : Nat} {t : TypeId} {cs : Array Value} (h : Blk w g t cs) : TyAt w g t := ⟨cs, _, h⟩
theorem own_ty {w : World} {base n s : Nat} {e : TypeId} {v : Value} {xs : List Value} (h : w.ownsRow base e s v n xs) {q : Nat} (hq : v.ownBlock = some q) : TyAt w q e := by
  rcases h.2 with ⟨rfl, _⟩ | ⟨g, _, cur, rfl, _, hg, _⟩
  · simp [Value.ownBlock] at hq
  · simp [Value.ownBlock] at hq
    subst hq
    exact ⟨cur, _, hg⟩
/-- Every block in S is of one of the types in Ts. -/
def TyS (w : World) (S : Nat → Prop) (Ts : List TypeId) : Prop := ∀ q, q < w.heap.size → S q → ∃ t ∈ Ts, TyAt w q t
theorem TyAt.below {w w' : World} {q : Nat} {t : TypeId} (h : TyAt w q t) (k : Below w.heap.size w w') : TyAt w' q t := by
  obtain ⟨cs, fr, h⟩ := h
  exact ⟨cs, fr, (k.block q (Array.getElem?_eq_some_iff.1 h).1).trans h⟩
theorem TyAt.lt {w : World} {q : Nat} {t : TypeId} (h : TyAt w q t) : q < w.heap.size := by
  obtain ⟨cs, fr, h⟩ := h
  exact (Array.getElem?_eq_some_iff.1 h).1
theorem Blk.frm_ty {w w' : World} {g : Nat} {t : TypeId} {cs : Array Value} {S : Nat → Prop} {Ts : List TypeId} (h : Blk w g t cs) (k : Frm S w w') (hS : TyS w S Ts) (hn : t ∉ Ts) : Blk w' g t cs :=
  h.frm k fun hs => by
    obtain ⟨t', ht, hq⟩ := hS g h.lt hs
    exact hn ((h.ty.eq hq) ▸ ht)
theorem own_frm_ty {w w' : World} {base n s : Nat} {e : TypeId} {v : Value} {xs : List Value} {S : Nat → Prop} {Ts : List TypeId} (h : w.ownsRow base e s v n xs) (k : Frm S w w') (hS : TyS w S Ts) (hn : e ∉ Ts) : w'.ownsRow base e s v n xs :=
  own_frm h k fun g hg hs => by
    obtain ⟨t', ht, hq⟩ := hS g (own_ty h hg).lt hs
    exact hn (((own_ty h hg).eq hq) ▸ ht)
theorem TyS.no (w : World) (Ts : List TypeId) : TyS w no Ts := fun _ _ h => h.elim
theorem TyS.one {w : World} {g : Nat} {t : TypeId} {cs : Array Value} (h : Blk w g t cs) : TyS w (fun q => q = g) [t] := fun q _ e => ⟨t, by simp, e ▸ h.ty⟩
theorem TyS.two {w : World} {g base n s : Nat} {t e : TypeId} {cs : Array Value} {v : Value} {xs : List Value} (h : Blk w g t cs) (o : w.ownsRow base e s v n xs) : TyS w (fun q => q = g ∨ v.ownBlock = some q) [t, e] := fun q _ hs => by
  rcases hs with rfl | hs
  · exact ⟨t, by simp, h.ty⟩
  · exact ⟨e, by simp, own_ty o hs⟩
theorem TyS.three {w : World} {g base n s base' n' s' : Nat} {t e e' : TypeId} {cs : Array Value} {v v' : Value} {xs xs' : List Value} (h : Blk w g t cs) (o : w.ownsRow base e s v n xs) (o' : w.ownsRow base' e' s' v' n' xs') : TyS w (fun q => q = g ∨ v.ownBlock = some q ∨ v'.ownBlock = some q) [t, e, e'] := fun q _ hs => by
  rcases hs with rfl | hs | hs
  · exact ⟨t, by simp, h.ty⟩
  · exact ⟨e, by simp, own_ty o hs⟩
  · exact ⟨e', by simp, own_ty o' hs⟩
end Go.Proofs.YtgigkekajdgngaaGreat
