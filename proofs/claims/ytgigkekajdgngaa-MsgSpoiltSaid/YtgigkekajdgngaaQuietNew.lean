/-
  A region that draws its order, whose operations only read and whose calls make new memory at most: one walk serves every order. No condition of its own.
-/
import Derived.Test.YtgigkekajdgngaaQt
import Derived.Deep.Quiet
namespace Go.Proofs.Ytgigkekajdgngaa
open Go Go.RowKit

/-- A world that is this one but for new memory. -/
structure NewM (w : World) where
  w' : World
  h : Below w.heap.size w w'
instance (w : World) : Nonempty (NewM w) := ⟨⟨w, Below.refl _ _⟩⟩
theorem NewM.cell {w : World} {p : Addr} {v : Value} (h : w.cell? p = some v) : ∀ r : NewM w, r.w'.cell? p = some v := fun r => (r.h.cell (block_lt_of_cell h)).trans h
theorem wp_region_quiet_new {P : Program} {id : Nat} {Q : Exit → Act → World → Prop} {a : Act} {w : World} {l : List Oper} (hm : P.follows .mixedOrders = true) (hB : Region.lexB .any l.toArray = true)
    (h : wpQuiet P l.toArray (fun w' => ∃ r : NewM w, w' = r.w') (fun a' => ∀ w', (∃ r : NewM w, w' = r.w') → Q .normal a' w') l a) : (Code.region id l.toArray true).wp P Q a w :=
  wp_region_quiet (C := fun w' => ∃ r : NewM w, w' = r.w') hm hB ⟨⟨{ w with drawn := w.drawn + 1 }, (Below.refl _ w).drew⟩, rfl⟩ (by simpa using h)
theorem NewM.call {P : Program} {f : FuncId} {args : Array Value} {w : World} {r : NewM w} {v : Value} (h : Calls P f args r.w' fun e w'' => e = .returned v ∧ Below r.w'.heap.size r.w' w'') :
    Calls P f args r.w' fun e w'' => e = .returned v ∧ ∃ r' : NewM w, w'' = r'.w' :=
  h.mono fun _ w'' ⟨he, hb⟩ => ⟨he, ⟨w'', below_of hb r.h r.h.size⟩, rfl⟩
theorem NewM.call_same {P : Program} {f : FuncId} {args : Array Value} {w : World} {r : NewM w} {v : Value} (h : Calls P f args r.w' fun e w'' => e = .returned v ∧ w'' = r.w') :
    Calls P f args r.w' fun e w'' => e = .returned v ∧ ∃ r' : NewM w, w'' = r'.w' :=
  h.mono fun _ _ ⟨he, hb⟩ => ⟨he, r, hb⟩
/-- A call tells whether something is so. -/
inductive TellsB (e : Ending) (p : Prop) : Prop
  | mk (b : Bool) (h : e = .returned (.bool b)) (k : b = true ↔ p) : TellsB e p
end Go.Proofs.Ytgigkekajdgngaa
