/-
  A disk behind its pointer alone: Dirty and Arm. Conditions: as each call's own contract.
-/
import Derived.Test.YtlgfkjaiifkacaaDiskAlive
namespace Go.Proofs.Ytlgfkjaiifkacaa
open Go Go.RowKit

section
variable {w w' : World} {base g : Nat} {d d' : Ds}
theorem ldirty {n : Nat} (h : LiveAt w base d g) (he : d.ws.length = n) : Calls Try.prog 18 #[.pointer (some ⟨g, 0, none⟩)] w fun e w' => e = .returned (.int .i64 (n : Nat)) ∧ w' = w := by
  obtain ⟨_, m, rfl, D⟩ := h
  subst he
  exact ddirty_any w D
theorem larm {A : Option Addr} {n c : Nat} {n0 : Int} {keep : List Int} (h : LiveAt w base d g) (hr : Rd w A (flatZ keep)) (hn : keep.length = n) (hm : n ≤ 1000000) (he : armD d n0 keep = d') :
    Calls Try.prog 8 #[.pointer (some ⟨g, 0, none⟩), .int .i64 n0, .slice A n c] w fun e w' => e = .returned (.tuple #[]) ∧ LiveAt w' base d' g ∧ Below base w w' := by
  obtain ⟨hb, m, rfl, D⟩ := h
  subst he
  exact (darm_any n0 A n c keep w D hr hn hm hb).mono fun e w' ⟨h1, h2⟩ => ⟨h1, LiveAt.of_did D hb h2⟩
end
end Go.Proofs.Ytlgfkjaiifkacaa
