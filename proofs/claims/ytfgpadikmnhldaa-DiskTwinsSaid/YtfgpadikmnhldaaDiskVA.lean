/-
  A disk behind its pointer alone: Dirty and Arm. Conditions: as each call's own contract.
-/
import Derived.Test.YtfgpadikmnhldaaDiskAlive
namespace Go.Proofs.Ytfgpadikmnhldaa
open Go Go.RowKit

section
variable {w w' : World} {base g : Nat} {d d' : Ds}
theorem ldirty {n : Nat} (h : LiveAt w base d g) (he : d.ws.length = n) : Calls Try.prog 11 #[.pointer (some ⟨g, 0, none⟩)] w fun e w' => e = .returned (.int .i64 (n : Nat)) ∧ w' = w := by
  obtain ⟨_, m, rfl, D⟩ := h
  subst he
  exact ddirty_any w D
end
end Go.Proofs.Ytfgpadikmnhldaa
