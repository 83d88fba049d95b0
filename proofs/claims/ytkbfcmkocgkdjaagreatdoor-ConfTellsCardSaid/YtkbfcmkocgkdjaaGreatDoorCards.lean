/-
  DERIVED. GIVEN WITH THE SEED: THE CARDS: each row of YtkbfcmkocgkdjaaGreatDoorRows.lean that lists a variable, with what it lists TIED to the program's text (the seventh form; the later family's looks); each row that meets fmt, with fmt's text TOLD by the authors' own Lean function (tested against real Go, not proved from fmt's source: count such statements apart). THE CARD IS WHAT COUNTS. Prove the row's statement (the work); the ties are given (YtkbfcmkocgkdjaaGreatDoorTie.lean); close each card by the builder's one call (the guide's Derived/Test/ToyasCard.lean, 'card_holds'). Laid BY PROGRAM, IN A SANDBOX (cutbox-door.mjs). By AI agents, Wed Nov 11 2026. No macro, syntax, notation, axiom, sorry.
-/
import Derived.Test.YtkbfcmkocgkdjaaGreatDoorRows
import GoSem.ClaimSeven
namespace Go.Proofs.YtkbfcmkocgkdjaaGreatDoor
namespace Rows

/-- THE TIED CARD OF 'rootstocklaw22.ConfTells'. -/
def confTellsCard : Claim7 := { stood := { row := confTellsRow, standIns := [], harness := (true, "9dbe9a1a9f86557a5a5eb2897c116319b32243b7a96d9bc6c2bb72f0cb53fde9"), looks := false }, kinds := [], alts := [], laidByText := true, laidKinds := [.data, .data, .data, .data, .pinned], laidTests := true, laidLooks := .later }
def ConfTellsCardSaid : Prop := Claim7.holds Tryz.pinned (.plain (OpenSpec.ofChange confTellsSpec)) confTellsCard

/-- THE SECOND FORM's CARD OF 'rootstocklaw22.ConfTells'. -/
def confTellsUptoCard : Claim7 := { stood := { row := confTellsUptoRow, standIns := [], harness := (true, "9dbe9a1a9f86557a5a5eb2897c116319b32243b7a96d9bc6c2bb72f0cb53fde9"), looks := false }, kinds := [], alts := [], laidByText := true, laidKinds := [.data, .data, .data, .data, .pinned], laidTests := true, laidLooks := .later }
def ConfTellsUptoCardSaid : Prop := Claim7.holds Tryz.pinned (.plain (OpenSpec.upto confTellsSpec)) confTellsUptoCard
end Rows
end Go.Proofs.YtkbfcmkocgkdjaaGreatDoor
