/-
  DERIVED. GIVEN WITH THE SEED: THE CARDS: each row of YtkbfcmkocgkdjaaDoorRows.lean that lists a variable, with what it lists TIED to the program's text (the seventh form; the later family's looks); each row that meets fmt, with fmt's text TOLD by the authors' own Lean function (tested against real Go, not proved from fmt's source: count such statements apart). THE CARD IS WHAT COUNTS. Prove the row's statement (the work); the ties are given (YtkbfcmkocgkdjaaDoorTie.lean); close each card by the builder's one call (the guide's Derived/Test/ToyasCard.lean, 'card_holds'). Laid BY PROGRAM, IN A SANDBOX (cutbox-door.mjs). By AI agents, Wed Nov 11 2026. No macro, syntax, notation, axiom, sorry.
-/
import Derived.Test.YtkbfcmkocgkdjaaDoorRows
import GoSem.ClaimSeven
namespace Go.Proofs.YtkbfcmkocgkdjaaDoor
namespace Rows

/-- THE TIED CARD OF 'rootstocklaw22.ConfMeets'. -/
def confMeetsCard : Claim7 := { stood := { row := confMeetsRow, standIns := [], harness := (true, "cacb3fb889507061e1efab23e7435eebd100123e19b562c26350f3d0bf8f94c7"), looks := false }, kinds := [], alts := [], laidByText := true, laidKinds := [.data, .data, .data, .data, .pinned], laidTests := true, laidLooks := .later }
def ConfMeetsCardSaid : Prop := Claim7.holds Tryd.pinned (.plain (OpenSpec.ofChange confMeetsSpec)) confMeetsCard

/-- THE TIED CARD OF 'rootstocklaw22.ConfSteps'. -/
def confStepsCard : Claim7 := { stood := { row := confStepsRow, standIns := [], harness := (true, "cacb3fb889507061e1efab23e7435eebd100123e19b562c26350f3d0bf8f94c7"), looks := false }, kinds := [], alts := [], laidByText := true, laidKinds := [.data, .data, .data, .data, .pinned], laidTests := true, laidLooks := .later }
def ConfStepsCardSaid : Prop := Claim7.holds Tryd.pinned (.plain (OpenSpec.ofChange confStepsSpec)) confStepsCard

/-- THE SECOND FORM's CARD OF 'rootstocklaw22.ConfMeets'. -/
def confMeetsUptoCard : Claim7 := { stood := { row := confMeetsUptoRow, standIns := [], harness := (true, "cacb3fb889507061e1efab23e7435eebd100123e19b562c26350f3d0bf8f94c7"), looks := false }, kinds := [], alts := [], laidByText := true, laidKinds := [.data, .data, .data, .data, .pinned], laidTests := true, laidLooks := .later }
def ConfMeetsUptoCardSaid : Prop := Claim7.holds Tryd.pinned (.plain (OpenSpec.upto confMeetsSpec)) confMeetsUptoCard

/-- THE SECOND FORM's CARD OF 'rootstocklaw22.ConfSteps'. -/
def confStepsUptoCard : Claim7 := { stood := { row := confStepsUptoRow, standIns := [], harness := (true, "cacb3fb889507061e1efab23e7435eebd100123e19b562c26350f3d0bf8f94c7"), looks := false }, kinds := [], alts := [], laidByText := true, laidKinds := [.data, .data, .data, .data, .pinned], laidTests := true, laidLooks := .later }
def ConfStepsUptoCardSaid : Prop := Claim7.holds Tryd.pinned (.plain (OpenSpec.upto confStepsSpec)) confStepsUptoCard
end Rows
end Go.Proofs.YtkbfcmkocgkdjaaDoor
