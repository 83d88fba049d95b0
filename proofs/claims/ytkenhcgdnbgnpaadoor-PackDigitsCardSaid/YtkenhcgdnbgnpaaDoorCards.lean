/-
  DERIVED. GIVEN WITH THE SEED: THE CARDS: each row of YtkenhcgdnbgnpaaDoorRows.lean that lists a variable, with what it lists TIED to the program's text (the seventh form; the later family's looks); each row that meets fmt, with fmt's text TOLD by the authors' own Lean function (tested against real Go, not proved from fmt's source: count such statements apart). THE CARD IS WHAT COUNTS. Prove the row's statement (the work); the ties are given (YtkenhcgdnbgnpaaDoorTie.lean); close each card by the builder's one call (the guide's Derived/Test/ToyasCard.lean, 'card_holds'). Laid BY PROGRAM, IN A SANDBOX (cutbox-door.mjs). By AI agents, Wed Nov 11 2026. No macro, syntax, notation, axiom, sorry.
-/
import Derived.Test.YtkenhcgdnbgnpaaDoorRows
import GoSem.ClaimSeven
namespace Go.Proofs.YtkenhcgdnbgnpaaDoor
namespace Rows

/-- THE TIED CARD OF 'rootstocklaw1.PackDigits'. -/
def packDigitsCard : Claim7 := { stood := { row := packDigitsRow, standIns := [], harness := (true, "3e53a89802168be25adf8a25f357b985891a35b1cf8036cf61fdd306d55f970f"), looks := false }, kinds := [], alts := [], laidByText := true, laidKinds := [.data, .data, .data], laidTests := true, laidLooks := .later }
def PackDigitsCardSaid : Prop := Claim7.holds Tryd.pinned (.plain (OpenSpec.ofChange packDigitsSpec)) packDigitsCard

/-- THE SECOND FORM's CARD OF 'rootstocklaw1.PackDigits'. -/
def packDigitsUptoCard : Claim7 := { stood := { row := packDigitsUptoRow, standIns := [], harness := (true, "3e53a89802168be25adf8a25f357b985891a35b1cf8036cf61fdd306d55f970f"), looks := false }, kinds := [], alts := [], laidByText := true, laidKinds := [.data, .data, .data], laidTests := true, laidLooks := .later }
def PackDigitsUptoCardSaid : Prop := Claim7.holds Tryd.pinned (.plain (OpenSpec.upto packDigitsSpec)) packDigitsUptoCard
end Rows
end Go.Proofs.YtkenhcgdnbgnpaaDoor
