/-
  DERIVED. GIVEN WITH THE SEED: THE CARDS: each row of YtobflgpaijdcaaaDoorRows.lean that lists a variable, with what it lists TIED to the program's text (the seventh form; the later family's looks); each row that meets fmt, with fmt's text TOLD by the authors' own Lean function (tested against real Go, not proved from fmt's source: count such statements apart). THE CARD IS WHAT COUNTS. Prove the row's statement (the work); the ties are given (YtobflgpaijdcaaaDoorTie.lean); close each card by the builder's one call (the guide's Derived/Test/ToyasCard.lean, 'card_holds'). Laid BY PROGRAM, IN A SANDBOX (cutbox-door.mjs). By AI agents, Wed Nov 11 2026. No macro, syntax, notation, axiom, sorry.
-/
import Derived.Test.YtobflgpaijdcaaaDoorRows
import GoSem.ClaimSeven
namespace Go.Proofs.YtobflgpaijdcaaaDoor
namespace Rows

/-- THE TIED CARD OF 'rootstocklaw1.PackGets'. -/
def packGetsCard : Claim7 := { stood := { row := packGetsRow, standIns := [], harness := (true, "05b07fe923f2909c485e0dfcc2af858cb0d7855e9070f0b0abf5222a3b194e4c"), looks := false }, kinds := [], alts := [], laidByText := true, laidKinds := [.data, .data, .data], laidTests := true, laidLooks := .later }
def PackGetsCardSaid : Prop := Claim7.holds Tryd.pinned (.plain (OpenSpec.ofChange packGetsSpec)) packGetsCard

/-- THE TIED CARD OF 'rootstocklaw1.PackShort'. -/
def packShortCard : Claim7 := { stood := { row := packShortRow, standIns := [], harness := (true, "05b07fe923f2909c485e0dfcc2af858cb0d7855e9070f0b0abf5222a3b194e4c"), looks := false }, kinds := [], alts := [], laidByText := true, laidKinds := [.data, .data, .data], laidTests := true, laidLooks := .later }
def PackShortCardSaid : Prop := Claim7.holds Tryd.pinned (.plain (OpenSpec.ofChange packShortSpec)) packShortCard

/-- THE TIED CARD OF 'rootstocklaw1.PackBack'. -/
def packBackCard : Claim7 := { stood := { row := packBackRow, standIns := [], harness := (true, "05b07fe923f2909c485e0dfcc2af858cb0d7855e9070f0b0abf5222a3b194e4c"), looks := false }, kinds := [], alts := [], laidByText := true, laidKinds := [.data, .data, .data], laidTests := true, laidLooks := .later }
def PackBackCardSaid : Prop := Claim7.holds Tryd.pinned (.plain (OpenSpec.ofChange packBackSpec)) packBackCard

/-- THE TIED CARD OF 'rootstocklaw1.PackPuts'. -/
def packPutsCard : Claim7 := { stood := { row := packPutsRow, standIns := [], harness := (true, "05b07fe923f2909c485e0dfcc2af858cb0d7855e9070f0b0abf5222a3b194e4c"), looks := false }, kinds := [], alts := [], laidByText := true, laidKinds := [.data, .data, .data], laidTests := true, laidLooks := .later }
def PackPutsCardSaid : Prop := Claim7.holds Tryd.pinned (.plain (OpenSpec.ofChange packPutsSpec)) packPutsCard

/-- THE TIED CARD OF 'rootstocklaw1.PackSizes'. -/
def packSizesCard : Claim7 := { stood := { row := packSizesRow, standIns := [], harness := (true, "05b07fe923f2909c485e0dfcc2af858cb0d7855e9070f0b0abf5222a3b194e4c"), looks := false }, kinds := [], alts := [], laidByText := true, laidKinds := [.data, .data, .data], laidTests := true, laidLooks := .later }
def PackSizesCardSaid : Prop := Claim7.holds Tryd.pinned (.plain (OpenSpec.ofChange packSizesSpec)) packSizesCard

/-- THE TIED CARD OF 'rootstocklaw1.PackNone'. -/
def packNoneCard : Claim7 := { stood := { row := packNoneRow, standIns := [], harness := (true, "05b07fe923f2909c485e0dfcc2af858cb0d7855e9070f0b0abf5222a3b194e4c"), looks := false }, kinds := [], alts := [], laidByText := true, laidKinds := [.data, .data, .data], laidTests := true, laidLooks := .later }
def PackNoneCardSaid : Prop := Claim7.holds Tryd.pinned (.plain (OpenSpec.ofChange packNoneSpec)) packNoneCard

/-- THE TIED CARD OF 'rootstocklaw1.PackDigits'. -/
def packDigitsCard : Claim7 := { stood := { row := packDigitsRow, standIns := [], harness := (true, "05b07fe923f2909c485e0dfcc2af858cb0d7855e9070f0b0abf5222a3b194e4c"), looks := false }, kinds := [], alts := [], laidByText := true, laidKinds := [.data, .data, .data], laidTests := true, laidLooks := .later }
def PackDigitsCardSaid : Prop := Claim7.holds Tryd.pinned (.plain (OpenSpec.ofChange packDigitsSpec)) packDigitsCard

/-- THE TIED CARD OF 'rootstocklaw22.ConfMeets'. -/
def confMeetsCard : Claim7 := { stood := { row := confMeetsRow, standIns := [], harness := (true, "05b07fe923f2909c485e0dfcc2af858cb0d7855e9070f0b0abf5222a3b194e4c"), looks := false }, kinds := [], alts := [], laidByText := true, laidKinds := [.data, .data, .data, .data, .pinned], laidTests := true, laidLooks := .later }
def ConfMeetsCardSaid : Prop := Claim7.holds Tryd.pinned (.plain (OpenSpec.ofChange confMeetsSpec)) confMeetsCard

/-- THE TIED CARD OF 'rootstocklaw22.ConfSteps'. -/
def confStepsCard : Claim7 := { stood := { row := confStepsRow, standIns := [], harness := (true, "05b07fe923f2909c485e0dfcc2af858cb0d7855e9070f0b0abf5222a3b194e4c"), looks := false }, kinds := [], alts := [], laidByText := true, laidKinds := [.data, .data, .data, .data, .pinned], laidTests := true, laidLooks := .later }
def ConfStepsCardSaid : Prop := Claim7.holds Tryd.pinned (.plain (OpenSpec.ofChange confStepsSpec)) confStepsCard

/-- THE SECOND FORM's CARD OF 'rootstocklaw1.PackGets'. -/
def packGetsUptoCard : Claim7 := { stood := { row := packGetsUptoRow, standIns := [], harness := (true, "05b07fe923f2909c485e0dfcc2af858cb0d7855e9070f0b0abf5222a3b194e4c"), looks := false }, kinds := [], alts := [], laidByText := true, laidKinds := [.data, .data, .data], laidTests := true, laidLooks := .later }
def PackGetsUptoCardSaid : Prop := Claim7.holds Tryd.pinned (.plain (OpenSpec.upto packGetsSpec)) packGetsUptoCard

/-- THE SECOND FORM's CARD OF 'rootstocklaw1.PackShort'. -/
def packShortUptoCard : Claim7 := { stood := { row := packShortUptoRow, standIns := [], harness := (true, "05b07fe923f2909c485e0dfcc2af858cb0d7855e9070f0b0abf5222a3b194e4c"), looks := false }, kinds := [], alts := [], laidByText := true, laidKinds := [.data, .data, .data], laidTests := true, laidLooks := .later }
def PackShortUptoCardSaid : Prop := Claim7.holds Tryd.pinned (.plain (OpenSpec.upto packShortSpec)) packShortUptoCard

/-- THE SECOND FORM's CARD OF 'rootstocklaw1.PackBack'. -/
def packBackUptoCard : Claim7 := { stood := { row := packBackUptoRow, standIns := [], harness := (true, "05b07fe923f2909c485e0dfcc2af858cb0d7855e9070f0b0abf5222a3b194e4c"), looks := false }, kinds := [], alts := [], laidByText := true, laidKinds := [.data, .data, .data], laidTests := true, laidLooks := .later }
def PackBackUptoCardSaid : Prop := Claim7.holds Tryd.pinned (.plain (OpenSpec.upto packBackSpec)) packBackUptoCard

/-- THE SECOND FORM's CARD OF 'rootstocklaw1.PackPuts'. -/
def packPutsUptoCard : Claim7 := { stood := { row := packPutsUptoRow, standIns := [], harness := (true, "05b07fe923f2909c485e0dfcc2af858cb0d7855e9070f0b0abf5222a3b194e4c"), looks := false }, kinds := [], alts := [], laidByText := true, laidKinds := [.data, .data, .data], laidTests := true, laidLooks := .later }
def PackPutsUptoCardSaid : Prop := Claim7.holds Tryd.pinned (.plain (OpenSpec.upto packPutsSpec)) packPutsUptoCard

/-- THE SECOND FORM's CARD OF 'rootstocklaw1.PackSizes'. -/
def packSizesUptoCard : Claim7 := { stood := { row := packSizesUptoRow, standIns := [], harness := (true, "05b07fe923f2909c485e0dfcc2af858cb0d7855e9070f0b0abf5222a3b194e4c"), looks := false }, kinds := [], alts := [], laidByText := true, laidKinds := [.data, .data, .data], laidTests := true, laidLooks := .later }
def PackSizesUptoCardSaid : Prop := Claim7.holds Tryd.pinned (.plain (OpenSpec.upto packSizesSpec)) packSizesUptoCard

/-- THE SECOND FORM's CARD OF 'rootstocklaw1.PackNone'. -/
def packNoneUptoCard : Claim7 := { stood := { row := packNoneUptoRow, standIns := [], harness := (true, "05b07fe923f2909c485e0dfcc2af858cb0d7855e9070f0b0abf5222a3b194e4c"), looks := false }, kinds := [], alts := [], laidByText := true, laidKinds := [.data, .data, .data], laidTests := true, laidLooks := .later }
def PackNoneUptoCardSaid : Prop := Claim7.holds Tryd.pinned (.plain (OpenSpec.upto packNoneSpec)) packNoneUptoCard

/-- THE SECOND FORM's CARD OF 'rootstocklaw1.PackDigits'. -/
def packDigitsUptoCard : Claim7 := { stood := { row := packDigitsUptoRow, standIns := [], harness := (true, "05b07fe923f2909c485e0dfcc2af858cb0d7855e9070f0b0abf5222a3b194e4c"), looks := false }, kinds := [], alts := [], laidByText := true, laidKinds := [.data, .data, .data], laidTests := true, laidLooks := .later }
def PackDigitsUptoCardSaid : Prop := Claim7.holds Tryd.pinned (.plain (OpenSpec.upto packDigitsSpec)) packDigitsUptoCard

/-- THE SECOND FORM's CARD OF 'rootstocklaw22.ConfMeets'. -/
def confMeetsUptoCard : Claim7 := { stood := { row := confMeetsUptoRow, standIns := [], harness := (true, "05b07fe923f2909c485e0dfcc2af858cb0d7855e9070f0b0abf5222a3b194e4c"), looks := false }, kinds := [], alts := [], laidByText := true, laidKinds := [.data, .data, .data, .data, .pinned], laidTests := true, laidLooks := .later }
def ConfMeetsUptoCardSaid : Prop := Claim7.holds Tryd.pinned (.plain (OpenSpec.upto confMeetsSpec)) confMeetsUptoCard

/-- THE SECOND FORM's CARD OF 'rootstocklaw22.ConfSteps'. -/
def confStepsUptoCard : Claim7 := { stood := { row := confStepsUptoRow, standIns := [], harness := (true, "05b07fe923f2909c485e0dfcc2af858cb0d7855e9070f0b0abf5222a3b194e4c"), looks := false }, kinds := [], alts := [], laidByText := true, laidKinds := [.data, .data, .data, .data, .pinned], laidTests := true, laidLooks := .later }
def ConfStepsUptoCardSaid : Prop := Claim7.holds Tryd.pinned (.plain (OpenSpec.upto confStepsSpec)) confStepsUptoCard
end Rows
end Go.Proofs.YtobflgpaijdcaaaDoor
