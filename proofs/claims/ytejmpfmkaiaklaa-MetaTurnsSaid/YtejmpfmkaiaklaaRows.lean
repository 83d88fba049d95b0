/-
  No cell of these rows narrows 'for every input' (looked for: loops, veiled, ifaces, maps, wideKeys, modest, calm, conditions, laid).
  DERIVED. THE GIVEN ROWS OF THIS SEAT. 9 by the template 'for every input the law returns true; each argument reads behind the call as it read before'; 0 by the template 'total and deterministic' (their statements: YtejmpfmkaiaklaaTotals.lean).
  GIVEN WITH THE SEED: the statements are not yours to turn. If you find one false, say at which input.
  Laid BY PROGRAM, IN A SANDBOX (cutbox-rows.mjs): the forced cells as the released guide's own fill.sh prints them over the translation f1c4a388ad37d0c0… (all of the seat's roots in one cut). By AI agents, Wed Nov 11 2026. No macro, syntax, notation, axiom, sorry.
-/
import Derived.Test.YtejmpfmkaiaklaaChecked
import GoSem.Claim
import GoSem.ClaimJoined
import GoSem.ClaimMapViews
import Derived.JoinedTies
import Derived.KernelRfl
namespace Go.Proofs.Ytejmpfmkaiaklaa
/- THE CELL 'sum', in the pinned program and in every row, IS THE sha256 OF THE DUMP (.gsa) THAT YtejmpfmkaiaklaaProg.lean LOADS. Nothing in Lean hashes anything: it is a label: what it is worth is what the hold of that sum in a sandbox is worth. -/
noncomputable def Try.pinned : Pinned := { name := "ytejmpfmkaiaklaa", sum := "f1c4a388ad37d0c01f202ac211ae4f6dcafbd953fe5692633a7766550283d0f2", checked := Try.checked }
namespace Rows
def none {H : Type} : Left H := { results := [], args := [] }

/-- 'rootstocklaw11.BigParts': WHATEVER THE INPUT: true; the input reads as it did. -/
def bigPartsSpec : ChangeSpec := { name := "bigParts", fn := fun _ => fun
  | [d1, d2, d3] => { results := [.lit (.bool true)], args := [d1, d2, d3] }
  | _ => none }
def bigPartsRow : OpenClaim := { program := "ytejmpfmkaiaklaa", sum := "f1c4a388ad37d0c01f202ac211ae4f6dcafbd953fe5692633a7766550283d0f2", func := "rootstock/rootstocklaw11.BigParts", spec := "bigParts", apart := false }
def BigPartsSaid : Prop := bigPartsRow.holds Try.pinned (OpenSpec.ofChange bigPartsSpec)

/-- ITS FALSE NEIGHBOUR: 'it returns false'. Refute it at one input. -/
def bigPartsWrong : ChangeSpec := { name := "bigParts", fn := fun _ => fun
  | [d1, d2, d3] => { results := [.lit (.bool false)], args := [d1, d2, d3] }
  | _ => none }
def BigPartsWrongFalsely : Prop := bigPartsRow.holds Try.pinned (OpenSpec.ofChange bigPartsWrong)

/-- 'rootstocklaw11.BigTells': WHATEVER THE INPUT: true; the input reads as it did. -/
def bigTellsSpec : ChangeSpec := { name := "bigTells", fn := fun _ => fun
  | [d1, d2, d3, d4, d5, d6] => { results := [.lit (.bool true)], args := [d1, d2, d3, d4, d5, d6] }
  | _ => none }
def bigTellsRow : OpenClaim := { program := "ytejmpfmkaiaklaa", sum := "f1c4a388ad37d0c01f202ac211ae4f6dcafbd953fe5692633a7766550283d0f2", func := "rootstock/rootstocklaw11.BigTells", spec := "bigTells", unfollowed := true, recurses := true, apart := false }
def BigTellsSaid : Prop := bigTellsRow.holds Try.pinned (OpenSpec.ofChange bigTellsSpec)

/-- ITS FALSE NEIGHBOUR: 'it returns false'. Refute it at one input. -/
def bigTellsWrong : ChangeSpec := { name := "bigTells", fn := fun _ => fun
  | [d1, d2, d3, d4, d5, d6] => { results := [.lit (.bool false)], args := [d1, d2, d3, d4, d5, d6] }
  | _ => none }
def BigTellsWrongFalsely : Prop := bigTellsRow.holds Try.pinned (OpenSpec.ofChange bigTellsWrong)

/-- 'rootstocklaw5.PageTells': WHATEVER THE INPUT: true; the input reads as it did. -/
def pageTellsSpec : ChangeSpec := { name := "pageTells", fn := fun _ => fun
  | [d1, d2, d3] => { results := [.lit (.bool true)], args := [d1, d2, d3] }
  | _ => none }
def pageTellsRow : OpenClaim := { program := "ytejmpfmkaiaklaa", sum := "f1c4a388ad37d0c01f202ac211ae4f6dcafbd953fe5692633a7766550283d0f2", func := "rootstock/rootstocklaw5.PageTells", spec := "pageTells", inPlace := ["internal/abi.NoEscape", "internal/bytealg.MakeNoZero"], apart := false }
def PageTellsSaid : Prop := pageTellsRow.holds Try.pinned (OpenSpec.ofChange pageTellsSpec)

/-- ITS FALSE NEIGHBOUR: 'it returns false'. Refute it at one input. -/
def pageTellsWrong : ChangeSpec := { name := "pageTells", fn := fun _ => fun
  | [d1, d2, d3] => { results := [.lit (.bool false)], args := [d1, d2, d3] }
  | _ => none }
def PageTellsWrongFalsely : Prop := pageTellsRow.holds Try.pinned (OpenSpec.ofChange pageTellsWrong)

/-- 'rootstocklaw5.PageTorn': WHATEVER THE INPUT: true; the input reads as it did. -/
def pageTornSpec : ChangeSpec := { name := "pageTorn", fn := fun _ => fun
  | [d1, d2, d3] => { results := [.lit (.bool true)], args := [d1, d2, d3] }
  | _ => none }
def pageTornRow : OpenClaim := { program := "ytejmpfmkaiaklaa", sum := "f1c4a388ad37d0c01f202ac211ae4f6dcafbd953fe5692633a7766550283d0f2", func := "rootstock/rootstocklaw5.PageTorn", spec := "pageTorn", inPlace := ["internal/abi.NoEscape", "internal/bytealg.MakeNoZero"], apart := false }
def PageTornSaid : Prop := pageTornRow.holds Try.pinned (OpenSpec.ofChange pageTornSpec)

/-- ITS FALSE NEIGHBOUR: 'it returns false'. Refute it at one input. -/
def pageTornWrong : ChangeSpec := { name := "pageTorn", fn := fun _ => fun
  | [d1, d2, d3] => { results := [.lit (.bool false)], args := [d1, d2, d3] }
  | _ => none }
def PageTornWrongFalsely : Prop := pageTornRow.holds Try.pinned (OpenSpec.ofChange pageTornWrong)

/-- 'rootstocklaw5.PageChanged': WHATEVER THE INPUT: true; the input reads as it did. -/
def pageChangedSpec : ChangeSpec := { name := "pageChanged", fn := fun _ => fun
  | [d1, d2, d3] => { results := [.lit (.bool true)], args := [d1, d2, d3] }
  | _ => none }
def pageChangedRow : OpenClaim := { program := "ytejmpfmkaiaklaa", sum := "f1c4a388ad37d0c01f202ac211ae4f6dcafbd953fe5692633a7766550283d0f2", func := "rootstock/rootstocklaw5.PageChanged", spec := "pageChanged", inPlace := ["internal/abi.NoEscape", "internal/bytealg.MakeNoZero"], apart := false }
def PageChangedSaid : Prop := pageChangedRow.holds Try.pinned (OpenSpec.ofChange pageChangedSpec)

/-- ITS FALSE NEIGHBOUR: 'it returns false'. Refute it at one input. -/
def pageChangedWrong : ChangeSpec := { name := "pageChanged", fn := fun _ => fun
  | [d1, d2, d3] => { results := [.lit (.bool false)], args := [d1, d2, d3] }
  | _ => none }
def PageChangedWrongFalsely : Prop := pageChangedRow.holds Try.pinned (OpenSpec.ofChange pageChangedWrong)

/-- 'rootstocklaw5.PageBack': WHATEVER THE INPUT: true; the input reads as it did. -/
def pageBackSpec : ChangeSpec := { name := "pageBack", fn := fun _ => fun
  | [d1, d2] => { results := [.lit (.bool true)], args := [d1, d2] }
  | _ => none }
def pageBackRow : OpenClaim := { program := "ytejmpfmkaiaklaa", sum := "f1c4a388ad37d0c01f202ac211ae4f6dcafbd953fe5692633a7766550283d0f2", func := "rootstock/rootstocklaw5.PageBack", spec := "pageBack", inPlace := ["internal/abi.NoEscape", "internal/bytealg.MakeNoZero"], apart := false }
def PageBackSaid : Prop := pageBackRow.holds Try.pinned (OpenSpec.ofChange pageBackSpec)

/-- ITS FALSE NEIGHBOUR: 'it returns false'. Refute it at one input. -/
def pageBackWrong : ChangeSpec := { name := "pageBack", fn := fun _ => fun
  | [d1, d2] => { results := [.lit (.bool false)], args := [d1, d2] }
  | _ => none }
def PageBackWrongFalsely : Prop := pageBackRow.holds Try.pinned (OpenSpec.ofChange pageBackWrong)

/-- 'rootstocklaw6.MetaTells': WHATEVER THE INPUT: true; the input reads as it did. -/
def metaTellsSpec : ChangeSpec := { name := "metaTells", fn := fun _ => fun
  | [d1, d2, d3] => { results := [.lit (.bool true)], args := [d1, d2, d3] }
  | _ => none }
def metaTellsRow : OpenClaim := { program := "ytejmpfmkaiaklaa", sum := "f1c4a388ad37d0c01f202ac211ae4f6dcafbd953fe5692633a7766550283d0f2", func := "rootstock/rootstocklaw6.MetaTells", spec := "metaTells", inPlace := ["internal/abi.NoEscape", "internal/bytealg.MakeNoZero"], apart := false }
def MetaTellsSaid : Prop := metaTellsRow.holds Try.pinned (OpenSpec.ofChange metaTellsSpec)

/-- ITS FALSE NEIGHBOUR: 'it returns false'. Refute it at one input. -/
def metaTellsWrong : ChangeSpec := { name := "metaTells", fn := fun _ => fun
  | [d1, d2, d3] => { results := [.lit (.bool false)], args := [d1, d2, d3] }
  | _ => none }
def MetaTellsWrongFalsely : Prop := metaTellsRow.holds Try.pinned (OpenSpec.ofChange metaTellsWrong)

/-- 'rootstocklaw6.MetaTurns': WHATEVER THE INPUT: true; the input reads as it did. -/
def metaTurnsSpec : ChangeSpec := { name := "metaTurns", fn := fun _ => fun
  | [d1, d2] => { results := [.lit (.bool true)], args := [d1, d2] }
  | _ => none }
def metaTurnsRow : OpenClaim := { program := "ytejmpfmkaiaklaa", sum := "f1c4a388ad37d0c01f202ac211ae4f6dcafbd953fe5692633a7766550283d0f2", func := "rootstock/rootstocklaw6.MetaTurns", spec := "metaTurns", inPlace := ["internal/abi.NoEscape", "internal/bytealg.MakeNoZero"], apart := false }
def MetaTurnsSaid : Prop := metaTurnsRow.holds Try.pinned (OpenSpec.ofChange metaTurnsSpec)

/-- ITS FALSE NEIGHBOUR: 'it returns false'. Refute it at one input. -/
def metaTurnsWrong : ChangeSpec := { name := "metaTurns", fn := fun _ => fun
  | [d1, d2] => { results := [.lit (.bool false)], args := [d1, d2] }
  | _ => none }
def MetaTurnsWrongFalsely : Prop := metaTurnsRow.holds Try.pinned (OpenSpec.ofChange metaTurnsWrong)

/-- 'rootstocklaw6.MetaSlots': WHATEVER THE INPUT: true; the input reads as it did. -/
def metaSlotsSpec : ChangeSpec := { name := "metaSlots", fn := fun _ => fun
  | [d1, d2] => { results := [.lit (.bool true)], args := [d1, d2] }
  | _ => none }
def metaSlotsRow : OpenClaim := { program := "ytejmpfmkaiaklaa", sum := "f1c4a388ad37d0c01f202ac211ae4f6dcafbd953fe5692633a7766550283d0f2", func := "rootstock/rootstocklaw6.MetaSlots", spec := "metaSlots", inPlace := ["internal/abi.NoEscape", "internal/bytealg.MakeNoZero"], apart := false }
def MetaSlotsSaid : Prop := metaSlotsRow.holds Try.pinned (OpenSpec.ofChange metaSlotsSpec)

/-- ITS FALSE NEIGHBOUR: 'it returns false'. Refute it at one input. -/
def metaSlotsWrong : ChangeSpec := { name := "metaSlots", fn := fun _ => fun
  | [d1, d2] => { results := [.lit (.bool false)], args := [d1, d2] }
  | _ => none }
def MetaSlotsWrongFalsely : Prop := metaSlotsRow.holds Try.pinned (OpenSpec.ofChange metaSlotsWrong)

/- THE SECOND FORM. 'bulk': how many values and letters a reading holds, each counted each time it is reached (what is shared counts as often as it is met; a slice's spare places count too). A statement '..UptoSaid' is the law's where the arguments, and the package variables that the reading takes, are together of bulk at most 1048576: NARROWER than '..Said'. Prove '..Said' where nothing that the law and all that it calls make is longer than what came in: it says more and counts as full. Else prove '..UptoSaid'. A law counts once. -/
mutual
def uptoBulk {H : Type} : DataW H → Nat
  | .lit (.string bytes) => bytes.length + 1
  | .lit _ => 1
  | .nil => 1
  | .ptr d => uptoBulk d + 1
  | .slice elems spare => uptoBulkAll elems + uptoBulkAll spare + 1
  | .agg parts => uptoBulkAll parts + 1
  | .iface _ d => uptoBulk d + 1
  | .map entries => uptoBulkEntries entries + 1
  | .held _ => 1
def uptoBulkAll {H : Type} : List (DataW H) → Nat
  | [] => 0
  | d :: r => uptoBulk d + uptoBulkAll r
def uptoBulkEntries {H : Type} : List (Lit × DataW H) → Nat
  | [] => 0
  | x :: r => uptoBulkEntry x + uptoBulkEntries r
def uptoBulkEntry {H : Type} : Lit × DataW H → Nat
  | (.string bytes, d) => bytes.length + uptoBulk d + 1
  | (_, d) => uptoBulk d + 1
 end
def uptoSmall : (H : Type) → List (DataW H) → Bool := fun _ ds => decide (uptoBulkAll ds ≤ 1048576)
def OpenSpec.upto (s : _root_.Go.ChangeSpec) : _root_.Go.OpenSpec := { _root_.Go.OpenSpec.ofChange s with cond := some uptoSmall }

/-- 'rootstocklaw11.BigParts', WHERE WHAT IT READS IS OF BULK AT MOST 1048576: true; the input reads as it did. -/
def bigPartsUptoRow : OpenClaim := { program := "ytejmpfmkaiaklaa", sum := "f1c4a388ad37d0c01f202ac211ae4f6dcafbd953fe5692633a7766550283d0f2", func := "rootstock/rootstocklaw11.BigParts", spec := "bigParts", apart := false, narrowed := true }
def BigPartsUptoSaid : Prop := bigPartsUptoRow.holds Try.pinned (OpenSpec.upto bigPartsSpec)

/-- 'rootstocklaw11.BigTells', WHERE WHAT IT READS IS OF BULK AT MOST 1048576: true; the input reads as it did. -/
def bigTellsUptoRow : OpenClaim := { program := "ytejmpfmkaiaklaa", sum := "f1c4a388ad37d0c01f202ac211ae4f6dcafbd953fe5692633a7766550283d0f2", func := "rootstock/rootstocklaw11.BigTells", spec := "bigTells", unfollowed := true, recurses := true, apart := false, narrowed := true }
def BigTellsUptoSaid : Prop := bigTellsUptoRow.holds Try.pinned (OpenSpec.upto bigTellsSpec)

/-- 'rootstocklaw5.PageTells', WHERE WHAT IT READS IS OF BULK AT MOST 1048576: true; the input reads as it did. -/
def pageTellsUptoRow : OpenClaim := { program := "ytejmpfmkaiaklaa", sum := "f1c4a388ad37d0c01f202ac211ae4f6dcafbd953fe5692633a7766550283d0f2", func := "rootstock/rootstocklaw5.PageTells", spec := "pageTells", inPlace := ["internal/abi.NoEscape", "internal/bytealg.MakeNoZero"], apart := false, narrowed := true }
def PageTellsUptoSaid : Prop := pageTellsUptoRow.holds Try.pinned (OpenSpec.upto pageTellsSpec)

/-- 'rootstocklaw5.PageTorn', WHERE WHAT IT READS IS OF BULK AT MOST 1048576: true; the input reads as it did. -/
def pageTornUptoRow : OpenClaim := { program := "ytejmpfmkaiaklaa", sum := "f1c4a388ad37d0c01f202ac211ae4f6dcafbd953fe5692633a7766550283d0f2", func := "rootstock/rootstocklaw5.PageTorn", spec := "pageTorn", inPlace := ["internal/abi.NoEscape", "internal/bytealg.MakeNoZero"], apart := false, narrowed := true }
def PageTornUptoSaid : Prop := pageTornUptoRow.holds Try.pinned (OpenSpec.upto pageTornSpec)

/-- 'rootstocklaw5.PageChanged', WHERE WHAT IT READS IS OF BULK AT MOST 1048576: true; the input reads as it did. -/
def pageChangedUptoRow : OpenClaim := { program := "ytejmpfmkaiaklaa", sum := "f1c4a388ad37d0c01f202ac211ae4f6dcafbd953fe5692633a7766550283d0f2", func := "rootstock/rootstocklaw5.PageChanged", spec := "pageChanged", inPlace := ["internal/abi.NoEscape", "internal/bytealg.MakeNoZero"], apart := false, narrowed := true }
def PageChangedUptoSaid : Prop := pageChangedUptoRow.holds Try.pinned (OpenSpec.upto pageChangedSpec)

/-- 'rootstocklaw5.PageBack', WHERE WHAT IT READS IS OF BULK AT MOST 1048576: true; the input reads as it did. -/
def pageBackUptoRow : OpenClaim := { program := "ytejmpfmkaiaklaa", sum := "f1c4a388ad37d0c01f202ac211ae4f6dcafbd953fe5692633a7766550283d0f2", func := "rootstock/rootstocklaw5.PageBack", spec := "pageBack", inPlace := ["internal/abi.NoEscape", "internal/bytealg.MakeNoZero"], apart := false, narrowed := true }
def PageBackUptoSaid : Prop := pageBackUptoRow.holds Try.pinned (OpenSpec.upto pageBackSpec)

/-- 'rootstocklaw6.MetaTells', WHERE WHAT IT READS IS OF BULK AT MOST 1048576: true; the input reads as it did. -/
def metaTellsUptoRow : OpenClaim := { program := "ytejmpfmkaiaklaa", sum := "f1c4a388ad37d0c01f202ac211ae4f6dcafbd953fe5692633a7766550283d0f2", func := "rootstock/rootstocklaw6.MetaTells", spec := "metaTells", inPlace := ["internal/abi.NoEscape", "internal/bytealg.MakeNoZero"], apart := false, narrowed := true }
def MetaTellsUptoSaid : Prop := metaTellsUptoRow.holds Try.pinned (OpenSpec.upto metaTellsSpec)

/-- 'rootstocklaw6.MetaTurns', WHERE WHAT IT READS IS OF BULK AT MOST 1048576: true; the input reads as it did. -/
def metaTurnsUptoRow : OpenClaim := { program := "ytejmpfmkaiaklaa", sum := "f1c4a388ad37d0c01f202ac211ae4f6dcafbd953fe5692633a7766550283d0f2", func := "rootstock/rootstocklaw6.MetaTurns", spec := "metaTurns", inPlace := ["internal/abi.NoEscape", "internal/bytealg.MakeNoZero"], apart := false, narrowed := true }
def MetaTurnsUptoSaid : Prop := metaTurnsUptoRow.holds Try.pinned (OpenSpec.upto metaTurnsSpec)

/-- 'rootstocklaw6.MetaSlots', WHERE WHAT IT READS IS OF BULK AT MOST 1048576: true; the input reads as it did. -/
def metaSlotsUptoRow : OpenClaim := { program := "ytejmpfmkaiaklaa", sum := "f1c4a388ad37d0c01f202ac211ae4f6dcafbd953fe5692633a7766550283d0f2", func := "rootstock/rootstocklaw6.MetaSlots", spec := "metaSlots", inPlace := ["internal/abi.NoEscape", "internal/bytealg.MakeNoZero"], apart := false, narrowed := true }
def MetaSlotsUptoSaid : Prop := metaSlotsUptoRow.holds Try.pinned (OpenSpec.upto metaSlotsSpec)

end Rows
end Go.Proofs.Ytejmpfmkaiaklaa
