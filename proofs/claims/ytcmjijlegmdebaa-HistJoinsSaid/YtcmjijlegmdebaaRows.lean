/-
  No cell of these rows narrows 'for every input' (looked for: loops, veiled, ifaces, maps, wideKeys, modest, calm, conditions, laid).
  DERIVED. THE GIVEN ROWS OF THIS SEAT. 6 by the template 'for every input the law returns true; each argument reads behind the call as it read before'; 0 by the template 'total and deterministic' (their statements: YtcmjijlegmdebaaTotals.lean).
  GIVEN WITH THE SEED: the statements are not yours to turn. If you find one false, say at which input.
  Laid BY PROGRAM, IN A SANDBOX (cutbox-rows.mjs): the forced cells as the released guide's own fill.sh prints them over the translation 2e763deb2210569c… (all of the seat's roots in one cut). By AI agents, Wed Nov 11 2026. No macro, syntax, notation, axiom, sorry.
-/
import Derived.Test.YtcmjijlegmdebaaChecked
import GoSem.Claim
import GoSem.ClaimJoined
import GoSem.ClaimMapViews
import Derived.JoinedTies
import Derived.KernelRfl
namespace Go.Proofs.Ytcmjijlegmdebaa
/- THE CELL 'sum', in the pinned program and in every row, IS THE sha256 OF THE DUMP (.gsa) THAT YtcmjijlegmdebaaProg.lean LOADS. Nothing in Lean hashes anything: it is a label: what it is worth is what the hold of that sum in a sandbox is worth. -/
noncomputable def Try.pinned : Pinned := { name := "ytcmjijlegmdebaa", sum := "2e763deb2210569ce92c95eb6861daa26ef444e58d6caff5e395a08bb0ee832d", checked := Try.checked }
namespace Rows
def none {H : Type} : Left H := { results := [], args := [] }

/-- 'rootstocklaw25.RaftReads': WHATEVER THE INPUT: true; the input reads as it did. -/
def raftReadsSpec : ChangeSpec := { name := "raftReads", fn := fun _ => fun
  | [d] => { results := [.lit (.bool true)], args := [d] }
  | _ => none }
def raftReadsRow : OpenClaim := { program := "ytcmjijlegmdebaa", sum := "2e763deb2210569ce92c95eb6861daa26ef444e58d6caff5e395a08bb0ee832d", func := "rootstock/rootstocklaw25.RaftReads", spec := "raftReads", unfollowed := true, recurses := true, apart := false }
def RaftReadsSaid : Prop := raftReadsRow.holds Try.pinned (OpenSpec.ofChange raftReadsSpec)

/-- ITS FALSE NEIGHBOUR: 'it returns false'. Refute it at one input. -/
def raftReadsWrong : ChangeSpec := { name := "raftReads", fn := fun _ => fun
  | [d] => { results := [.lit (.bool false)], args := [d] }
  | _ => none }
def RaftReadsWrongFalsely : Prop := raftReadsRow.holds Try.pinned (OpenSpec.ofChange raftReadsWrong)

/-- 'rootstocklaw25.RaftNewer': WHATEVER THE INPUT: true; the input reads as it did. -/
def raftNewerSpec : ChangeSpec := { name := "raftNewer", fn := fun _ => fun
  | [d1, d2, d3] => { results := [.lit (.bool true)], args := [d1, d2, d3] }
  | _ => none }
def raftNewerRow : OpenClaim := { program := "ytcmjijlegmdebaa", sum := "2e763deb2210569ce92c95eb6861daa26ef444e58d6caff5e395a08bb0ee832d", func := "rootstock/rootstocklaw25.RaftNewer", spec := "raftNewer", apart := false }
def RaftNewerSaid : Prop := raftNewerRow.holds Try.pinned (OpenSpec.ofChange raftNewerSpec)

/-- ITS FALSE NEIGHBOUR: 'it returns false'. Refute it at one input. -/
def raftNewerWrong : ChangeSpec := { name := "raftNewer", fn := fun _ => fun
  | [d1, d2, d3] => { results := [.lit (.bool false)], args := [d1, d2, d3] }
  | _ => none }
def RaftNewerWrongFalsely : Prop := raftNewerRow.holds Try.pinned (OpenSpec.ofChange raftNewerWrong)

/-- 'rootstocklaw23.HistTrims': WHATEVER THE INPUT: true; the input reads as it did. -/
def histTrimsSpec : ChangeSpec := { name := "histTrims", fn := fun _ => fun
  | [d1, d2, d3, d4, d5] => { results := [.lit (.bool true)], args := [d1, d2, d3, d4, d5] }
  | _ => none }
def histTrimsRow : OpenClaim := { program := "ytcmjijlegmdebaa", sum := "2e763deb2210569ce92c95eb6861daa26ef444e58d6caff5e395a08bb0ee832d", func := "rootstock/rootstocklaw23.HistTrims", spec := "histTrims", apart := false }
def HistTrimsSaid : Prop := histTrimsRow.holds Try.pinned (OpenSpec.ofChange histTrimsSpec)

/-- ITS FALSE NEIGHBOUR: 'it returns false'. Refute it at one input. -/
def histTrimsWrong : ChangeSpec := { name := "histTrims", fn := fun _ => fun
  | [d1, d2, d3, d4, d5] => { results := [.lit (.bool false)], args := [d1, d2, d3, d4, d5] }
  | _ => none }
def HistTrimsWrongFalsely : Prop := histTrimsRow.holds Try.pinned (OpenSpec.ofChange histTrimsWrong)

/-- 'rootstocklaw23.HistJoins': WHATEVER THE INPUT: true; the input reads as it did. -/
def histJoinsSpec : ChangeSpec := { name := "histJoins", fn := fun _ => fun
  | [d1, d2, d3, d4] => { results := [.lit (.bool true)], args := [d1, d2, d3, d4] }
  | _ => none }
def histJoinsRow : OpenClaim := { program := "ytcmjijlegmdebaa", sum := "2e763deb2210569ce92c95eb6861daa26ef444e58d6caff5e395a08bb0ee832d", func := "rootstock/rootstocklaw23.HistJoins", spec := "histJoins", apart := false }
def HistJoinsSaid : Prop := histJoinsRow.holds Try.pinned (OpenSpec.ofChange histJoinsSpec)

/-- ITS FALSE NEIGHBOUR: 'it returns false'. Refute it at one input. -/
def histJoinsWrong : ChangeSpec := { name := "histJoins", fn := fun _ => fun
  | [d1, d2, d3, d4] => { results := [.lit (.bool false)], args := [d1, d2, d3, d4] }
  | _ => none }
def HistJoinsWrongFalsely : Prop := histJoinsRow.holds Try.pinned (OpenSpec.ofChange histJoinsWrong)

/-- 'rootstocklaw23.HistPlays': WHATEVER THE INPUT: true; the input reads as it did. -/
def histPlaysSpec : ChangeSpec := { name := "histPlays", fn := fun _ => fun
  | [d1, d2, d3, d4, d5, d6] => { results := [.lit (.bool true)], args := [d1, d2, d3, d4, d5, d6] }
  | _ => none }
def histPlaysRow : OpenClaim := { program := "ytcmjijlegmdebaa", sum := "2e763deb2210569ce92c95eb6861daa26ef444e58d6caff5e395a08bb0ee832d", func := "rootstock/rootstocklaw23.HistPlays", spec := "histPlays", apart := false }
def HistPlaysSaid : Prop := histPlaysRow.holds Try.pinned (OpenSpec.ofChange histPlaysSpec)

/-- ITS FALSE NEIGHBOUR: 'it returns false'. Refute it at one input. -/
def histPlaysWrong : ChangeSpec := { name := "histPlays", fn := fun _ => fun
  | [d1, d2, d3, d4, d5, d6] => { results := [.lit (.bool false)], args := [d1, d2, d3, d4, d5, d6] }
  | _ => none }
def HistPlaysWrongFalsely : Prop := histPlaysRow.holds Try.pinned (OpenSpec.ofChange histPlaysWrong)

/-- 'rootstocklaw23.HistNone': WHATEVER THE INPUT: true; the input reads as it did. -/
def histNoneSpec : ChangeSpec := { name := "histNone", fn := fun _ => fun
  | [d1, d2] => { results := [.lit (.bool true)], args := [d1, d2] }
  | _ => none }
def histNoneRow : OpenClaim := { program := "ytcmjijlegmdebaa", sum := "2e763deb2210569ce92c95eb6861daa26ef444e58d6caff5e395a08bb0ee832d", func := "rootstock/rootstocklaw23.HistNone", spec := "histNone", apart := false }
def HistNoneSaid : Prop := histNoneRow.holds Try.pinned (OpenSpec.ofChange histNoneSpec)

/-- ITS FALSE NEIGHBOUR: 'it returns false'. Refute it at one input. -/
def histNoneWrong : ChangeSpec := { name := "histNone", fn := fun _ => fun
  | [d1, d2] => { results := [.lit (.bool false)], args := [d1, d2] }
  | _ => none }
def HistNoneWrongFalsely : Prop := histNoneRow.holds Try.pinned (OpenSpec.ofChange histNoneWrong)

/- THE SECOND FORM. 'bulk': how many values and letters a reading holds, each counted each time it is reached (what is shared counts as often as it is met; a slice's spare places count too). A statement '..UptoSaid' is the law's where the arguments, and the package variables that the reading takes, are together of bulk at most 1048576: NARROWER than '..Said'. Prove '..Said' where nothing that the law and all that it calls make is longer than what came in: it says more and counts as full. Else prove '..UptoSaid'. A law counts once. -/
mutual
def uptoBulk {H : Type} : DataW H → Nat
  | .lit (.string bytes) => bytes.length + 1
  | .lit _ => 1
  | .nil => 1
  | .ptr d => uptoBulk d + 1
  | .slice elems spare => uptoBulkAll elems + uptoBulkAll spare + 1
  | .agg parts => uptoBulkAll parts + 1
  | .iface _ d => uptoBulk d + 1
  | .map entries => uptoBulkEntries entries + 1
  | .held _ => 1
def uptoBulkAll {H : Type} : List (DataW H) → Nat
  | [] => 0
  | d :: r => uptoBulk d + uptoBulkAll r
def uptoBulkEntries {H : Type} : List (Lit × DataW H) → Nat
  | [] => 0
  | x :: r => uptoBulkEntry x + uptoBulkEntries r
def uptoBulkEntry {H : Type} : Lit × DataW H → Nat
  | (.string bytes, d) => bytes.length + uptoBulk d + 1
  | (_, d) => uptoBulk d + 1
 end
def uptoSmall : (H : Type) → List (DataW H) → Bool := fun _ ds => decide (uptoBulkAll ds ≤ 1048576)
def OpenSpec.upto (s : _root_.Go.ChangeSpec) : _root_.Go.OpenSpec := { _root_.Go.OpenSpec.ofChange s with cond := some uptoSmall }

/-- 'rootstocklaw25.RaftReads', WHERE WHAT IT READS IS OF BULK AT MOST 1048576: true; the input reads as it did. -/
def raftReadsUptoRow : OpenClaim := { program := "ytcmjijlegmdebaa", sum := "2e763deb2210569ce92c95eb6861daa26ef444e58d6caff5e395a08bb0ee832d", func := "rootstock/rootstocklaw25.RaftReads", spec := "raftReads", unfollowed := true, recurses := true, apart := false, narrowed := true }
def RaftReadsUptoSaid : Prop := raftReadsUptoRow.holds Try.pinned (OpenSpec.upto raftReadsSpec)

/-- 'rootstocklaw25.RaftNewer', WHERE WHAT IT READS IS OF BULK AT MOST 1048576: true; the input reads as it did. -/
def raftNewerUptoRow : OpenClaim := { program := "ytcmjijlegmdebaa", sum := "2e763deb2210569ce92c95eb6861daa26ef444e58d6caff5e395a08bb0ee832d", func := "rootstock/rootstocklaw25.RaftNewer", spec := "raftNewer", apart := false, narrowed := true }
def RaftNewerUptoSaid : Prop := raftNewerUptoRow.holds Try.pinned (OpenSpec.upto raftNewerSpec)

/-- 'rootstocklaw23.HistTrims', WHERE WHAT IT READS IS OF BULK AT MOST 1048576: true; the input reads as it did. -/
def histTrimsUptoRow : OpenClaim := { program := "ytcmjijlegmdebaa", sum := "2e763deb2210569ce92c95eb6861daa26ef444e58d6caff5e395a08bb0ee832d", func := "rootstock/rootstocklaw23.HistTrims", spec := "histTrims", apart := false, narrowed := true }
def HistTrimsUptoSaid : Prop := histTrimsUptoRow.holds Try.pinned (OpenSpec.upto histTrimsSpec)

/-- 'rootstocklaw23.HistJoins', WHERE WHAT IT READS IS OF BULK AT MOST 1048576: true; the input reads as it did. -/
def histJoinsUptoRow : OpenClaim := { program := "ytcmjijlegmdebaa", sum := "2e763deb2210569ce92c95eb6861daa26ef444e58d6caff5e395a08bb0ee832d", func := "rootstock/rootstocklaw23.HistJoins", spec := "histJoins", apart := false, narrowed := true }
def HistJoinsUptoSaid : Prop := histJoinsUptoRow.holds Try.pinned (OpenSpec.upto histJoinsSpec)

/-- 'rootstocklaw23.HistPlays', WHERE WHAT IT READS IS OF BULK AT MOST 1048576: true; the input reads as it did. -/
def histPlaysUptoRow : OpenClaim := { program := "ytcmjijlegmdebaa", sum := "2e763deb2210569ce92c95eb6861daa26ef444e58d6caff5e395a08bb0ee832d", func := "rootstock/rootstocklaw23.HistPlays", spec := "histPlays", apart := false, narrowed := true }
def HistPlaysUptoSaid : Prop := histPlaysUptoRow.holds Try.pinned (OpenSpec.upto histPlaysSpec)

/-- 'rootstocklaw23.HistNone', WHERE WHAT IT READS IS OF BULK AT MOST 1048576: true; the input reads as it did. -/
def histNoneUptoRow : OpenClaim := { program := "ytcmjijlegmdebaa", sum := "2e763deb2210569ce92c95eb6861daa26ef444e58d6caff5e395a08bb0ee832d", func := "rootstock/rootstocklaw23.HistNone", spec := "histNone", apart := false, narrowed := true }
def HistNoneUptoSaid : Prop := histNoneUptoRow.holds Try.pinned (OpenSpec.upto histNoneSpec)

end Rows
end Go.Proofs.Ytcmjijlegmdebaa
