/-
  The rows that list the library's tables: the heap that the program's own start leaves meets their condition, and the condition gives the table of powers of ten. No condition of its own.
-/
import Derived.Test.YtkenhcgdnbgnpaaDoorRows
import Derived.Test.YtkenhcgdnbgnpaaDoorRow
import Derived.Test.YtkenhcgdnbgnpaaDoorLayItoa
import Derived.LaidMore
import Derived.LaidByTextLater
import Derived.SevenTiedAt
import Derived.Lib.LaidTab
import Derived.Stop.Joined
import Derived.MakeChecks
namespace Go.Proofs.YtkenhcgdnbgnpaaDoor
open Go Go.RowKit Go.WideShapes Go.ChangeShapes Go.ChangeAt Go.WideMaps Go.WideElems

/-- What the pack rows list. -/
abbrev laid3 : List (String × DataW Unit) := Rows.packDigitsRow.laid
theorem door_met (os : Os) (args : Array Value) : laidMetH Tryd.prog laid3 ((World.doorLaid Tryd.prog 34 os).forCall (fun _ _ => 0) ⟨#[], args, []⟩).memory :=
  laidMetH_of_parts3 (fuel := 8) (laidMet_of_run' 8 (by kernel_rfl) (by kernel_rfl)) (by kernel_rfl) (by kernel_rfl)
theorem laid_tail {P : Program} {x : String × DataW Unit} {rest : List (String × DataW Unit)} {W : World} (h : laidMet P (x :: rest) W) : laidMet P rest W := by
  obtain ⟨ps, ⟨g, t, cs, fuel, p, q, _, _, _, _, hr, rfl⟩, hn, hc⟩ := h
  exact ⟨q, hr, (List.nodup_append.1 hn).2.1, fun b off hm => hc b off (by simp [hm])⟩
theorem pow_of {W : World} (h : laidMetH Tryd.prog laid3 W) : Lib.TabIs Tryd.prog W "internal/strconv.uint64pow10" .u64 Lib.pow10Tab := by
  rw [MakeChecks.laidMetH_plain _ _ _ (by kernel_rfl)] at h
  exact Lib.tabIs_of_head (g := 0) (t := 61) (e := 43) (n := 20) (by kernel_rfl) (by kernel_rfl) (by kernel_rfl) (by kernel_rfl) (by kernel_rfl) (by kernel_rfl) (show laidMet Tryd.prog [(_, Lib.tabData .u64 Lib.pow10Tab)] W from laid_tail (laid_tail h))
end Go.Proofs.YtkenhcgdnbgnpaaDoor
