/-
  strings.Repeat at this program: that many copies of a text, one behind the other: the library's contract, laid. Condition: the copies are no longer than memory holds.
-/
import Derived.Shelf.Strings.Repeat
import Derived.KernelRfl
import Derived.Test.YtkenhcgdnbgnpaaChecked
namespace Go.Proofs.Ytkenhcgdnbgnpaa
open Go Go.Shelf Go.RowKit
def Try.laysRepeat_ren : Go.Shelf.Ren := ⟨fun | 105 => 44 | 212 => 49 | 99 => 50 | 165 => 51 | 166 => 52 | 170 => 53 | 169 => 54 | 263 => 57 | 264 => 58 | 206 => 59 | 240 => 60 | 241 => 61 | 276 => 62 | 277 => 63 | n => n, fun | 9 => 9 | 3 => 3 | 4 => 4 | 20 => 20 | 0 => 0 | 46 => 77 | 109 => 78 | 5 => 5 | 72 => 83 | 76 => 87 | 51 => 73 | 146 => 92 | 53 => 55 | 148 => 94 | 70 => 81 | 37 => 44 | 75 => 86 | 127 => 96 | 164 => 97 | 80 => 89 | n => n, fun | n => n⟩
theorem Try.laysRepeat : Go.Proofs.Lays.n105 Try.prog Try.laysRepeat_ren := {
  mixed := by kernel_rfl
  f99 := Try.func50.trans (congrArg some (by kernel_rfl))
  f105 := Try.func44.trans (congrArg some (by kernel_rfl))
  f165 := Try.func51.trans (congrArg some (by kernel_rfl))
  f166 := Try.func52.trans (congrArg some (by kernel_rfl))
  f169 := Try.func54.trans (congrArg some (by kernel_rfl))
  f170 := Try.func53.trans (congrArg some (by kernel_rfl))
  f206 := Try.func59.trans (congrArg some (by kernel_rfl))
  f212 := Try.func49.trans (congrArg some (by kernel_rfl))
  f240 := Try.func60.trans (congrArg some (by kernel_rfl))
  f241 := Try.func61.trans (congrArg some (by kernel_rfl))
  f263 := Try.func57.trans (congrArg some (by kernel_rfl))
  f264 := Try.func58.trans (congrArg some (by kernel_rfl))
  f276 := Try.func62.trans (congrArg some (by kernel_rfl))
  f277 := Try.func63.trans (congrArg some (by kernel_rfl))
  t0 := Try.underlying0
  a0 := Try.isAgg0
  z0 := Try.sizeOf0
  v0 := Try.zeroValue0
  t3 := Try.underlying3
  a3 := Try.isAgg3
  z3 := Try.sizeOf3
  v3 := Try.zeroValue3
  t4 := Try.underlying4
  a4 := Try.isAgg4
  z4 := Try.sizeOf4
  v4 := Try.zeroValue4
  t5 := Try.underlying5
  a5 := Try.isAgg5
  z5 := Try.sizeOf5
  v5 := Try.zeroValue5
  t9 := Try.underlying9
  a9 := Try.isAgg9
  z9 := Try.sizeOf9
  v9 := Try.zeroValue9
  t20 := Try.underlying20
  a20 := Try.isAgg20
  z20 := Try.sizeOf20
  v20 := Try.zeroValue20
  t37 := Try.underlying44
  a37 := Try.isAgg44
  z37 := Try.sizeOf44
  v37 := Try.zeroValue44
  t46 := Try.underlying77
  a46 := Try.isAgg77
  z46 := Try.sizeOf77
  v46 := Try.zeroValue77
  t51 := Try.underlying73
  a51 := Try.isAgg73
  z51 := Try.sizeOf73
  v51 := Try.zeroValue73
  t53 := Try.underlying55
  a53 := Try.isAgg55
  z53 := Try.sizeOf55
  v53 := Try.zeroValue55
  t70 := Try.underlying81
  a70 := Try.isAgg81
  z70 := Try.sizeOf81
  v70 := Try.zeroValue81
  t72 := Try.underlying83
  a72 := Try.isAgg83
  z72 := Try.sizeOf83
  v72 := Try.zeroValue83
  t75 := Try.underlying86
  a75 := Try.isAgg86
  z75 := Try.sizeOf86
  v75 := Try.zeroValue86
  t76 := Try.underlying87
  a76 := Try.isAgg87
  z76 := Try.sizeOf87
  v76 := Try.zeroValue87
  t109 := Try.underlying78
  a109 := Try.isAgg78
  z109 := Try.sizeOf78
  v109 := Try.zeroValue78
  t127 := Try.underlying96
  a127 := Try.isAgg96
  z127 := Try.sizeOf96
  v127 := Try.zeroValue96
  t146 := Try.underlying92
  a146 := Try.isAgg92
  z146 := Try.sizeOf92
  v146 := Try.zeroValue92
  t148 := Try.underlying94
  a148 := Try.isAgg94
  z148 := Try.sizeOf94
  v148 := Try.zeroValue94
  t164 := Try.underlying97
  a164 := Try.isAgg97
  z164 := Try.sizeOf97
  v164 := Try.zeroValue97 }

theorem Try.repExtra : Builder.Extra Try.prog Try.laysRepeat_ren := {
  sizeBuilder := by kernel_rfl
  liesBuilder := by kernel_rfl
  t5 := Try.laysRepeat.t5
  a5 := Try.laysRepeat.a5
  z5 := Try.laysRepeat.z5
  v5 := Try.laysRepeat.v5
  infoByte := by kernel_rfl
  cellsByte := by kernel_rfl
  sizeByte := by kernel_rfl
  neB5 := by decide }
theorem repeat_any (s : ByteArray) (c : Nat) (w : World) (hc : c ≤ 9223372036854775807) (hlen : s.size * c ≤ 140737488355328) :
    Calls Try.prog 44 #[.string s, .int .i64 c] w fun e w' => e = .returned (.string ⟨(Lib.repeatL s.data.toList c).toArray⟩) ∧ Below w.heap.size w w' :=
  Any.strings_Repeat Try.laysRepeat Try.repExtra s c w hc hlen
end Go.Proofs.Ytkenhcgdnbgnpaa
