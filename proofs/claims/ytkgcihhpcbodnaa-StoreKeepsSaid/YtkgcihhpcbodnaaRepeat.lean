/-
  strings.Repeat at this program: that many copies of a text, one behind the other: the library's contract, laid. Condition: the copies are no longer than memory holds.
-/
import Derived.Shelf.Strings.Repeat
import Derived.KernelRfl
import Derived.Test.YtkgcihhpcbodnaaChecked
namespace Go.Proofs.Ytkgcihhpcbodnaa
open Go Go.Shelf Go.RowKit
def Try.laysRepeat_ren : Go.Shelf.Ren := ⟨fun | 105 => 48 | 212 => 65 | 99 => 66 | 165 => 67 | 166 => 68 | 170 => 69 | 169 => 70 | 263 => 81 | 264 => 82 | 206 => 83 | 240 => 84 | 241 => 85 | 276 => 87 | 277 => 88 | n => n, fun | 9 => 9 | 3 => 3 | 4 => 4 | 20 => 20 | 0 => 0 | 46 => 116 | 109 => 117 | 5 => 5 | 72 => 122 | 76 => 125 | 51 => 110 | 146 => 137 | 53 => 107 | 148 => 139 | 70 => 120 | 37 => 98 | 75 => 124 | 127 => 115 | 164 => 142 | 80 => 43 | n => n, fun | n => n⟩
theorem Try.laysRepeat : Go.Proofs.Lays.n105 Try.prog Try.laysRepeat_ren := {
  mixed := by kernel_rfl
  f99 := Try.func66.trans (congrArg some (by kernel_rfl))
  f105 := Try.func48.trans (congrArg some (by kernel_rfl))
  f165 := Try.func67.trans (congrArg some (by kernel_rfl))
  f166 := Try.func68.trans (congrArg some (by kernel_rfl))
  f169 := Try.func70.trans (congrArg some (by kernel_rfl))
  f170 := Try.func69.trans (congrArg some (by kernel_rfl))
  f206 := Try.func83.trans (congrArg some (by kernel_rfl))
  f212 := Try.func65.trans (congrArg some (by kernel_rfl))
  f240 := Try.func84.trans (congrArg some (by kernel_rfl))
  f241 := Try.func85.trans (congrArg some (by kernel_rfl))
  f263 := Try.func81.trans (congrArg some (by kernel_rfl))
  f264 := Try.func82.trans (congrArg some (by kernel_rfl))
  f276 := Try.func87.trans (congrArg some (by kernel_rfl))
  f277 := Try.func88.trans (congrArg some (by kernel_rfl))
  t0 := Try.underlying0
  a0 := Try.isAgg0
  z0 := Try.sizeOf0
  v0 := Try.zeroValue0
  t3 := Try.underlying3
  a3 := Try.isAgg3
  z3 := Try.sizeOf3
  v3 := Try.zeroValue3
  t4 := Try.underlying4
  a4 := Try.isAgg4
  z4 := Try.sizeOf4
  v4 := Try.zeroValue4
  t5 := Try.underlying5
  a5 := Try.isAgg5
  z5 := Try.sizeOf5
  v5 := Try.zeroValue5
  t9 := Try.underlying9
  a9 := Try.isAgg9
  z9 := Try.sizeOf9
  v9 := Try.zeroValue9
  t20 := Try.underlying20
  a20 := Try.isAgg20
  z20 := Try.sizeOf20
  v20 := Try.zeroValue20
  t37 := Try.underlying98
  a37 := Try.isAgg98
  z37 := Try.sizeOf98
  v37 := Try.zeroValue98
  t46 := Try.underlying116
  a46 := Try.isAgg116
  z46 := Try.sizeOf116
  v46 := Try.zeroValue116
  t51 := Try.underlying110
  a51 := Try.isAgg110
  z51 := Try.sizeOf110
  v51 := Try.zeroValue110
  t53 := Try.underlying107
  a53 := Try.isAgg107
  z53 := Try.sizeOf107
  v53 := Try.zeroValue107
  t70 := Try.underlying120
  a70 := Try.isAgg120
  z70 := Try.sizeOf120
  v70 := Try.zeroValue120
  t72 := Try.underlying122
  a72 := Try.isAgg122
  z72 := Try.sizeOf122
  v72 := Try.zeroValue122
  t75 := Try.underlying124
  a75 := Try.isAgg124
  z75 := Try.sizeOf124
  v75 := Try.zeroValue124
  t76 := Try.underlying125
  a76 := Try.isAgg125
  z76 := Try.sizeOf125
  v76 := Try.zeroValue125
  t109 := Try.underlying117
  a109 := Try.isAgg117
  z109 := Try.sizeOf117
  v109 := Try.zeroValue117
  t127 := Try.underlying115
  a127 := Try.isAgg115
  z127 := Try.sizeOf115
  v127 := Try.zeroValue115
  t146 := Try.underlying137
  a146 := Try.isAgg137
  z146 := Try.sizeOf137
  v146 := Try.zeroValue137
  t148 := Try.underlying139
  a148 := Try.isAgg139
  z148 := Try.sizeOf139
  v148 := Try.zeroValue139
  t164 := Try.underlying142
  a164 := Try.isAgg142
  z164 := Try.sizeOf142
  v164 := Try.zeroValue142 }

theorem Try.repExtra : Builder.Extra Try.prog Try.laysRepeat_ren := {
  sizeBuilder := by kernel_rfl
  liesBuilder := by kernel_rfl
  t5 := Try.laysRepeat.t5
  a5 := Try.laysRepeat.a5
  z5 := Try.laysRepeat.z5
  v5 := Try.laysRepeat.v5
  infoByte := by kernel_rfl
  cellsByte := by kernel_rfl
  sizeByte := by kernel_rfl
  neB5 := by decide }
theorem repeat_any (s : ByteArray) (c : Nat) (w : World) (hc : c ≤ 9223372036854775807) (hlen : s.size * c ≤ 140737488355328) :
    Calls Try.prog 48 #[.string s, .int .i64 c] w fun e w' => e = .returned (.string ⟨(Lib.repeatL s.data.toList c).toArray⟩) ∧ Below w.heap.size w w' :=
  Any.strings_Repeat Try.laysRepeat Try.repExtra s c w hc hlen
end Go.Proofs.Ytkgcihhpcbodnaa
