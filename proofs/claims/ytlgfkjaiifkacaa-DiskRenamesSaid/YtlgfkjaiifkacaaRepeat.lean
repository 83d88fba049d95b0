/-
  strings.Repeat at this program: that many copies of a text, one behind the other: the library's contract, laid. Condition: the copies are no longer than memory holds.
-/
import Derived.Shelf.Strings.Repeat
import Derived.KernelRfl
import Derived.Test.YtlgfkjaiifkacaaChecked
namespace Go.Proofs.Ytlgfkjaiifkacaa
open Go Go.Shelf Go.RowKit
def Try.laysRepeat_ren : Go.Shelf.Ren := ⟨fun | 105 => 35 | 212 => 37 | 99 => 38 | 165 => 39 | 166 => 40 | 170 => 41 | 169 => 42 | 263 => 43 | 264 => 44 | 206 => 45 | 240 => 46 | 241 => 47 | 276 => 48 | 277 => 49 | n => n, fun | 9 => 9 | 3 => 3 | 4 => 4 | 20 => 20 | 0 => 0 | 46 => 70 | 109 => 71 | 5 => 5 | 72 => 76 | 76 => 79 | 51 => 82 | 146 => 83 | 53 => 85 | 148 => 86 | 70 => 74 | 37 => 34 | 75 => 78 | 127 => 69 | 164 => 88 | 80 => 81 | n => n, fun | n => n⟩
theorem Try.laysRepeat : Go.Proofs.Lays.n105 Try.prog Try.laysRepeat_ren := {
  mixed := by kernel_rfl
  f99 := Try.func38.trans (congrArg some (by kernel_rfl))
  f105 := Try.func35.trans (congrArg some (by kernel_rfl))
  f165 := Try.func39.trans (congrArg some (by kernel_rfl))
  f166 := Try.func40.trans (congrArg some (by kernel_rfl))
  f169 := Try.func42.trans (congrArg some (by kernel_rfl))
  f170 := Try.func41.trans (congrArg some (by kernel_rfl))
  f206 := Try.func45.trans (congrArg some (by kernel_rfl))
  f212 := Try.func37.trans (congrArg some (by kernel_rfl))
  f240 := Try.func46.trans (congrArg some (by kernel_rfl))
  f241 := Try.func47.trans (congrArg some (by kernel_rfl))
  f263 := Try.func43.trans (congrArg some (by kernel_rfl))
  f264 := Try.func44.trans (congrArg some (by kernel_rfl))
  f276 := Try.func48.trans (congrArg some (by kernel_rfl))
  f277 := Try.func49.trans (congrArg some (by kernel_rfl))
  t0 := Try.underlying0
  a0 := Try.isAgg0
  z0 := Try.sizeOf0
  v0 := Try.zeroValue0
  t3 := Try.underlying3
  a3 := Try.isAgg3
  z3 := Try.sizeOf3
  v3 := Try.zeroValue3
  t4 := Try.underlying4
  a4 := Try.isAgg4
  z4 := Try.sizeOf4
  v4 := Try.zeroValue4
  t5 := Try.underlying5
  a5 := Try.isAgg5
  z5 := Try.sizeOf5
  v5 := Try.zeroValue5
  t9 := Try.underlying9
  a9 := Try.isAgg9
  z9 := Try.sizeOf9
  v9 := Try.zeroValue9
  t20 := Try.underlying20
  a20 := Try.isAgg20
  z20 := Try.sizeOf20
  v20 := Try.zeroValue20
  t37 := Try.underlying34
  a37 := Try.isAgg34
  z37 := Try.sizeOf34
  v37 := Try.zeroValue34
  t46 := Try.underlying70
  a46 := Try.isAgg70
  z46 := Try.sizeOf70
  v46 := Try.zeroValue70
  t51 := Try.underlying82
  a51 := Try.isAgg82
  z51 := Try.sizeOf82
  v51 := Try.zeroValue82
  t53 := Try.underlying85
  a53 := Try.isAgg85
  z53 := Try.sizeOf85
  v53 := Try.zeroValue85
  t70 := Try.underlying74
  a70 := Try.isAgg74
  z70 := Try.sizeOf74
  v70 := Try.zeroValue74
  t72 := Try.underlying76
  a72 := Try.isAgg76
  z72 := Try.sizeOf76
  v72 := Try.zeroValue76
  t75 := Try.underlying78
  a75 := Try.isAgg78
  z75 := Try.sizeOf78
  v75 := Try.zeroValue78
  t76 := Try.underlying79
  a76 := Try.isAgg79
  z76 := Try.sizeOf79
  v76 := Try.zeroValue79
  t109 := Try.underlying71
  a109 := Try.isAgg71
  z109 := Try.sizeOf71
  v109 := Try.zeroValue71
  t127 := Try.underlying69
  a127 := Try.isAgg69
  z127 := Try.sizeOf69
  v127 := Try.zeroValue69
  t146 := Try.underlying83
  a146 := Try.isAgg83
  z146 := Try.sizeOf83
  v146 := Try.zeroValue83
  t148 := Try.underlying86
  a148 := Try.isAgg86
  z148 := Try.sizeOf86
  v148 := Try.zeroValue86
  t164 := Try.underlying88
  a164 := Try.isAgg88
  z164 := Try.sizeOf88
  v164 := Try.zeroValue88 }

theorem Try.repExtra : Builder.Extra Try.prog Try.laysRepeat_ren := {
  sizeBuilder := by kernel_rfl
  liesBuilder := by kernel_rfl
  t5 := Try.laysRepeat.t5
  a5 := Try.laysRepeat.a5
  z5 := Try.laysRepeat.z5
  v5 := Try.laysRepeat.v5
  infoByte := by kernel_rfl
  cellsByte := by kernel_rfl
  sizeByte := by kernel_rfl
  neB5 := by decide }
theorem repeat_any (s : ByteArray) (c : Nat) (w : World) (hc : c ≤ 9223372036854775807) (hlen : s.size * c ≤ 140737488355328) :
    Calls Try.prog 35 #[.string s, .int .i64 c] w fun e w' => e = .returned (.string ⟨(Lib.repeatL s.data.toList c).toArray⟩) ∧ Below w.heap.size w w' :=
  Any.strings_Repeat Try.laysRepeat Try.repExtra s c w hc hlen
end Go.Proofs.Ytlgfkjaiifkacaa
