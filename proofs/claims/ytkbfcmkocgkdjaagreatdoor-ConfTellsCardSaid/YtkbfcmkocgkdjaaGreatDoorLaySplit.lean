/-
  strings.Split at this program: the library's contract, laid. Condition: the library's own variable holds some number.
-/
import Derived.Shelf.Strings.SplitShaped
import Derived.KernelRfl
import Derived.Test.YtkbfcmkocgkdjaaGreatDoorChecked
import Derived.Test.YtkbfcmkocgkdjaaGreatDoorBase
namespace Go.Proofs.YtkbfcmkocgkdjaaGreatDoor
open Go Go.Shelf Go.RowKit
def Tryz.laysSplit_ren : Go.Shelf.Ren := ⟨fun | 146 => 31 | 221 => 82 | 268 => 108 | 138 => 109 | 143 => 110 | 195 => 127 | 197 => 128 | 218 => 129 | 219 => 130 | 260 => 142 | 217 => 143 | 225 => 144 | 224 => 145 | 267 => 146 | 266 => 152 | 314 => 153 | n => n, fun | 9 => 9 | 31 => 51 | 3 => 3 | 4 => 4 | 0 => 0 | 105 => 158 | 21 => 21 | 5 => 5 | 46 => 95 | 119 => 179 | 139 => 182 | 138 => 181 | 146 => 183 | 51 => 150 | n => n, fun | 1 => 0 | 3 => 2 | 4 => 3 | n => n⟩
theorem Tryz.laysSplit : Go.Proofs.LaysM.n146 Tryz.prog Tryz.laysSplit_ren := {
  mixed := by kernel_rfl
  f138 := Tryz.func109.trans (congrArg some (by kernel_rfl))
  f143 := Tryz.func110.trans (congrArg some (by kernel_rfl))
  f146 := Tryz.func31.trans (congrArg some (by kernel_rfl))
  f195 := Tryz.func127.trans (congrArg some (by kernel_rfl))
  f197 := Tryz.func128.trans (congrArg some (by kernel_rfl))
  f217 := Tryz.func143.trans (congrArg some (by kernel_rfl))
  f218 := Tryz.func129.trans (congrArg some (by kernel_rfl))
  f219 := Tryz.func130.trans (congrArg some (by kernel_rfl))
  f221 := Tryz.func82.trans (congrArg some (by kernel_rfl))
  f224 := Tryz.func145.trans (congrArg some (by kernel_rfl))
  f225 := Tryz.func144.trans (congrArg some (by kernel_rfl))
  f260 := Tryz.func142.trans (congrArg some (by kernel_rfl))
  f266 := Tryz.func152.trans (congrArg some (by kernel_rfl))
  f267 := Tryz.func146.trans (congrArg some (by kernel_rfl))
  f268 := Tryz.func108.trans (congrArg some (by kernel_rfl))
  f314 := Tryz.func153.trans (congrArg some (by kernel_rfl))
  t0 := Tryz.underlying0
  a0 := Tryz.isAgg0
  z0 := Tryz.sizeOf0
  v0 := Tryz.zeroValue0
  t3 := Tryz.underlying3
  a3 := Tryz.isAgg3
  z3 := Tryz.sizeOf3
  v3 := Tryz.zeroValue3
  t4 := Tryz.underlying4
  a4 := Tryz.isAgg4
  z4 := Tryz.sizeOf4
  v4 := Tryz.zeroValue4
  t5 := Tryz.underlying5
  a5 := Tryz.isAgg5
  z5 := Tryz.sizeOf5
  v5 := Tryz.zeroValue5
  t9 := Tryz.underlying9
  a9 := Tryz.isAgg9
  z9 := Tryz.sizeOf9
  v9 := Tryz.zeroValue9
  t21 := Tryz.underlying21
  a21 := Tryz.isAgg21
  z21 := Tryz.sizeOf21
  v21 := Tryz.zeroValue21
  t31 := Tryz.underlying51
  a31 := Tryz.isAgg51
  z31 := Tryz.sizeOf51
  v31 := Tryz.zeroValue51
  t46 := Tryz.underlying95
  a46 := Tryz.isAgg95
  z46 := Tryz.sizeOf95
  v46 := Tryz.zeroValue95
  t51 := Tryz.underlying150
  a51 := Tryz.isAgg150
  z51 := Tryz.sizeOf150
  v51 := Tryz.zeroValue150
  t105 := Tryz.underlying158
  a105 := Tryz.isAgg158
  z105 := Tryz.sizeOf158
  v105 := Tryz.zeroValue158
  t119 := Tryz.underlying179
  a119 := Tryz.isAgg179
  z119 := Tryz.sizeOf179
  t138 := Tryz.underlying181
  a138 := Tryz.isAgg181
  z138 := Tryz.sizeOf181
  v138 := Tryz.zeroValue181
  t139 := Tryz.underlying182
  a139 := Tryz.isAgg182
  z139 := Tryz.sizeOf182
  v139 := Tryz.zeroValue182
  t146 := Tryz.underlying183
  a146 := Tryz.isAgg183
  z146 := Tryz.sizeOf183
  v146 := Tryz.zeroValue183
  g1 := by kernel_rfl
  g3 := by kernel_rfl
  g4 := by kernel_rfl
  i0 := by kernel_rfl
  i3 := by kernel_rfl
  i4 := by kernel_rfl
  i5 := by kernel_rfl
  i9 := by kernel_rfl
  i21 := by kernel_rfl
  i31 := by kernel_rfl
  i46 := by kernel_rfl
  i51 := by kernel_rfl
  i105 := by kernel_rfl
  i138 := by kernel_rfl
  i139 := by kernel_rfl
  i146 := by kernel_rfl
  m1 := by kernel_rfl
  s1_3 := fun w h => Go.Proofs.cell_of_shapedOpen_int (zero := #[.int .i64 0]) (t := 3) h (of_decide_eq_true (by kernel_rfl)) (by kernel_rfl) rfl (by kernel_rfl) (by kernel_rfl) Tryz.underlying3
  m3 := by kernel_rfl
  m4 := by kernel_rfl }

/-- The library's own variable holds some number. -/
def MaxIs (w : World) : Prop := ∃ m, w.cell? ⟨Tryz.laysSplit_ren.g 1, 0, none⟩ = some (.int .i64 m)
theorem maxIs_open {w : World} (h : w.ShapedOpen Tryz.prog) : MaxIs w := Tryz.laysSplit.s1_3 w h
theorem maxIs_below {w w' : World} (h : MaxIs w) (hb : Below w.heap.size w w') : MaxIs w' := by
  obtain ⟨m, hm⟩ := h
  exact ⟨m, (hb.cell (block_lt_of_cell hm)).trans hm⟩
theorem split_any (s sep : ByteArray) (w : World) (h : MaxIs w) (hs : s.size < 4294967281) (h1 : 1 ≤ sep.size) :
    Calls Tryz.prog 31 #[.string s, .string sep] w fun e w' => e = .returned (.slice (some ⟨w.heap.size, 0, none⟩) (Lib.countB s sep + 1) (Lib.countB s sep + 1)) ∧ w' = w.alloc (.cells ((Lib.splitB sep 0 (Lib.countB s sep) s).map Value.string).toArray 9) := by
  obtain ⟨m, hm⟩ := h
  exact Any.strings_Split { Tryz.laysSplit with } Tryz.laysSplit.i9 s sep m w hs hm h1
end Go.Proofs.YtkbfcmkocgkdjaaGreatDoor
