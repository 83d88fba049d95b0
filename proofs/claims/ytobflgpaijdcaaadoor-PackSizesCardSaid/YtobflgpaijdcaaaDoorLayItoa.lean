/-
  strconv.Itoa at this program: the library's contract, laid. Condition: the library's table of powers of ten is as its text lays it.
-/
import Derived.Shelf.Strconv.Itoa3
import Derived.KernelRfl
import Derived.Test.YtobflgpaijdcaaaDoorChecked
import Derived.Test.YtobflgpaijdcaaaDoorBase
namespace Go.Proofs.YtobflgpaijdcaaaDoor
open Go Go.Shelf Go.RowKit
def Tryd.laysItoa_ren : Go.Shelf.Ren := ⟨fun | 171 => 61 | 243 => 72 | 246 => 82 | 283 => 99 | 284 => 100 | 285 => 101 | 286 => 102 | 129 => 93 | 317 => 115 | 318 => 116 | 319 => 117 | 320 => 118 | 337 => 125 | 338 => 126 | n => n, fun | 3 => 3 | 9 => 9 | 2 => 2 | 4 => 4 | 171 => 116 | 0 => 0 | 53 => 52 | 37 => 40 | 5 => 5 | 173 => 118 | 212 => 134 | 51 => 112 | 20 => 20 | 213 => 135 | 46 => 88 | 232 => 145 | 233 => 146 | n => n, fun | 17 => 0 | 18 => 4 | 19 => 5 | n => n⟩
theorem Tryd.laysItoa : Go.Proofs.LaysM.n171 Tryd.prog Tryd.laysItoa_ren := {
  mixed := by kernel_rfl
  f129 := Tryd.func93.trans (congrArg some (by kernel_rfl))
  f171 := Tryd.func61.trans (congrArg some (by kernel_rfl))
  f243 := Tryd.func72.trans (congrArg some (by kernel_rfl))
  f246 := Tryd.func82.trans (congrArg some (by kernel_rfl))
  f283 := Tryd.func99.trans (congrArg some (by kernel_rfl))
  f284 := Tryd.func100.trans (congrArg some (by kernel_rfl))
  f285 := Tryd.func101.trans (congrArg some (by kernel_rfl))
  f286 := Tryd.func102.trans (congrArg some (by kernel_rfl))
  f317 := Tryd.func115.trans (congrArg some (by kernel_rfl))
  f318 := Tryd.func116.trans (congrArg some (by kernel_rfl))
  f319 := Tryd.func117.trans (congrArg some (by kernel_rfl))
  f320 := Tryd.func118.trans (congrArg some (by kernel_rfl))
  f337 := Tryd.func125.trans (congrArg some (by kernel_rfl))
  f338 := Tryd.func126.trans (congrArg some (by kernel_rfl))
  t0 := Tryd.underlying0
  a0 := Tryd.isAgg0
  z0 := Tryd.sizeOf0
  v0 := Tryd.zeroValue0
  t2 := Tryd.underlying2
  a2 := Tryd.isAgg2
  z2 := Tryd.sizeOf2
  v2 := Tryd.zeroValue2
  t3 := Tryd.underlying3
  a3 := Tryd.isAgg3
  z3 := Tryd.sizeOf3
  v3 := Tryd.zeroValue3
  t4 := Tryd.underlying4
  a4 := Tryd.isAgg4
  z4 := Tryd.sizeOf4
  v4 := Tryd.zeroValue4
  t5 := Tryd.underlying5
  a5 := Tryd.isAgg5
  z5 := Tryd.sizeOf5
  v5 := Tryd.zeroValue5
  t9 := Tryd.underlying9
  a9 := Tryd.isAgg9
  z9 := Tryd.sizeOf9
  v9 := Tryd.zeroValue9
  t20 := Tryd.underlying20
  a20 := Tryd.isAgg20
  z20 := Tryd.sizeOf20
  v20 := Tryd.zeroValue20
  t37 := Tryd.underlying40
  a37 := Tryd.isAgg40
  z37 := Tryd.sizeOf40
  v37 := Tryd.zeroValue40
  t46 := Tryd.underlying88
  a46 := Tryd.isAgg88
  z46 := Tryd.sizeOf88
  v46 := Tryd.zeroValue88
  t51 := Tryd.underlying112
  a51 := Tryd.isAgg112
  z51 := Tryd.sizeOf112
  v51 := Tryd.zeroValue112
  t53 := Tryd.underlying52
  a53 := Tryd.isAgg52
  z53 := Tryd.sizeOf52
  v53 := Tryd.zeroValue52
  t171 := Tryd.underlying116
  a171 := Tryd.isAgg116
  z171 := Tryd.sizeOf116
  v171 := Tryd.zeroValue116
  t173 := Tryd.underlying118
  a173 := Tryd.isAgg118
  z173 := Tryd.sizeOf118
  v173 := Tryd.zeroValue118
  t212 := Tryd.underlying134
  a212 := Tryd.isAgg134
  z212 := Tryd.sizeOf134
  v212 := Tryd.zeroValue134
  t213 := Tryd.underlying135
  a213 := Tryd.isAgg135
  z213 := Tryd.sizeOf135
  t232 := Tryd.underlying145
  a232 := Tryd.isAgg145
  z232 := Tryd.sizeOf145
  v232 := Tryd.zeroValue145
  t233 := Tryd.underlying146
  a233 := Tryd.isAgg146
  z233 := Tryd.sizeOf146
  v233 := Tryd.zeroValue146
  g17 := by kernel_rfl
  g18 := by kernel_rfl
  g19 := by kernel_rfl
  i0 := by kernel_rfl
  i2 := by kernel_rfl
  i3 := by kernel_rfl
  i4 := by kernel_rfl
  i5 := by kernel_rfl
  i9 := by kernel_rfl
  i20 := by kernel_rfl
  i37 := by kernel_rfl
  i46 := by kernel_rfl
  i51 := by kernel_rfl
  i53 := by kernel_rfl
  i171 := by kernel_rfl
  i173 := by kernel_rfl
  i212 := by kernel_rfl
  i232 := by kernel_rfl
  i233 := by kernel_rfl
  m17 := by kernel_rfl
  m18 := by kernel_rfl
  m19 := by kernel_rfl }

theorem below_grow (w : World) (os : Array Obj) {B : Nat} (hB : B ≤ w.heap.size) : Below B w (Sort.grow w os) :=
  ⟨rfl, rfl, rfl, by simp, fun k hk => Sort.heap_grow_old w os (by omega)⟩
theorem tabIs_below {P : Program} {w w' : World} {name : String} {k : IntKind} {zs : List Int} (h : Lib.TabIs P w name k zs) (hb : Below w.heap.size w w') : Lib.TabIs P w' name k zs := by
  unfold Lib.TabIs World.var? at *
  cases hg : P.globalNamed name with
  | none => simp [hg] at h
  | some g =>
    simp only [hg, Option.bind_some] at h ⊢
    have hlt : g < w.heap.size := by
      rcases Nat.lt_or_ge g w.heap.size with h' | h'
      · exact h'
      · rw [Array.getElem?_eq_none h'] at h; simp at h
    rw [hb.block g hlt]
    exact h
theorem itoa_any (v : Int) (h0 : -9223372036854775808 ≤ v) (h1 : v ≤ 9223372036854775807) (w : World) (ht : Lib.TabIs Tryd.prog w "internal/strconv.uint64pow10" .u64 Lib.pow10Tab) :
    Calls Tryd.prog 61 #[.int .i64 v] w fun e w' => e = .returned (.string ⟨(Lib.itoa v).toArray⟩) ∧ Below w.heap.size w w' :=
  (Any.strconv_Itoa Tryd.laysItoa v h0 h1 w ht).mono fun e w' ⟨h1, k, os, h2⟩ => ⟨h1, by rw [h2]; exact (below_drewN (Below.refl _ w) k).trans (below_grow (w.drewN k) os (Nat.le_refl _))⟩
end Go.Proofs.YtobflgpaijdcaaaDoor
