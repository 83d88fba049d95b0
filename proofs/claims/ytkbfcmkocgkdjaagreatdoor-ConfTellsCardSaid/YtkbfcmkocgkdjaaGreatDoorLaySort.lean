/-
  slices.Sort of ints at this program: the library's contract, laid. Condition: a slice of the call's own.
-/
import Derived.Shelf.Sort.Plain
import Derived.Sort.OwnSortedInts
import Derived.KernelRfl
import Derived.Test.YtkbfcmkocgkdjaaGreatDoorChecked
import Derived.Test.YtkbfcmkocgkdjaaGreatDoorBase
namespace Go.Proofs.YtkbfcmkocgkdjaaGreatDoor
open Go Go.Shelf Go.RowKit
def Tryz.laysSort_ren : Go.Shelf.Ren := ⟨fun | 189 => 34 | 125 => 85 | 257 => 84 | 128 => 121 | 129 => 122 | 294 => 112 | 295 => 113 | 296 => 114 | 297 => 115 | 298 => 116 | 299 => 117 | 216 => 118 | 300 => 119 | 301 => 120 | 328 => 132 | 329 => 133 | 330 => 134 | 331 => 135 | 332 => 136 | 215 => 137 | 343 => 147 | n => n, fun | 28 => 22 | 3 => 3 | 46 => 95 | 0 => 0 | 51 => 150 | 53 => 89 | 4 => 4 | 183 => 142 | 182 => 141 | 131 => 147 | 5 => 5 | 9 => 9 | 218 => 162 | 222 => 166 | 228 => 173 | 229 => 174 | n => n, fun | n => n⟩
theorem Tryz.laysSort : Go.Proofs.Lays.n189 Tryz.prog Tryz.laysSort_ren := {
  mixed := by kernel_rfl
  f125 := Tryz.func85.trans (congrArg some (by kernel_rfl))
  f128 := Tryz.func121.trans (congrArg some (by kernel_rfl))
  f129 := Tryz.func122.trans (congrArg some (by kernel_rfl))
  f189 := Tryz.func34.trans (congrArg some (by kernel_rfl))
  f215 := Tryz.func137.trans (congrArg some (by kernel_rfl))
  f216 := Tryz.func118.trans (congrArg some (by kernel_rfl))
  f257 := Tryz.func84.trans (congrArg some (by kernel_rfl))
  f294 := Tryz.func112.trans (congrArg some (by kernel_rfl))
  f295 := Tryz.func113.trans (congrArg some (by kernel_rfl))
  f296 := Tryz.func114.trans (congrArg some (by kernel_rfl))
  f297 := Tryz.func115.trans (congrArg some (by kernel_rfl))
  f298 := Tryz.func116.trans (congrArg some (by kernel_rfl))
  f299 := Tryz.func117.trans (congrArg some (by kernel_rfl))
  f300 := Tryz.func119.trans (congrArg some (by kernel_rfl))
  f301 := Tryz.func120.trans (congrArg some (by kernel_rfl))
  f328 := Tryz.func132.trans (congrArg some (by kernel_rfl))
  f329 := Tryz.func133.trans (congrArg some (by kernel_rfl))
  f330 := Tryz.func134.trans (congrArg some (by kernel_rfl))
  f331 := Tryz.func135.trans (congrArg some (by kernel_rfl))
  f332 := Tryz.func136.trans (congrArg some (by kernel_rfl))
  f343 := Tryz.func147.trans (congrArg some (by kernel_rfl))
  t0 := Tryz.underlying0
  a0 := Tryz.isAgg0
  z0 := Tryz.sizeOf0
  v0 := Tryz.zeroValue0
  t3 := Tryz.underlying3
  a3 := Tryz.isAgg3
  z3 := Tryz.sizeOf3
  v3 := Tryz.zeroValue3
  t4 := Tryz.underlying4
  a4 := Tryz.isAgg4
  z4 := Tryz.sizeOf4
  v4 := Tryz.zeroValue4
  t5 := Tryz.underlying5
  a5 := Tryz.isAgg5
  z5 := Tryz.sizeOf5
  v5 := Tryz.zeroValue5
  t9 := Tryz.underlying9
  a9 := Tryz.isAgg9
  z9 := Tryz.sizeOf9
  v9 := Tryz.zeroValue9
  t28 := Tryz.underlying22
  a28 := Tryz.isAgg22
  z28 := Tryz.sizeOf22
  v28 := Tryz.zeroValue22
  t46 := Tryz.underlying95
  a46 := Tryz.isAgg95
  z46 := Tryz.sizeOf95
  v46 := Tryz.zeroValue95
  t51 := Tryz.underlying150
  a51 := Tryz.isAgg150
  z51 := Tryz.sizeOf150
  v51 := Tryz.zeroValue150
  t53 := Tryz.underlying89
  a53 := Tryz.isAgg89
  z53 := Tryz.sizeOf89
  v53 := Tryz.zeroValue89
  t131 := Tryz.underlying147
  a131 := Tryz.isAgg147
  z131 := Tryz.sizeOf147
  v131 := Tryz.zeroValue147
  t182 := Tryz.underlying141
  a182 := Tryz.isAgg141
  z182 := Tryz.sizeOf141
  v182 := Tryz.zeroValue141
  t183 := Tryz.underlying142
  a183 := Tryz.isAgg142
  z183 := Tryz.sizeOf142
  v183 := Tryz.zeroValue142
  t218 := Tryz.underlying162
  a218 := Tryz.isAgg162
  z218 := Tryz.sizeOf162
  v218 := Tryz.zeroValue162
  t222 := Tryz.underlying166
  a222 := Tryz.isAgg166
  z222 := Tryz.sizeOf166
  v222 := Tryz.zeroValue166
  t228 := Tryz.underlying173
  a228 := Tryz.isAgg173
  z228 := Tryz.sizeOf173
  v228 := Tryz.zeroValue173
  t229 := Tryz.underlying174
  a229 := Tryz.isAgg174
  z229 := Tryz.sizeOf174
  v229 := Tryz.zeroValue174 }

theorem sortI_any (base g cap n : Nat) (zs : List Int) (w : World) (hn : zs.length = n) (ho : w.ownsRow base 3 1 (.slice (some ⟨g, 0, none⟩) n cap) n (zs.map (Value.int .i64))) (hsz : n < 4611686018427387904) :
    Calls Tryz.prog 34 #[.slice (some ⟨g, 0, none⟩) n cap] w fun e w' => e = .returned (.tuple #[]) ∧ w'.ownsRow base 3 1 (.slice (some ⟨g, 0, none⟩) n cap) n ((zs.mergeSort fun x y => decide (x ≤ y)).map (Value.int .i64)) ∧ w.grownBy w' (some g) := by
  subst hn
  rcases ho.2 with ⟨e1, _⟩ | ⟨g1, c1, cur, e1, hbg, hg, hnc, hcm, hcs, ht⟩
  · cases e1
  · have e4 : g = g1 := by injection e1 with e1; injection e1 with e1; injection e1
    have e5 : cap = c1 := by injection e1
    subst e4 e5
    rw [Nat.mul_one] at ht
    have hH := holds_of_blockI (ss := zs) hg ht
    refine (Any.slices_Sort_int Tryz.laysSort g 0 cap zs w hH (Array.getElem?_eq_some_iff.1 hg).1 hsz).mono ?_
    rintro e w' ⟨he, k, os, hw⟩
    subst hw
    exact ⟨he, ownsRow_sortedI (by simp) hbg hg hnc hcm hcs, grownBy_sortedI _⟩
end Go.Proofs.YtkbfcmkocgkdjaaGreatDoor
