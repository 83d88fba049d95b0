/-
  slices.Sort of ints at this program: the library's contract, laid. Condition: a slice of the call's own.
-/
import Derived.Shelf.Sort.Plain
import Derived.Sort.OwnSortedInts
import Derived.KernelRfl
import Derived.Test.YtdpgeoiehbijlaaGreatChecked
import Derived.Test.YtdpgeoiehbijlaaGreatOne
namespace Go.Proofs.YtdpgeoiehbijlaaGreat
open Go Go.Shelf Go.RowKit
def Tryz.laysSort_ren : Go.Shelf.Ren := ⟨fun | 189 => 35 | 125 => 80 | 257 => 79 | 128 => 109 | 129 => 110 | 294 => 100 | 295 => 101 | 296 => 102 | 297 => 103 | 298 => 104 | 299 => 105 | 216 => 106 | 300 => 107 | 301 => 108 | 328 => 112 | 329 => 113 | 330 => 114 | 331 => 115 | 332 => 116 | 215 => 117 | 343 => 118 | n => n, fun | 28 => 22 | 3 => 3 | 46 => 98 | 0 => 0 | 51 => 152 | 53 => 154 | 4 => 4 | 183 => 144 | 182 => 143 | 131 => 149 | 5 => 5 | 9 => 9 | 218 => 156 | 222 => 160 | 228 => 163 | 229 => 164 | n => n, fun | n => n⟩
theorem Tryz.laysSort : Go.Proofs.Lays.n189 Tryz.prog Tryz.laysSort_ren := {
  mixed := by kernel_rfl
  f125 := Tryz.func80.trans (congrArg some (by kernel_rfl))
  f128 := Tryz.func109.trans (congrArg some (by kernel_rfl))
  f129 := Tryz.func110.trans (congrArg some (by kernel_rfl))
  f189 := Tryz.func35.trans (congrArg some (by kernel_rfl))
  f215 := Tryz.func117.trans (congrArg some (by kernel_rfl))
  f216 := Tryz.func106.trans (congrArg some (by kernel_rfl))
  f257 := Tryz.func79.trans (congrArg some (by kernel_rfl))
  f294 := Tryz.func100.trans (congrArg some (by kernel_rfl))
  f295 := Tryz.func101.trans (congrArg some (by kernel_rfl))
  f296 := Tryz.func102.trans (congrArg some (by kernel_rfl))
  f297 := Tryz.func103.trans (congrArg some (by kernel_rfl))
  f298 := Tryz.func104.trans (congrArg some (by kernel_rfl))
  f299 := Tryz.func105.trans (congrArg some (by kernel_rfl))
  f300 := Tryz.func107.trans (congrArg some (by kernel_rfl))
  f301 := Tryz.func108.trans (congrArg some (by kernel_rfl))
  f328 := Tryz.func112.trans (congrArg some (by kernel_rfl))
  f329 := Tryz.func113.trans (congrArg some (by kernel_rfl))
  f330 := Tryz.func114.trans (congrArg some (by kernel_rfl))
  f331 := Tryz.func115.trans (congrArg some (by kernel_rfl))
  f332 := Tryz.func116.trans (congrArg some (by kernel_rfl))
  f343 := Tryz.func118.trans (congrArg some (by kernel_rfl))
  t0 := Tryz.underlying0
  a0 := Tryz.isAgg0
  z0 := Tryz.sizeOf0
  v0 := Tryz.zeroValue0
  t3 := Tryz.underlying3
  a3 := Tryz.isAgg3
  z3 := Tryz.sizeOf3
  v3 := Tryz.zeroValue3
  t4 := Tryz.underlying4
  a4 := Tryz.isAgg4
  z4 := Tryz.sizeOf4
  v4 := Tryz.zeroValue4
  t5 := Tryz.underlying5
  a5 := Tryz.isAgg5
  z5 := Tryz.sizeOf5
  v5 := Tryz.zeroValue5
  t9 := Tryz.underlying9
  a9 := Tryz.isAgg9
  z9 := Tryz.sizeOf9
  v9 := Tryz.zeroValue9
  t28 := Tryz.underlying22
  a28 := Tryz.isAgg22
  z28 := Tryz.sizeOf22
  v28 := Tryz.zeroValue22
  t46 := Tryz.underlying98
  a46 := Tryz.isAgg98
  z46 := Tryz.sizeOf98
  v46 := Tryz.zeroValue98
  t51 := Tryz.underlying152
  a51 := Tryz.isAgg152
  z51 := Tryz.sizeOf152
  v51 := Tryz.zeroValue152
  t53 := Tryz.underlying154
  a53 := Tryz.isAgg154
  z53 := Tryz.sizeOf154
  v53 := Tryz.zeroValue154
  t131 := Tryz.underlying149
  a131 := Tryz.isAgg149
  z131 := Tryz.sizeOf149
  v131 := Tryz.zeroValue149
  t182 := Tryz.underlying143
  a182 := Tryz.isAgg143
  z182 := Tryz.sizeOf143
  v182 := Tryz.zeroValue143
  t183 := Tryz.underlying144
  a183 := Tryz.isAgg144
  z183 := Tryz.sizeOf144
  v183 := Tryz.zeroValue144
  t218 := Tryz.underlying156
  a218 := Tryz.isAgg156
  z218 := Tryz.sizeOf156
  v218 := Tryz.zeroValue156
  t222 := Tryz.underlying160
  a222 := Tryz.isAgg160
  z222 := Tryz.sizeOf160
  v222 := Tryz.zeroValue160
  t228 := Tryz.underlying163
  a228 := Tryz.isAgg163
  z228 := Tryz.sizeOf163
  v228 := Tryz.zeroValue163
  t229 := Tryz.underlying164
  a229 := Tryz.isAgg164
  z229 := Tryz.sizeOf164
  v229 := Tryz.zeroValue164 }

theorem sortI_any (base g cap n : Nat) (zs : List Int) (w : World) (hn : zs.length = n) (ho : w.ownsRow base 3 1 (.slice (some ⟨g, 0, none⟩) n cap) n (zs.map (Value.int .i64))) (hsz : n < 4611686018427387904) :
    Calls Tryz.prog 35 #[.slice (some ⟨g, 0, none⟩) n cap] w fun e w' => e = .returned (.tuple #[]) ∧ w'.ownsRow base 3 1 (.slice (some ⟨g, 0, none⟩) n cap) n ((zs.mergeSort fun x y => decide (x ≤ y)).map (Value.int .i64)) ∧ w.grownBy w' (some g) := by
  subst hn
  rcases ho.2 with ⟨e1, _⟩ | ⟨g1, c1, cur, e1, hbg, hg, hnc, hcm, hcs, ht⟩
  · cases e1
  · have e4 : g = g1 := by injection e1 with e1; injection e1 with e1; injection e1
    have e5 : cap = c1 := by injection e1
    subst e4 e5
    rw [Nat.mul_one] at ht
    have hH := holds_of_blockI (ss := zs) hg ht
    refine (Any.slices_Sort_int Tryz.laysSort g 0 cap zs w hH (Array.getElem?_eq_some_iff.1 hg).1 hsz).mono ?_
    rintro e w' ⟨he, k, os, hw⟩
    subst hw
    exact ⟨he, ownsRow_sortedI (by simp) hbg hg hnc hcm hcs, grownBy_sortedI _⟩
end Go.Proofs.YtdpgeoiehbijlaaGreat
