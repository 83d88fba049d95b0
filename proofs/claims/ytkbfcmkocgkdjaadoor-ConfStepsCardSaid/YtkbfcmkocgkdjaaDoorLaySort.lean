/-
  slices.Sort of ints at this program: the library's contract, laid. Condition: a slice of the call's own.
-/
import Derived.Shelf.Sort.Plain
import Derived.Sort.OwnSortedInts
import Derived.KernelRfl
import Derived.Test.YtkbfcmkocgkdjaaDoorChecked
import Derived.Test.YtkbfcmkocgkdjaaDoorBase
namespace Go.Proofs.YtkbfcmkocgkdjaaDoor
open Go Go.Shelf Go.RowKit
def Tryd.laysSort_ren : Go.Shelf.Ren := ⟨fun | 189 => 17 | 125 => 27 | 257 => 26 | 128 => 44 | 129 => 45 | 294 => 35 | 295 => 36 | 296 => 37 | 297 => 38 | 298 => 39 | 299 => 40 | 216 => 41 | 300 => 42 | 301 => 43 | 328 => 53 | 329 => 54 | 330 => 55 | 331 => 56 | 332 => 57 | 215 => 58 | 343 => 67 | n => n, fun | 28 => 22 | 3 => 3 | 46 => 49 | 0 => 0 | 51 => 74 | 53 => 76 | 4 => 4 | 183 => 66 | 182 => 65 | 131 => 71 | 5 => 5 | 9 => 9 | 218 => 80 | 222 => 84 | 228 => 95 | 229 => 96 | n => n, fun | n => n⟩
theorem Tryd.laysSort : Go.Proofs.Lays.n189 Tryd.prog Tryd.laysSort_ren := {
  mixed := by kernel_rfl
  f125 := Tryd.func27.trans (congrArg some (by kernel_rfl))
  f128 := Tryd.func44.trans (congrArg some (by kernel_rfl))
  f129 := Tryd.func45.trans (congrArg some (by kernel_rfl))
  f189 := Tryd.func17.trans (congrArg some (by kernel_rfl))
  f215 := Tryd.func58.trans (congrArg some (by kernel_rfl))
  f216 := Tryd.func41.trans (congrArg some (by kernel_rfl))
  f257 := Tryd.func26.trans (congrArg some (by kernel_rfl))
  f294 := Tryd.func35.trans (congrArg some (by kernel_rfl))
  f295 := Tryd.func36.trans (congrArg some (by kernel_rfl))
  f296 := Tryd.func37.trans (congrArg some (by kernel_rfl))
  f297 := Tryd.func38.trans (congrArg some (by kernel_rfl))
  f298 := Tryd.func39.trans (congrArg some (by kernel_rfl))
  f299 := Tryd.func40.trans (congrArg some (by kernel_rfl))
  f300 := Tryd.func42.trans (congrArg some (by kernel_rfl))
  f301 := Tryd.func43.trans (congrArg some (by kernel_rfl))
  f328 := Tryd.func53.trans (congrArg some (by kernel_rfl))
  f329 := Tryd.func54.trans (congrArg some (by kernel_rfl))
  f330 := Tryd.func55.trans (congrArg some (by kernel_rfl))
  f331 := Tryd.func56.trans (congrArg some (by kernel_rfl))
  f332 := Tryd.func57.trans (congrArg some (by kernel_rfl))
  f343 := Tryd.func67.trans (congrArg some (by kernel_rfl))
  t0 := Tryd.underlying0
  a0 := Tryd.isAgg0
  z0 := Tryd.sizeOf0
  v0 := Tryd.zeroValue0
  t3 := Tryd.underlying3
  a3 := Tryd.isAgg3
  z3 := Tryd.sizeOf3
  v3 := Tryd.zeroValue3
  t4 := Tryd.underlying4
  a4 := Tryd.isAgg4
  z4 := Tryd.sizeOf4
  v4 := Tryd.zeroValue4
  t5 := Tryd.underlying5
  a5 := Tryd.isAgg5
  z5 := Tryd.sizeOf5
  v5 := Tryd.zeroValue5
  t9 := Tryd.underlying9
  a9 := Tryd.isAgg9
  z9 := Tryd.sizeOf9
  v9 := Tryd.zeroValue9
  t28 := Tryd.underlying22
  a28 := Tryd.isAgg22
  z28 := Tryd.sizeOf22
  v28 := Tryd.zeroValue22
  t46 := Tryd.underlying49
  a46 := Tryd.isAgg49
  z46 := Tryd.sizeOf49
  v46 := Tryd.zeroValue49
  t51 := Tryd.underlying74
  a51 := Tryd.isAgg74
  z51 := Tryd.sizeOf74
  v51 := Tryd.zeroValue74
  t53 := Tryd.underlying76
  a53 := Tryd.isAgg76
  z53 := Tryd.sizeOf76
  v53 := Tryd.zeroValue76
  t131 := Tryd.underlying71
  a131 := Tryd.isAgg71
  z131 := Tryd.sizeOf71
  v131 := Tryd.zeroValue71
  t182 := Tryd.underlying65
  a182 := Tryd.isAgg65
  z182 := Tryd.sizeOf65
  v182 := Tryd.zeroValue65
  t183 := Tryd.underlying66
  a183 := Tryd.isAgg66
  z183 := Tryd.sizeOf66
  v183 := Tryd.zeroValue66
  t218 := Tryd.underlying80
  a218 := Tryd.isAgg80
  z218 := Tryd.sizeOf80
  v218 := Tryd.zeroValue80
  t222 := Tryd.underlying84
  a222 := Tryd.isAgg84
  z222 := Tryd.sizeOf84
  v222 := Tryd.zeroValue84
  t228 := Tryd.underlying95
  a228 := Tryd.isAgg95
  z228 := Tryd.sizeOf95
  v228 := Tryd.zeroValue95
  t229 := Tryd.underlying96
  a229 := Tryd.isAgg96
  z229 := Tryd.sizeOf96
  v229 := Tryd.zeroValue96 }

theorem sortI_any (base g cap n : Nat) (zs : List Int) (w : World) (hn : zs.length = n) (ho : w.ownsRow base 3 1 (.slice (some ⟨g, 0, none⟩) n cap) n (zs.map (Value.int .i64))) (hsz : n < 4611686018427387904) :
    Calls Tryd.prog 17 #[.slice (some ⟨g, 0, none⟩) n cap] w fun e w' => e = .returned (.tuple #[]) ∧ w'.ownsRow base 3 1 (.slice (some ⟨g, 0, none⟩) n cap) n ((zs.mergeSort fun x y => decide (x ≤ y)).map (Value.int .i64)) ∧ w.grownBy w' (some g) := by
  subst hn
  rcases ho.2 with ⟨e1, _⟩ | ⟨g1, c1, cur, e1, hbg, hg, hnc, hcm, hcs, ht⟩
  · cases e1
  · have e4 : g = g1 := by injection e1 with e1; injection e1 with e1; injection e1
    have e5 : cap = c1 := by injection e1
    subst e4 e5
    rw [Nat.mul_one] at ht
    have hH := holds_of_blockI (ss := zs) hg ht
    refine (Any.slices_Sort_int Tryd.laysSort g 0 cap zs w hH (Array.getElem?_eq_some_iff.1 hg).1 hsz).mono ?_
    rintro e w' ⟨he, k, os, hw⟩
    subst hw
    exact ⟨he, ownsRow_sortedI (by simp) hbg hg hnc hcm hcs, grownBy_sortedI _⟩
end Go.Proofs.YtkbfcmkocgkdjaaDoor
