/-
  slices.Sort of ints at this program: the library's contract, laid. Condition: a slice of the call's own.
-/
import Derived.Shelf.Sort.Plain
import Derived.Sort.OwnSortedInts
import Derived.KernelRfl
import Derived.Test.YtmnndekpedacmaaChecked
import Derived.Test.YtmnndekpedacmaaBase
namespace Go.Proofs.Ytmnndekpedacmaa
open Go Go.Shelf Go.RowKit
def Try.laysSort_ren : Go.Shelf.Ren := ⟨fun | 189 => 45 | 125 => 49 | 257 => 48 | 128 => 60 | 129 => 61 | 294 => 51 | 295 => 52 | 296 => 53 | 297 => 54 | 298 => 55 | 299 => 56 | 216 => 57 | 300 => 58 | 301 => 59 | 328 => 62 | 329 => 63 | 330 => 64 | 331 => 65 | 332 => 66 | 215 => 67 | 343 => 68 | n => n, fun | 28 => 23 | 3 => 3 | 46 => 81 | 0 => 0 | 51 => 90 | 53 => 92 | 4 => 4 | 183 => 84 | 182 => 83 | 131 => 33 | 5 => 5 | 9 => 9 | 218 => 93 | 222 => 97 | 228 => 100 | 229 => 101 | n => n, fun | n => n⟩
theorem Try.laysSort : Go.Proofs.Lays.n189 Try.prog Try.laysSort_ren := {
  mixed := by kernel_rfl
  f125 := Try.func49.trans (congrArg some (by kernel_rfl))
  f128 := Try.func60.trans (congrArg some (by kernel_rfl))
  f129 := Try.func61.trans (congrArg some (by kernel_rfl))
  f189 := Try.func45.trans (congrArg some (by kernel_rfl))
  f215 := Try.func67.trans (congrArg some (by kernel_rfl))
  f216 := Try.func57.trans (congrArg some (by kernel_rfl))
  f257 := Try.func48.trans (congrArg some (by kernel_rfl))
  f294 := Try.func51.trans (congrArg some (by kernel_rfl))
  f295 := Try.func52.trans (congrArg some (by kernel_rfl))
  f296 := Try.func53.trans (congrArg some (by kernel_rfl))
  f297 := Try.func54.trans (congrArg some (by kernel_rfl))
  f298 := Try.func55.trans (congrArg some (by kernel_rfl))
  f299 := Try.func56.trans (congrArg some (by kernel_rfl))
  f300 := Try.func58.trans (congrArg some (by kernel_rfl))
  f301 := Try.func59.trans (congrArg some (by kernel_rfl))
  f328 := Try.func62.trans (congrArg some (by kernel_rfl))
  f329 := Try.func63.trans (congrArg some (by kernel_rfl))
  f330 := Try.func64.trans (congrArg some (by kernel_rfl))
  f331 := Try.func65.trans (congrArg some (by kernel_rfl))
  f332 := Try.func66.trans (congrArg some (by kernel_rfl))
  f343 := Try.func68.trans (congrArg some (by kernel_rfl))
  t0 := Try.underlying0
  a0 := Try.isAgg0
  z0 := Try.sizeOf0
  v0 := Try.zeroValue0
  t3 := Try.underlying3
  a3 := Try.isAgg3
  z3 := Try.sizeOf3
  v3 := Try.zeroValue3
  t4 := Try.underlying4
  a4 := Try.isAgg4
  z4 := Try.sizeOf4
  v4 := Try.zeroValue4
  t5 := Try.underlying5
  a5 := Try.isAgg5
  z5 := Try.sizeOf5
  v5 := Try.zeroValue5
  t9 := Try.underlying9
  a9 := Try.isAgg9
  z9 := Try.sizeOf9
  v9 := Try.zeroValue9
  t28 := Try.underlying23
  a28 := Try.isAgg23
  z28 := Try.sizeOf23
  v28 := Try.zeroValue23
  t46 := Try.underlying81
  a46 := Try.isAgg81
  z46 := Try.sizeOf81
  v46 := Try.zeroValue81
  t51 := Try.underlying90
  a51 := Try.isAgg90
  z51 := Try.sizeOf90
  v51 := Try.zeroValue90
  t53 := Try.underlying92
  a53 := Try.isAgg92
  z53 := Try.sizeOf92
  v53 := Try.zeroValue92
  t131 := Try.underlying33
  a131 := Try.isAgg33
  z131 := Try.sizeOf33
  v131 := Try.zeroValue33
  t182 := Try.underlying83
  a182 := Try.isAgg83
  z182 := Try.sizeOf83
  v182 := Try.zeroValue83
  t183 := Try.underlying84
  a183 := Try.isAgg84
  z183 := Try.sizeOf84
  v183 := Try.zeroValue84
  t218 := Try.underlying93
  a218 := Try.isAgg93
  z218 := Try.sizeOf93
  v218 := Try.zeroValue93
  t222 := Try.underlying97
  a222 := Try.isAgg97
  z222 := Try.sizeOf97
  v222 := Try.zeroValue97
  t228 := Try.underlying100
  a228 := Try.isAgg100
  z228 := Try.sizeOf100
  v228 := Try.zeroValue100
  t229 := Try.underlying101
  a229 := Try.isAgg101
  z229 := Try.sizeOf101
  v229 := Try.zeroValue101 }

theorem sortI_any (base g cap n : Nat) (zs : List Int) (w : World) (hn : zs.length = n) (ho : w.ownsRow base 3 1 (.slice (some ⟨g, 0, none⟩) n cap) n (zs.map (Value.int .i64))) (hsz : n < 4611686018427387904) :
    Calls Try.prog 45 #[.slice (some ⟨g, 0, none⟩) n cap] w fun e w' => e = .returned (.tuple #[]) ∧ w'.ownsRow base 3 1 (.slice (some ⟨g, 0, none⟩) n cap) n ((zs.mergeSort fun x y => decide (x ≤ y)).map (Value.int .i64)) ∧ w.grownBy w' (some g) := by
  subst hn
  rcases ho.2 with ⟨e1, _⟩ | ⟨g1, c1, cur, e1, hbg, hg, hnc, hcm, hcs, ht⟩
  · cases e1
  · have e4 : g = g1 := by injection e1 with e1; injection e1 with e1; injection e1
    have e5 : cap = c1 := by injection e1
    subst e4 e5
    rw [Nat.mul_one] at ht
    have hH := holds_of_blockI (ss := zs) hg ht
    refine (Any.slices_Sort_int Try.laysSort g 0 cap zs w hH (Array.getElem?_eq_some_iff.1 hg).1 hsz).mono ?_
    rintro e w' ⟨he, k, os, hw⟩
    subst hw
    exact ⟨he, ownsRow_sortedI (by simp) hbg hg hnc hcm hcs, grownBy_sortedI _⟩
end Go.Proofs.Ytmnndekpedacmaa
