/-
  sort.Search at this program: the library's contract, laid. Conditions: the closure answers at each place below n, in every world that has grown from this one; what it says rises.
-/
import Derived.Shelf.SlSorted.Search
import Derived.KernelRfl
import Derived.Test.YtldkhhipfoeckaaGreatChecked
import Derived.Test.YtldkhhipfoeckaaGreatBase
namespace Go.Proofs.YtldkhhipfoeckaaGreat
open Go Go.Shelf Go.RowKit
def Tryz.laysSearch_ren : Go.Shelf.Ren := ⟨fun | 16 => 96 | n => n, fun | 3 => 3 | 35 => 114 | 4 => 4 | 38 => 159 | n => n, fun | n => n⟩
theorem Tryz.laysSearch : Go.Proofs.SlLaysO.n16 Tryz.prog Tryz.laysSearch_ren := {
  mixed := by kernel_rfl
  f16 := Tryz.func96.trans (congrArg some (by kernel_rfl))
  t3 := Tryz.underlying3
  a3 := Tryz.isAgg3
  z3 := Tryz.sizeOf3
  v3 := Tryz.zeroValue3
  t4 := Tryz.underlying4
  a4 := Tryz.isAgg4
  z4 := Tryz.sizeOf4
  v4 := Tryz.zeroValue4
  t35 := Tryz.underlying114
  a35 := Tryz.isAgg114
  z35 := Tryz.sizeOf114
  v35 := Tryz.zeroValue114
  t38 := Tryz.underlying159
  a38 := Tryz.isAgg159
  z38 := Tryz.sizeOf159
  v38 := Tryz.zeroValue159 }

theorem search_any (g : Nat) (cb : Array Value) (n : Nat) (p : Nat → Bool) (w : World) (eg : ∀ args w, (callFunc g args).run Tryz.prog w = .ok (.enter g args) w) (hsz : n < 4611686018427387904)
    (hf : ∀ (m : Nat) (os : Array Obj) (i : Nat), i < n → Calls Tryz.prog g (#[.int .i64 i] ++ cb) (Sort.grow (w.drewN m) os) fun e w' => e = .returned (.bool (p i)) ∧ ∃ q os', w' = Sort.grow ((Sort.grow (w.drewN m) os).drewN q) os')
    (hmono : ∀ a b, a ≤ b → b < n → p a = true → p b = true) :
    Calls Tryz.prog 96 #[.int .i64 n, .func (.func g) #[] cb] w fun e w' => e = .returned (.int .i64 ((List.range n).countP (fun i => !p i) : Nat)) ∧ Below w.heap.size w w' :=
  (Any.sort_Search Tryz.laysSearch g cb n p w eg hsz hf hmono).mono fun e w' ⟨h1, k, os, h2⟩ => ⟨h1, by rw [h2]; exact below_grown_sl w.heap.size w k os (Nat.le_refl _)⟩
end Go.Proofs.YtldkhhipfoeckaaGreat
