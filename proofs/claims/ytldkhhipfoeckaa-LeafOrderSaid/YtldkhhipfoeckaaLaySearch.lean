/-
  sort.Search at this program: the library's contract, laid. Conditions: the closure answers at each place below n, in every world that has grown from this one; what it says rises.
-/
import Derived.Shelf.SlSorted.Search
import Derived.KernelRfl
import Derived.Test.YtldkhhipfoeckaaChecked
import Derived.Test.YtldkhhipfoeckaaBase
namespace Go.Proofs.Ytldkhhipfoeckaa
open Go Go.Shelf Go.RowKit
def Try.laysSearch_ren : Go.Shelf.Ren := ⟨fun | 16 => 122 | n => n, fun | 3 => 3 | 35 => 51 | 4 => 4 | 38 => 199 | n => n, fun | n => n⟩
theorem Try.laysSearch : Go.Proofs.SlLaysO.n16 Try.prog Try.laysSearch_ren := {
  mixed := by kernel_rfl
  f16 := Try.func122.trans (congrArg some (by kernel_rfl))
  t3 := Try.underlying3
  a3 := Try.isAgg3
  z3 := Try.sizeOf3
  v3 := Try.zeroValue3
  t4 := Try.underlying4
  a4 := Try.isAgg4
  z4 := Try.sizeOf4
  v4 := Try.zeroValue4
  t35 := Try.underlying51
  a35 := Try.isAgg51
  z35 := Try.sizeOf51
  v35 := Try.zeroValue51
  t38 := Try.underlying199
  a38 := Try.isAgg199
  z38 := Try.sizeOf199
  v38 := Try.zeroValue199 }

theorem search_any (g : Nat) (cb : Array Value) (n : Nat) (p : Nat → Bool) (w : World) (eg : ∀ args w, (callFunc g args).run Try.prog w = .ok (.enter g args) w) (hsz : n < 4611686018427387904)
    (hf : ∀ (m : Nat) (os : Array Obj) (i : Nat), i < n → Calls Try.prog g (#[.int .i64 i] ++ cb) (Sort.grow (w.drewN m) os) fun e w' => e = .returned (.bool (p i)) ∧ ∃ q os', w' = Sort.grow ((Sort.grow (w.drewN m) os).drewN q) os')
    (hmono : ∀ a b, a ≤ b → b < n → p a = true → p b = true) :
    Calls Try.prog 122 #[.int .i64 n, .func (.func g) #[] cb] w fun e w' => e = .returned (.int .i64 ((List.range n).countP (fun i => !p i) : Nat)) ∧ Below w.heap.size w w' :=
  (Any.sort_Search Try.laysSearch g cb n p w eg hsz hf hmono).mono fun e w' ⟨h1, k, os, h2⟩ => ⟨h1, by rw [h2]; exact below_grown_sl w.heap.size w k os (Nat.le_refl _)⟩
end Go.Proofs.Ytldkhhipfoeckaa
