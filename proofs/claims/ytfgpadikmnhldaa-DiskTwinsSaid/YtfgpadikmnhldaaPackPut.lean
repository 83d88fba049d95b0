/-
  What the methods of pack.Put do with a Put of the call's own that bears no error. Conditions: no more bytes than memory holds; numbers that fit.
-/
import Derived.Test.YtfgpadikmnhldaaSumRef
import Derived.Test.YtfgpadikmnhldaaOne
namespace Go.Proofs.Ytfgpadikmnhldaa
open Go Go.RowKit
attribute [local go_sem] cell_set_if

abbrev ptr (g : Nat) : Value := .pointer (some ⟨g, 0, none⟩)
/-- A Put of the call's own that bears these bytes and no error. -/
structure PutAt (base : Nat) (w : World) (g : Nat) (l : List UInt8) : Prop where
  lo : base ≤ g
  at_ : ∃ v, Blk w g 0 #[v, .int .i64 0] ∧ w.ownsRow base 5 1 v l.length (u8s l)
theorem PutAt.lt {base g : Nat} {w : World} {l : List UInt8} (h : PutAt base w g l) : g < w.heap.size := by
  obtain ⟨_, v, hB, _⟩ := h; exact hB.lt
theorem PutAt.drewN {base g : Nat} {w : World} {l : List UInt8} (h : PutAt base w g l) (n : Nat) : PutAt base (w.drewN n) g l := by
  obtain ⟨h1, v, hB, hO⟩ := h; exact ⟨h1, v, hB.drewN n, hO⟩
/-- Others' doing above it leaves it. -/
theorem PutAt.below {base g : Nat} {w w' : World} {l : List UInt8} (h : PutAt base w g l) (hb : Below w.heap.size w w') : PutAt base w' g l := by
  obtain ⟨h1, v, hB, hO⟩ := h
  exact ⟨h1, v, hB.below hb, own_frm hO (Frm.of_below hb (S := no)) fun _ _ h => h⟩

theorem Blk.grown {w w' : World} {g : Nat} {t : TypeId} {cs : Array Value} {row : Option Nat} (h : Blk w g t cs) (hg : w.grownBy w' row) (hne : row ≠ some g) : Blk w' g t cs := (hg.block g h.lt (Ne.symm hne)).trans h
theorem byte_at {v : Nat} (k : Nat) (hk : k < 8) (_hv : v < 18446744073709551616) : IntKind.u8.wrap ((v : Int) / 2 ^ (8 * (k : Int)).toNat) = ((UInt8.ofNat (v / 256 ^ k)).toNat : Int) := by
  have e : (8 * (k : Int)).toNat = 8 * k := by omega
  have e2 : (2 : Int) ^ (8 * k) = ((256 ^ k : Nat) : Int) := by rw [Int.pow_mul]; simp
  rw [e, e2]
  rcases k with _ | _ | _ | _ | _ | _ | _ | _ | k <;> first | omega | (simp [IntKind.wrap, IntKind.bits, IntKind.signed]; try omega)

theorem own_set {w : World} {g base n : Nat} {t e : TypeId} {cs : Array Value} {v : Value} {xs : List Value} {size : Nat} (hB : Blk w g t cs) (hO : w.ownsRow base e size v n xs) (hne : e ≠ t) {i : Nat} (u : Value) : (w.setCell ⟨g, i, none⟩ u).ownsRow base e size v n xs :=
  own_frm hO ((Frm.refl (at1 g) w).setCell (p := ⟨g, i, none⟩) (fun _ => rfl) u) fun k hk he => (Blk.own_ne hB hO hne) (by unfold at1 at he; rw [hk, he])

end Go.Proofs.Ytfgpadikmnhldaa
