/-
  A meta's sector as plain lists of bytes. Over every meta and every bytes; no condition of its own.
-/
import Derived.Test.YtkenhcgdnbgnpaaPageLaws
namespace Go.Proofs.Ytkenhcgdnbgnpaa
open Go Go.RowKit

/-- A meta. -/
structure Mt where
  (tx ro fr pg : Int)
def placeP (m : Mt) (id : Int) : Prop := id = 0 ∨ (2 ≤ id ∧ id < m.pg)
def okM (m : Mt) : Prop := 1 ≤ m.tx ∧ m.tx ≤ 1099511627776 ∧ 2 ≤ m.pg ∧ m.pg ≤ 4000 ∧ placeP m m.ro ∧ placeP m m.fr ∧ (m.ro = 0 ∨ m.ro ≠ m.fr)
instance (m : Mt) (id : Int) : Decidable (placeP m id) := by unfold placeP; infer_instance
instance (m : Mt) : Decidable (okM m) := by unfold okM; infer_instance
def bodyM (m : Mt) : List UInt8 := lowB m.tx.toNat 8 ++ (lowB m.ro.toNat 8 ++ (lowB m.fr.toNat 8 ++ lowB m.pg.toNat 8))
def pgM (m : Mt) : Pg := ⟨1, m.tx.toNat % 2, m.tx.toNat, bodyM m⟩
def layM (m : Mt) : List UInt8 := layL (pgM m)
theorem bodyM_len (m : Mt) : (bodyM m).length = 32 := by simp [bodyM, lowB_len]
theorem pgM_ok {m : Mt} (h : okM m) : (pgM m).ok := by
  obtain ⟨h1, h2, _⟩ := h
  unfold pgM Pg.ok
  simp only [bodyM_len]; omega
theorem layM_len {m : Mt} (h : okM m) : (layM m).length = 256 := layL_len (pgM_ok h)
/-- What 32 bytes say. -/
def mL (d : List UInt8) : Mt := ⟨sgn (numL (d.take 8)), sgn (numL ((d.drop 8).take 8)), sgn (numL ((d.drop 16).take 8)), sgn (numL ((d.drop 24).take 8))⟩
theorem mL_body {m : Mt} (h : okM m) : mL (bodyM m) = m := by
  obtain ⟨h1, h2, h3, h4, h5, h6, _⟩ := h
  unfold placeP at h5 h6
  have e : ∀ x : Int, 0 ≤ x → x ≤ 1099511627776 → sgn (numL (lowB x.toNat 8)) = x := fun x a b => by
    rw [num_lowB_lt (by omega), sgn_ok (by omega)]; omega
  have e0 : (bodyM m).take 8 = lowB m.tx.toNat 8 := by unfold bodyM; rw [List.take_left' (lowB_len _ _)]
  have d1 : (bodyM m).drop 8 = lowB m.ro.toNat 8 ++ (lowB m.fr.toNat 8 ++ lowB m.pg.toNat 8) := by unfold bodyM; rw [List.drop_left' (lowB_len _ _)]
  have d2 : (bodyM m).drop 16 = lowB m.fr.toNat 8 ++ lowB m.pg.toNat 8 := by
    rw [show (16 : Nat) = 8 + 8 by rfl, ← List.drop_drop, d1, List.drop_left' (lowB_len _ _)]
  have d3 : (bodyM m).drop 24 = lowB m.pg.toNat 8 := by
    rw [show (24 : Nat) = 16 + 8 by rfl, ← List.drop_drop, d2, List.drop_left' (lowB_len _ _)]
  have e1 : ((bodyM m).drop 8).take 8 = lowB m.ro.toNat 8 := by rw [d1, List.take_left' (lowB_len _ _)]
  have e2 : ((bodyM m).drop 16).take 8 = lowB m.fr.toNat 8 := by rw [d2, List.take_left' (lowB_len _ _)]
  have e3 : ((bodyM m).drop 24).take 8 = lowB m.pg.toNat 8 := by rw [d3, List.take_of_length_le (by rw [lowB_len]; omega)]
  unfold mL
  rw [e0, e1, e2, e3, e _ (by omega) (by omega), e _ (by omega) (by omega), e _ (by omega) (by omega), e _ (by omega) (by omega)]
/-- What a sector says. -/
def mB (b : List UInt8) : Mt := mL (bodyB b)
theorem mB_lay {m : Mt} (h : okM m) : mB (layM m) = m := by
  unfold mB layM
  rw [bodyB_lay (pgM_ok h)]
  exact mL_body h
/-- How a meta reads: 0, or the reason. -/
def errM (b : List UInt8) : Nat := if b.length ≠ 256 then 5 else if errB b ≠ 0 then errB b else if okM (mB b) ∧ layM (mB b) = b then 0 else 6
theorem errM_lay {m : Mt} (h : okM m) : errM (layM m) = 0 := by
  unfold errM
  rw [if_neg (by simp [layM_len h]), if_neg (by simp [show errB (layM m) = 0 from errB_lay (pgM_ok h)]), mB_lay h, if_pos ⟨h, rfl⟩]
theorem errM_ok {b : List UInt8} (h : errM b = 0) : okM (mB b) ∧ layM (mB b) = b := by
  unfold errM at h
  split at h
  · omega
  · split at h
    · rename_i h2; exact absurd h h2
    · split at h
      · rename_i h3; exact h3
      · omega
abbrev metaV (m : Mt) : Value := .agg #[.int .i64 m.tx, .int .i64 m.ro, .int .i64 m.fr, .int .i64 m.pg]
def noM : Mt := ⟨0, 0, 0, 0⟩
end Go.Proofs.Ytkenhcgdnbgnpaa
