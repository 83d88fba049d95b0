/-
  slices.Sort of ints at a row of the call's own, be it nil. Condition: no more than a million.
-/
import Derived.Shelf.Slices.In.SortNone
import Derived.Test.YtdpgeoiehbijlaaGreatLaySort
import Derived.Test.YtdpgeoiehbijlaaGreatOne
namespace Go.Proofs.YtdpgeoiehbijlaaGreat
open Go Go.Shelf Go.RowKit

theorem sortI_nil (A : Option Addr) (cap : Nat) (w : World) : Calls Tryz.prog 35 #[.slice A 0 cap] w fun e w' => e = .returned (.tuple #[]) ∧ w' = w := Any.slices_Sort_int_none Tryz.laysSort A cap w
theorem sortO_any (base n c : Nat) (A : Option Addr) (zs : List Int) (w : World) (hn : zs.length = n) (ho : w.ownsRow base 3 1 (.slice A n c) n (flatZ zs)) (hm : n ≤ 1000000) :
    Calls Tryz.prog 35 #[.slice A n c] w fun e w' => e = .returned (.tuple #[]) ∧ w'.ownsRow base 3 1 (.slice A n c) n (flatZ (sortZ zs)) ∧ Frm (fun k => (Value.slice A n c).ownBlock = some k) w w' := by
  by_cases h0 : n = 0
  · subst h0
    have hz : zs = [] := List.length_eq_zero_iff.1 hn
    subst hz
    refine (sortI_nil A c w).mono ?_
    rintro e w' ⟨rfl, rfl⟩
    exact ⟨rfl, by rw [sortZ_id List.Pairwise.nil]; exact ho, Frm.refl _ _⟩
  · obtain ⟨g, c', e1, _, _⟩ := ho.form (by omega)
    obtain rfl : A = some ⟨g, 0, none⟩ := by injection e1
    have ho2 : w.ownsRow base 3 1 (.slice (some ⟨g, 0, none⟩) n c) n (zs.map (Value.int .i64)) := by rw [← flatZ_map]; exact ho
    refine (sortI_any base g c n zs w hn ho2 (by omega)).mono ?_
    rintro e w' ⟨rfl, h2, hg⟩
    refine ⟨rfl, by rw [flatZ_map]; exact h2, (Frm.refl _ w).grown hg fun k hk _ => ?_⟩
    exact hk
end Go.Proofs.YtdpgeoiehbijlaaGreat
