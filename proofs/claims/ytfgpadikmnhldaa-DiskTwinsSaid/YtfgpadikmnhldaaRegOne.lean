/-
  A region in two parts: the one operation that is ready, where not all of R have come up. No condition of its own.
-/
import Derived.Test.YtfgpadikmnhldaaRegTwo
namespace Go.Proofs.Ytfgpadikmnhldaa
open Go
theorem wpAnyS_one {P : Program} {ops : Array Oper} {Q : Exit → Act → World → Prop} {md : Region.Mode} {S1 S2 : World → Prop} {R : List Nat} {i : Nat} {o : Oper} {fuel : Nat} {listed : Array Bool} {a : Act} {w : World}
    (ho : ops[i]? = some o) (hr : Region.ready md ops listed = [i]) (hl : allUp R listed = false)
    (h : ∀ K' : Act → World → Prop, Shut (∀ a w, S1 w → (S1 w → wpAnyS P md ops Q S1 S2 R fuel (listed.setIfInBounds i true) a w) → K' a w) → if Region.wanted o (yielded ops a.tmps) = true then Oper.wp P o a w K' Q else K' (a.put o.dst undef) w) :
    wpAnyS P md ops Q S1 S2 R (fuel + 1) listed a w := by
  unfold wpAnyS
  rw [if_neg (by rw [hl]; simp)]
  refine ⟨fun h0 => (by rw [hr] at h0; cases h0), fun j hj => ?_⟩
  rw [hr] at hj
  obtain rfl := List.mem_singleton.1 hj
  exact wpOp_step ho (fun K' hK => h K' (fun a w hS hW => hK a w ⟨hS, hW hS⟩))
end Go.Proofs.Ytfgpadikmnhldaa
