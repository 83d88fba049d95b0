/-
  NetPlays: a net, and the law's own lists beside it. No condition of its own.
-/
import Derived.Test.YtpkbfdgfdgkbkaaNetN
import Derived.Test.YtpkbfdgfdgkbkaaNetOrderW
import Derived.Test.YtpkbfdgfdgkbkaaRowNet
namespace Go.Proofs.Ytpkbfdgfdgkbkaa
open Go Go.RowKit

/-- A net, and the law's own packets and cuts. -/
structure NetS (w0 w : World) (g : Nat) (l : List Pk) (c : List Ct) (hl : List Pk) (hc : List Ct) (v1 v2 u4 u5 : Value) : Prop where
  net : NetAt w g g l c v1 v2
  hv : w.ownsRow w0.heap.size 29 3 u4 hl.length (flatK hl)
  ct : w.ownsRow w0.heap.size 39 2 u5 hc.length (flatT hc)
  ap : ∀ q, mineN g v1 v2 q → u4.ownBlock ≠ some q ∧ u5.ownBlock ≠ some q
  low : w0.heap.size ≤ g
  below : Below w0.heap.size w0 w
section
variable {w0 w w' : World} {g : Nat} {l l' hl hl' : List Pk} {c c' hc hc' : List Ct} {v1 v2 v1' v2' u4 u5 u4' u5' : Value}
theorem NetS.step (h : NetS w0 w g l c hl hc v1 v2 u4 u5) (k : Below w.heap.size w w') : NetS w0 w' g l c hl hc v1 v2 u4 u5 :=
  ⟨h.net.below k, own_frm (S := no) h.hv (Frm.of_below k) (fun _ _ h => h), own_frm (S := no) h.ct (Frm.of_below k) (fun _ _ h => h), h.ap, h.low, h.below.trans (k.mono h.below.size)⟩
theorem NetS.turn (h : NetS w0 w g l c hl hc v1 v2 u4 u5) (n' : NetAt w' g g l' c' v1' v2') (t : TurnN g v1 v2 w v1' v2' w') : NetS w0 w' g l' c' hl hc v1' v2' u4 u5 :=
  ⟨n', own_frm h.hv t.frm fun q hq hs => (h.ap q hs).1 hq, own_frm h.ct t.frm fun q hq hs => (h.ap q hs).2 hq, fun q hq => by
    rcases t.own q hq with h1 | h1
    · exact h.ap q h1
    · exact ⟨fun e => by have := (h.hv.lt q e).2; omega, fun e => by have := (h.ct.lt q e).2; omega⟩, h.low, h.below.trans (TurnN.to_below h.net t h.below.size h.low)⟩
theorem NetS.grew (h : NetS w0 w g l c hl hc v1 v2 u4 u5) (hg : w.grownBy w' u4.ownBlock) (ho : w'.ownsRow w0.heap.size 29 3 u4' hl'.length (flatK hl')) (hat : u4'.ownBlock = u4.ownBlock ∨ u4'.ownBlock = some w.heap.size) : NetS w0 w' g l c hl' hc v1 v2 u4' u5 := by
  have F : Frm (fun k => u4.ownBlock = some k) w w' := (Frm.refl _ _).grown hg (fun k hk _ => hk)
  have T : TyS w (fun k => u4.ownBlock = some k) [29] := fun k _ hk => ⟨_, by simp, own_ty h.hv hk⟩
  refine ⟨h.net.frm F fun q hq hs => (h.ap q hq).1 hs, ho, own_frm_ty h.ct F T (by decide), fun q hq => ⟨fun e => ?_, (h.ap q hq).2⟩, h.low, h.below.trans ((Below.refl _ w).grown hg h.below.size fun k hk => (h.hv.lt k hk).1)⟩
  rcases hat with e1 | e1
  · exact (h.ap q hq).1 (e1 ▸ e)
  · rw [e1] at e; injection e with e; have := (h.net.mine_lt q hq).2; omega
theorem NetS.fresh (h : NetS w0 w g l c hl hc v1 v2 u4 u5) (k : Below w.heap.size w w') (ho : w'.ownsRow w.heap.size 29 3 u4' hl'.length (flatK hl')) : NetS w0 w' g l c hl' hc v1 v2 u4' u5 := by
  have S := h.step k
  refine ⟨S.net, own_base ho h.below.size, S.ct, fun q hq => ⟨fun e => ?_, (h.ap q hq).2⟩, h.low, S.below⟩
  have := (ho.lt q e).1
  have := (h.net.mine_lt q hq).2
  omega
theorem NetS.cuts (h : NetS w0 w g l c hl hc v1 v2 u4 u5) (k : Below w.heap.size w w') (ho : w'.ownsRow w.heap.size 39 2 u5' hc'.length (flatT hc')) : NetS w0 w' g l c hl hc' v1 v2 u4 u5' := by
  have S := h.step k
  refine ⟨S.net, S.hv, own_base ho h.below.size, fun q hq => ⟨(h.ap q hq).1, fun e => ?_⟩, h.low, S.below⟩
  have := (ho.lt q e).1
  have := (h.net.mine_lt q hq).2
  omega
theorem NetS.none_ (h : NetS w0 w g l c hl hc v1 v2 u4 u5) : NetS w0 w g l c [] hc v1 v2 (.slice none 0 0) u5 :=
  ⟨h.net, World.ownsRow_nil _ _ _ _, h.ct, fun q hq => ⟨by simp [Value.ownBlock], (h.ap q hq).2⟩, h.low, h.below⟩
theorem NetS.wrote (h : NetS w0 w g l c hl hc v1 v2 u4 u5) (F : Frm (fun k => u4.ownBlock = some k) w w') (ho : w'.ownsRow w0.heap.size 29 3 u4 hl'.length (flatK hl')) : NetS w0 w' g l c hl' hc v1 v2 u4 u5 :=
  ⟨h.net.frm F fun q hq hs => (h.ap q hq).1 hs, ho, own_frm_ty h.ct F (Ts := [29]) (fun k _ hk => ⟨_, by simp, own_ty h.hv hk⟩) (by decide), h.ap, h.low, h.below.trans (F.below h.below.size fun k hk => (h.hv.lt k hk).1)⟩
theorem NetS.keepw (h : NetS w0 w g l c hl hc v1 v2 u4 u5) {b : Nat} {t : TypeId} {cs : Array Value} (K : Blk w b t cs) (F : Frm (fun k => u4.ownBlock = some k) w w') (h1 : t ∉ [29]) : Blk w' b t cs :=
  K.frm_ty F (Ts := [29]) (fun k _ hk => ⟨_, by simp, own_ty h.hv hk⟩) h1
/-- Another type's block is kept. -/
theorem NetS.keeps (h : NetS w0 w g l c hl hc v1 v2 u4 u5) {b : Nat} {t : TypeId} {cs : Array Value} (K : Blk w b t cs) (tr : TurnN g v1 v2 w v1' v2' w') (h1 : t ∉ [52, 29, 39]) : Blk w' b t cs := K.frm_ty tr.frm h.net.ty h1
theorem NetS.keepg (h : NetS w0 w g l c hl hc v1 v2 u4 u5) {b : Nat} {t : TypeId} {cs : Array Value} (K : Blk w b t cs) (hg : w.grownBy w' u4.ownBlock) (h1 : t ∉ [29]) : Blk w' b t cs :=
  K.frm_ty ((Frm.refl (fun k => u4.ownBlock = some k) _).grown hg (fun k hk _ => hk)) (Ts := [29]) (fun k _ hk => ⟨_, by simp, own_ty h.hv hk⟩) h1
end
theorem isAt_nat {l : List Pk} {k : Int} (h : isAt l k = true) : ∃ i : Nat, k = (i : Int) ∧ i < l.length := by
  unfold isAt at h
  simp only [Bool.and_eq_true, decide_eq_true_eq] at h
  exact ⟨k.toNat, by omega, by omega⟩
theorem peek_nat {l : List Pk} {i : Nat} (h : i < l.length) : peekK l (i : Int) = l[i] := by
  have : isAt l (i : Int) = true := by unfold isAt; simp only [Bool.and_eq_true, decide_eq_true_eq]; omega
  unfold peekK
  rw [this, if_pos rfl, Int.toNat_natCast, List.getD_eq_getElem?_getD, List.getElem?_eq_getElem h]; rfl
end Go.Proofs.Ytpkbfdgfdgkbkaa
