/-
  The net's Cut, and whether two ends are cut from each other. Conditions: few ends are cut.
-/
import Derived.Test.YtpkbfdgfdgkbkaaNetB
import Derived.Test.YtpkbfdgfdgkbkaaNetA
namespace Go.Proofs.Ytpkbfdgfdgkbkaa
open Go Go.RowKit
attribute [local go_sem] cell_set_if

def isT (a b : Int) (x : Ct) : Bool := (x.a == a) && (x.b == b)
theorem ixT_any (p : Ct → Bool) (ks : List Ct) : decide ((0 : Int) ≤ ixV p ks) = ks.any p := by
  unfold ixV
  cases h : ks.findIdx? p with
  | none =>
    rw [List.findIdx?_eq_none_iff] at h
    have : ks.any p = false := by rw [List.any_eq_false]; intro x hx; rw [h x hx]; simp
    rw [this]; rfl
  | some i =>
    have hi : (ks.findIdx? p).isSome = true := by rw [h]; rfl
    rw [List.findIdx?_isSome] at hi
    rw [hi]; simp
set_option maxRecDepth 100000 in
set_option maxHeartbeats 1000000 in
theorem tindex_any (A : Option Addr) (n c : Nat) (ks : List Ct) (ea eb : Int) (w : World) (hr : Rd w A (flatT ks)) (hn : ks.length = n) (hm : n ≤ 1000000) :
    Calls Try.prog 39 #[.slice A n c, .agg #[.int .i64 ea, .int .i64 eb]] w fun e w' => e = .returned (.int .i64 (ixV (isT ea eb) ks)) ∧ Below w.heap.size w w' := by
  have ba : Below w.heap.size w (w.alloc (.cells #[.int .i64 ea, .int .i64 eb] 39)) := (Below.refl _ _).alloc (Nat.le_refl _) _
  have HR := Lib.hid (hr.below ba)
  have HN := Lib.hid hn
  have K := Blk.new w 39 #[.int .i64 ea, .int .i64 eb]
  have k0 : (w.alloc (.cells #[.int .i64 ea, .int .i64 eb] 39)).cell? ⟨w.heap.size, 0, none⟩ = some (.int .i64 ea) := K.cell 0
  have k1 : (w.alloc (.cells #[.int .i64 ea, .int .i64 eb] 39)).cell? ⟨w.heap.size, 1, none⟩ = some (.int .i64 eb) := K.cell 1
  have hni : (n : Int) ≤ 1000000 := by omega
  have HBA := Lib.hid ba
  clear hr hn ba K
  go_enter Try.func39, Try.ntmps39
  go_upto_region 1 with fail
  generalize w.alloc (.cells #[.int .i64 ea, .int .i64 eb] 39) = W at HR HBA k0 k1 ⊢
  obtain ⟨gx, hgx⟩ : ∃ gx, gx = w.heap.size := ⟨_, rfl⟩
  rw [← hgx] at k0 k1 ⊢
  have HG := Lib.hid hgx
  clear hgx
  go_wp2
  go_loopw [8] (fun u8 wr => ∃ k : Nat, k ≤ n ∧ u8 = .int .i64 k ∧ Hid (∀ (j : Nat) y, j < k → ks[j]? = some y → isT ea eb y = false) ∧ Hid (Below W.heap.size W wr)) (fun u8 _ => n - (intOf u8).toNat)
  case atStart => exact ⟨0, by omega, rfl, fun j y hj => by omega, Below.refl _ _⟩
  case round =>
    obtain ⟨k, hkn, rfl, hno, HB⟩ := hrel
    have q0 := cell_b HB.out k0
    have q1 := cell_b HB.out k1
    by_cases hlt : k < n
    · obtain ⟨b1, o1, x, rfl, _, hx, d0, d1⟩ := (HR.out.below (HB.out)).ct (k := k) (by have := HN.out; omega)
      have hki : (k : Int) < (n : Int) := by omega
      obtain ⟨q, hq⟩ : ∃ q : Bool, q = isT ea eb x := ⟨_, rfl⟩
      have he : ∀ W : World, (Op.equalIn 10000 39 (.agg #[.int .i64 ea, .int .i64 eb]) (.agg #[.int .i64 x.a, .int .i64 x.b])).run Try.prog W = .ok q W := fun W => by
        rw [run_eqin_two, hq]; unfold isT
        rw [show (x.a == ea) = (ea == x.a) by rw [Bool.eq_iff_iff]; simp; omega, show (x.b == eb) = (eb == x.b) by rw [Bool.eq_iff_iff]; simp; omega]
      have HX := Lib.hid hx
      have HQ := Lib.hid hq
      clear hq hx k0 k1
      cases q
      · have HY : Hid (∀ (j : Nat) y, j < k + 1 → ks[j]? = some y → isT ea eb y = false) := fun j y hj hy => by
          by_cases e : j = k
          · subst e; rw [HX.out] at hy; rw [← Option.some.inj hy]; exact HQ.out.symm
          · exact hno.out j y (by omega) hy
        go_wp2
        go_quiet (fail)
        go_wp2
        go_roundw
        case rel => exact ⟨k + 1, by omega, by go_num, HY, below_drewN HB.out _⟩
        case measure => simp [intOf]; omega
      · have HV : Hid (ixV (isT ea eb) ks = (k : Int)) := ixV_at HX.out HQ.out.symm hno.out
        go_wp2
        go_quiet (fail)
        go_wp2
        go_ret
        exact ⟨by (rw [HV.out]) <;> rfl, HBA.out.trans ((below_drewN HB.out _).mono (by have := HG.out; have := HBA.out.size; omega))⟩
    · obtain rfl : n = k := by omega
      have HV : Hid (ixV (isT ea eb) ks = -1) := ixV_none fun x hx => by
        obtain ⟨j, hj⟩ := List.mem_iff_getElem?.1 hx
        exact hno.out j x (by have := (List.getElem?_eq_some_iff.1 hj).1; have := HN.out; omega) hj
      clear k0 k1
      go_wp2
      go_ret
      exact ⟨by (rw [HV.out]) <;> rfl, HBA.out.trans (HB.out.mono (by have := HG.out; have := HBA.out.size; omega))⟩
theorem tcontains_any (A : Option Addr) (n c : Nat) (ks : List Ct) (ea eb : Int) (w : World) (hr : Rd w A (flatT ks)) (hn : ks.length = n) (hm : n ≤ 1000000) :
    Calls Try.prog 20 #[.slice A n c, .agg #[.int .i64 ea, .int .i64 eb]] w fun e w' => e = .returned (.bool (ks.any (isT ea eb))) ∧ Below w.heap.size w w' := by
  have ba : Below w.heap.size w (w.alloc (.cells #[.int .i64 ea, .int .i64 eb] 39)) := (Below.refl _ _).alloc (Nat.le_refl _) _
  have HI := Lib.hid (tindex_any A n c ks ea eb _ (hr.below ba) hn hm)
  obtain ⟨q, hq⟩ : ∃ q, q = ixV (isT ea eb) ks := ⟨_, rfl⟩
  have hx := ixT_any (isT ea eb) ks
  rw [← hq] at hx
  rw [← hx]
  have HI2 := HI.out
  rw [← hq] at HI2
  have HI3 := Lib.hid HI2
  have HBA := Lib.hid ba
  clear HI HI2 hx hq hr hn ba
  go_enter Try.func20, Try.ntmps20
  go_wp2_with (go_at_call 39; refine HI3.out.mono ?_; rintro e w2 ⟨rfl, b2⟩)
  go_ret
  exact ⟨rfl, HBA.out.trans (b2.mono HBA.out.size)⟩
/-- Ends cut from each other, or not. -/
def cutT (c : List Ct) (t : Ct) (on : Bool) : List Ct := (c.filter fun x => !isT t.a t.b x) ++ (if on then [t] else [])
theorem cutT_len (c : List Ct) (t : Ct) (on : Bool) : (cutT c t on).length ≤ c.length + 1 := by
  unfold cutT
  rw [List.length_append]
  have := List.length_filter_le (fun x => !isT t.a t.b x) c
  cases on <;> simp <;> omega
set_option maxRecDepth 100000 in
set_option maxHeartbeats 8000000 in
theorem ncut_any {w : World} {base g : Nat} {l : List Pk} {c : List Ct} {v1 v2 : Value} (a b : Int) (on : Bool) (h : NetAt w base g l c v1 v2) (hb : base ≤ w.heap.size) (hc : c.length ≤ 100000) :
    Calls Try.prog 7 #[.pointer (some ⟨g, 0, none⟩), .int .i64 a, .int .i64 b, .bool on] w fun e w' => e = .returned (.tuple #[]) ∧ ∃ v2', NetAt w' base g l (cutT c (twoT a b) on) v1 v2' ∧ TurnN g v1 v2 w v1 v2' w' := by
  obtain ⟨i0, hi0, hz0, hz1, hz2⟩ := info_parts ctInfo
  obtain ⟨_, A2, c2, hv2, hcc⟩ := h.form
  obtain ⟨n, hn⟩ : ∃ n, n = c.length := ⟨_, rfl⟩
  obtain ⟨ta, hta⟩ : ∃ ta, ta = min a b := ⟨_, rfl⟩
  obtain ⟨tb, htb⟩ : ∃ tb, tb = max a b := ⟨_, rfl⟩
  have ht : twoT a b = ⟨ta, tb⟩ := by unfold twoT; rw [hta, htb]
  have HTW : Hid (∀ W : World, Calls Try.prog 17 #[.int .i64 a, .int .i64 b] W fun e w' => e = .returned (.agg #[.int .i64 ta, .int .i64 tb]) ∧ Below W.heap.size W w') := fun W => by rw [hta, htb]; exact ntwo_any a b W
  rw [ht]
  obtain ⟨C, hC⟩ : ∃ C, C = c.filter fun x => !isT ta tb x := ⟨_, rfl⟩
  have HC : Hid (c.filter (fun x => !(((x.a == ta) && (x.b == tb) : Bool))) = C) := by rw [hC]; rfl
  have hcut : cutT c ⟨ta, tb⟩ on = C ++ (if on then [⟨ta, tb⟩] else []) := by unfold cutT; rw [hC]
  rw [hcut]
  clear hC hcut
  have H := Lib.hid h
  have HN := Lib.hid hn
  rw [← hn] at hv2
  have HV2 := Lib.hid hv2
  have hni : (n : Int) ≤ 100000 := by omega
  have hgl := h.blk.lt
  clear h hn hv2 ht hta htb
  go_enter Try.func7, Try.ntmps7
  go_upto_region 2 with (go_at_call 17; refine (HTW.out _).mono ?_; rintro e w1 ⟨rfl, b1⟩)
  have ba : Below w1.heap.size w1 (w1.alloc (.cells #[.int .i64 ta, .int .i64 tb] 39)) := (Below.refl _ _).alloc (Nat.le_refl _) _
  have K := Blk.new w1 39 #[.int .i64 ta, .int .i64 tb]
  have H1 := (H.out.below b1).below ba
  have hgx : ∀ q, mineN g v1 v2 q → q ≠ w1.heap.size := fun q hq e => by have := (H.out.mine_lt q hq).2; have := b1.size; omega
  have hbw : Below w.heap.size w (w1.alloc (.cells #[.int .i64 ta, .int .i64 tb] 39)) := b1.trans (ba.mono b1.size)
  obtain ⟨gx, hgxe⟩ : ∃ gx, gx = w1.heap.size := ⟨_, rfl⟩
  rw [← hgxe] at K hgx ⊢
  generalize w1.alloc (.cells #[.int .i64 ta, .int .i64 tb] 39) = W at K H1 hbw ⊢
  have k0 : W.cell? ⟨gx, 0, none⟩ = some (.int .i64 ta) := K.cell 0
  have k1 : W.cell? ⟨gx, 1, none⟩ = some (.int .i64 tb) := K.cell 1
  have y1 : W.cell? ⟨g, 1, none⟩ = some (.slice A2 n c2) := by rw [← HV2.out]; exact H1.blk.cell 1
  have ho : W.ownsRow base 39 2 (.slice A2 n c2) n (flatT c) := by have := H1.o2; rw [← HN.out, HV2.out] at this; exact this
  have hne : (Value.slice A2 n c2).ownBlock ≠ some gx := fun e => hgx gx (.inr (.inr (by rw [HV2.out]; exact e))) rfl
  have HD := Lib.hid (tdel_any base n c2 gx A2 c ta tb W ho HN.out.symm k0 hne k1 (by omega))
  have HT : Hid (TyS W (fun k => (Value.slice A2 n c2).ownBlock = some k) [39]) := fun k _ hk => ⟨_, by simp, own_ty ho hk⟩
  have HH1 := Lib.hid H1
  have HK := Lib.hid K
  have HNE := Lib.hid hne
  have HBW := Lib.hid hbw
  clear ba ho hne H1 K hbw hgx hgxe b1 k0 k1
  go_upto_region 3 with (go_at_call 18; refine HD.out.mono ?_; rintro e w3 ⟨m, hm1, hm2, rfl, o3, F3⟩
                         have B3 := HH1.out.blk.frm_ty F3 HT.out (by decide)
                         have P3 := own_frm_ty HH1.out.o1 F3 HT.out (by decide)
                         have K3 := HK.out.frm F3 (fun e => HNE.out e)
                         have y3 : w3.cell? ⟨g, 1, none⟩ = some (.slice A2 n c2) := by rw [← HV2.out]; exact B3.cell 1
                         have z3 := B3.free 1)
  have FS : Frm (at1 g) w3 (w3.setCell ⟨g, 1, none⟩ (.slice A2 m c2)) := (Frm.refl (at1 g) w3).setCell (p := ⟨g, 1, none⟩) (fun _ => rfl) _
  have B4 : Blk (w3.setCell ⟨g, 1, none⟩ (.slice A2 m c2)) g 52 #[v1, .slice A2 m c2] := by simpa using B3.set_ 1 (.slice A2 m c2)
  have P4 := own_frm P3 FS (fun q hq e => B3.own_ne P3 (by decide) (e ▸ hq))
  have O4 := own_frm o3 FS (fun q hq e => B3.own_ne o3 (by decide) (e ▸ hq))
  have K4 : Blk (w3.setCell ⟨g, 1, none⟩ (.slice A2 m c2)) gx 39 #[.int .i64 ta, .int .i64 tb] := K3.frm FS (fun e => by
    have h1 := B3.ty; have h2 := K3.ty
    rw [show gx = g from e] at h2
    exact absurd (h1.eq h2) (by decide))
  have hsame : (Value.slice A2 m c2).ownBlock = v2.ownBlock := by rw [HV2.out]; cases A2 <;> rfl
  have T4 : TurnN g v1 v2 w v1 (.slice A2 m c2) (w3.setCell ⟨g, 1, none⟩ (.slice A2 m c2)) := by
    refine (TurnN.of HBW.out).trans ⟨(F3.mono fun i _ hi => .inr (.inr (by rw [HV2.out]; exact hi))).setCell (p := ⟨g, 1, none⟩) (fun _ => .inl rfl) _, fun k hk => .inl ?_⟩
    rcases hk with hk | hk | hk
    · exact .inl hk
    · exact .inr (.inl hk)
    · exact .inr (.inr (by rw [← hsame]; exact hk))
  rw [HC.out] at o3 O4 hm2
  have hbs : base ≤ (w3.setCell ⟨g, 1, none⟩ (.slice A2 m c2)).heap.size := by have := T4.frm.size; omega
  generalize w3.setCell ⟨g, 1, none⟩ (.slice A2 m c2) = V at B4 P4 O4 K4 T4 hbs ⊢
  have HM2 := Lib.hid hm2
  have HP4 := Lib.hid P4
  have HT4 := Lib.hid T4
  have HB4 := Lib.hid B4
  have hlow := H.out.low
  clear FS B3 P3 o3 K3 hsame hm2 P4 T4 y3 z3 y1 F3
  cases on
  · go_wp2
    go_end0
    refine ⟨rfl, .slice A2 m c2, ⟨HB4.out, hlow, HP4.out, ?_⟩, HT4.out⟩
    rw [HM2.out]; exact O4
  · have y4 : V.drew.cell? ⟨g, 1, none⟩ = some (.slice A2 m c2) := B4.cell 1
    have x0 : V.drew.cell? ⟨gx, 0, none⟩ = some (.int .i64 ta) := K4.cell 0
    have x1 : V.drew.cell? ⟨gx, 1, none⟩ = some (.int .i64 tb) := K4.cell 1
    have y4a : (V.alloc (.cells #[.int .i64 ta, .int .i64 tb] 39)).cell? ⟨g, 1, none⟩ = some (.slice A2 m c2) := (B4.alloc _).cell 1
    have O5 : V.drew.ownsRow base 39 2 (.slice A2 m c2) m (flatT C) := O4
    have RN : Rd (V.drew.alloc (.cells #[.int .i64 ta, .int .i64 tb] 39)) (some ⟨V.drew.heap.size, 0, none⟩) [.int .i64 ta, .int .i64 tb] := Rd.new V.drew #[.int .i64 ta, .int .i64 tb] 39
    have HTY : Hid (TyS V (fun k => (Value.slice A2 m c2).ownBlock = some k) [39]) := fun k _ hk => ⟨_, by simp, own_ty O4 hk⟩
    have hmi : (m : Int) ≤ 100000 := by omega
    clear B4 K4 O4
    go_upto_region 4 with fail
    go_region_law (refine step_app rfl (.tmp 28) (.tmp 30) 36 rfl base 39 i0 _ 2 16 Try.underlying36 hi0 hz0 hz1 hz2 rfl (by omega) (.slice A2 m c2) m _ rfl (O5.alloc _) _ 1 1 [.int .i64 ta, .int .i64 tb] rfl RN rfl (by simp [Value.oneCell']) (by unfold maxLen; omega) (by omega) (by simp; omega) ?_
                   intro v3 w5 ho5 hg5 hb5 hat5
                   obtain ⟨A3, c3, rfl, hc3⟩ := own_form ho5
                   have F5 : Frm (fun k => (Value.slice A2 m c2).ownBlock = some k) V w5 := ((Frm.refl _ V).step (Below.refl _ V).drew).then_ (((Frm.refl _ V.drew).alloc (.cells #[.int .i64 ta, .int .i64 tb] 39)).grown hg5 (fun k hk _ => hk))
                   have B5 := HB4.out.frm_ty F5 HTY.out (by decide)
                   have P5 := own_frm_ty HP4.out F5 HTY.out (by decide)
                   have y5 : w5.cell? ⟨g, 1, none⟩ = some (.slice A2 m c2) := B5.cell 1
                   have z5 := B5.free 1)
    all_goals
      go_wp2
      go_end0
      refine ⟨rfl, .slice A3 (m + 1 : Nat) c3, ⟨by simpa using B5.set_ 1 (.slice A3 (m + 1 : Nat) c3), hlow, own_frm P5 ((Frm.refl (at1 g) _).setCell (p := ⟨g, 1, none⟩) (fun _ => rfl) _) (fun q hq e => B5.own_ne P5 (by decide) (e ▸ hq)), ?_⟩, ?_⟩
      · show World.ownsRow _ _ _ _ _ (C ++ [(⟨ta, tb⟩ : Ct)]).length (flatT (C ++ [(⟨ta, tb⟩ : Ct)]))
        rw [List.length_append, HM2.out, flatT_app]
        exact own_frm ho5 ((Frm.refl (at1 g) _).setCell (p := ⟨g, 1, none⟩) (fun _ => rfl) _) (fun q hq e => B5.own_ne ho5 (by decide) (e ▸ hq))
      · refine HT4.out.trans ⟨(F5.mono fun i _ hi => .inr (.inr hi)).setCell (p := ⟨g, 1, none⟩) (fun _ => .inl rfl) _, fun k hk => ?_⟩
        rcases hk with hk | hk | hk
        · exact .inl (.inl hk)
        · exact .inl (.inr (.inl hk))
        · rcases hat5 with e | e
          · exact .inl (.inr (.inr (by rw [← e]; exact hk)))
          · rw [e] at hk; injection hk with hk; refine .inr ?_; simp at hk; omega
end Go.Proofs.Ytpkbfdgfdgkbkaa
