/-
  The net's Double and Swap. Conditions: no more packets than a net has.
-/
import Derived.Test.YtpkbfdgfdgkbkaaNetF
import Derived.BigRegion
namespace Go.Proofs.Ytpkbfdgfdgkbkaa
open Go Go.RowKit
attribute [local go_sem] cell_set_if

def canD (l : List Pk) (k : Int) : Bool := isAt l k && decide (l.length < 2000)
def dblK (l : List Pk) (k : Int) : List Pk := if canD l k then l ++ [peekK l k] else l
theorem dblK_few {l : List Pk} {k : Int} (h : l.length ≤ 2000) : (dblK l k).length ≤ 2000 := by
  unfold dblK canD
  split
  · rename_i h1
    rw [Bool.and_eq_true, decide_eq_true_eq] at h1
    rw [List.length_append, List.length_singleton]; omega
  · exact h
set_option maxRecDepth 100000 in
set_option maxHeartbeats 8000000 in
theorem ndouble_any {w : World} {base g : Nat} {l : List Pk} {c : List Ct} {v1 v2 : Value} (k : Int) (h : NetAt w base g l c v1 v2) (hb : base ≤ w.heap.size) (hl : l.length ≤ 2000) :
    Calls Try.prog 11 #[.pointer (some ⟨g, 0, none⟩), .int .i64 k] w fun e w' => e = .returned (.bool (canD l k)) ∧ ∃ v1', NetAt w' base g (dblK l k) c v1' v2 ∧ TurnN g v1 v2 w v1' v2 w' := by
  obtain ⟨i0, hi0, hz0, hz1, hz2⟩ := info_parts pkInfo
  obtain ⟨⟨x1, x2, x3⟩, hx⟩ : ∃ x, x = peekK l k := ⟨_, rfl⟩
  have hpk := npeek_any k h
  rw [← hx] at hpk
  unfold pkV at hpk
  simp only at hpk
  obtain ⟨q, hq⟩ : ∃ q, q = isAt l k := ⟨_, rfl⟩
  rw [← hq] at hpk
  obtain ⟨m, hm⟩ : ∃ m, m = l.length := ⟨_, rfl⟩
  obtain ⟨⟨A1, c1, hv1, _⟩, _⟩ := h.form
  rw [← hm] at hv1
  have hcan : canD l k = (q && decide (m < 2000)) := by unfold canD; rw [hq, hm]
  have hdbl : dblK l k = if (q && decide (m < 2000)) then l ++ [⟨x1, x2, x3⟩] else l := by unfold dblK; rw [hcan, hx]
  rw [hcan, hdbl]
  have HPK := Lib.hid hpk
  have HH := Lib.hid h
  have HM := Lib.hid hm
  subst hv1
  have hml : m ≤ 2000 := by rw [hm]; exact hl
  have hgl := h.blk.lt
  clear hpk h hx hq hm hcan hdbl hl
  cases q
  · go_enter Try.func11, Try.ntmps11
    go_wp2_with (go_at_call 14; with_reducible refine HPK.out.mono ?_; rintro e w2 ⟨rfl, b2⟩)
    go_ret
    have b3 := b2.trans (((Below.refl _ _).alloc (Nat.le_refl _) (.cells #[.int .i64 x1, .int .i64 x2, .string x3] 29)).mono b2.size)
    exact ⟨rfl, _, HH.out.below b3, TurnN.of b3⟩
  · by_cases hfull : m < 2000
    · have hfi : (m : Int) < 2000 := by omega
      have hd : decide (m < 2000) = true := decide_eq_true hfull
      have hdi : decide ((2000 : Int) ≤ (m : Int)) = false := decide_eq_false (by omega)
      rw [hd]
      clear hd hfull
      go_enter Try.func11, Try.ntmps11
      go_upto_region 2 with (go_at_call 14; with_reducible refine HPK.out.mono ?_; rintro e w2 ⟨rfl, b2⟩)
      have ba : Below w2.heap.size w2 (w2.alloc (.cells #[.int .i64 x1, .int .i64 x2, .string x3] 29)) := (Below.refl _ _).alloc (Nat.le_refl _) _
      have X := Blk.new w2 29 #[.int .i64 x1, .int .i64 x2, .string x3]
      have b3 := b2.trans (ba.mono b2.size)
      have H3 := HH.out.below b3
      have hw2 := b2.size
      generalize w2.alloc (.cells #[.int .i64 x1, .int .i64 x2, .string x3] 29) = U at ba X b3 H3 ⊢
      obtain ⟨gx, hgx⟩ : ∃ gx, gx = w2.heap.size := ⟨_, rfl⟩
      rw [← hgx] at X ⊢
      have hbs : base ≤ U.heap.size := Nat.le_trans hb b3.size
      have hUd := H3.blk.cell 0
      have y0 : U.cell? ⟨g, 0, none⟩ = some (.slice A1 m c1) := H3.blk.cell 0
      have u0 : U.drew.cell? ⟨g, 0, none⟩ = some (.slice A1 m c1) := H3.blk.cell 0
      have u0a : (U.alloc (.cells #[.int .i64 x1, .int .i64 x2, .string x3] 29)).cell? ⟨g, 0, none⟩ = some (.slice A1 m c1) := (H3.blk.alloc _).cell 0
      have s0 : U.drew.cell? ⟨gx, 0, none⟩ = some (.int .i64 x1) := X.cell 0
      have s1 : U.drew.cell? ⟨gx, 1, none⟩ = some (.int .i64 x2) := X.cell 1
      have s2 : U.drew.cell? ⟨gx, 2, none⟩ = some (.string x3) := X.cell 2
      have O5 : U.drew.ownsRow base 29 3 (.slice A1 m c1) m (flatK l) := by have := H3.o1; rw [← HM.out] at this; exact this
      have RN : Rd (U.drew.alloc (.cells #[.int .i64 x1, .int .i64 x2, .string x3] 29)) (some ⟨U.drew.heap.size, 0, none⟩) [.int .i64 x1, .int .i64 x2, .string x3] := Rd.new U.drew #[.int .i64 x1, .int .i64 x2, .string x3] 29
      have HTY : Hid (TyS U (fun k => (Value.slice A1 m c1).ownBlock = some k) [29]) := fun k _ hk => ⟨_, by simp, own_ty O5 hk⟩
      have HU := Lib.hid H3
      have HT := Lib.hid (TurnN.of (g := g) (v1 := .slice A1 m c1) (v2 := v2) b3)
      clear H3 b3 ba b2 X hgx hUd hw2
      go_upto_region 4 with fail
      go_region_law (refine step_app rfl (.tmp 27) (.tmp 29) 35 rfl base 29 i0 _ 3 32 Try.underlying35 hi0 hz0 hz1 hz2 rfl (by omega) (.slice A1 m c1) m _ rfl (O5.alloc _) _ 1 1 [.int .i64 x1, .int .i64 x2, .string x3] rfl RN rfl (by simp [Value.oneCell']) (by unfold maxLen; omega) (by omega) (by simp; omega) ?_
                     intro v3 w5 ho5 hg5 hb5 hat5
                     obtain ⟨A3, c3, rfl, hc3⟩ := own_form ho5
                     have F5 : Frm (fun k => (Value.slice A1 m c1).ownBlock = some k) U w5 := ((Frm.refl _ U).step (Below.refl _ U).drew).then_ (((Frm.refl _ U.drew).alloc (.cells #[.int .i64 x1, .int .i64 x2, .string x3] 29)).grown hg5 (fun k hk _ => hk))
                     have B5 := HU.out.blk.frm_ty F5 HTY.out (by decide)
                     have P5 := own_frm_ty HU.out.o2 F5 HTY.out (by decide)
                     have y5 : w5.cell? ⟨g, 0, none⟩ = some (.slice A1 m c1) := B5.cell 0
                     have z5 := B5.free 0)
      all_goals
        go_wp2
        go_ret
        refine ⟨rfl, .slice A3 (m + 1 : Nat) c3, ⟨by simpa using B5.set_ 0 (.slice A3 (m + 1 : Nat) c3), HH.out.low, ?_, own_frm P5 ((Frm.refl (at1 g) _).setCell (p := ⟨g, 0, none⟩) (fun _ => rfl) _) (fun q hq e => B5.own_ne P5 (by decide) (e ▸ hq))⟩, ?_⟩
        · show World.ownsRow _ _ _ _ _ (l ++ [(⟨x1, x2, x3⟩ : Pk)]).length (flatK (l ++ [(⟨x1, x2, x3⟩ : Pk)]))
          rw [List.length_append, ← HM.out, flatK_app]
          exact own_frm ho5 ((Frm.refl (at1 g) _).setCell (p := ⟨g, 0, none⟩) (fun _ => rfl) _) (fun q hq e => B5.own_ne ho5 (by decide) (e ▸ hq))
        · refine HT.out.trans (TurnN.same ((F5.mono fun i _ hi => .inr (.inl hi)).setCell (p := ⟨g, 0, none⟩) (fun _ => .inl rfl) _) fun q hq => ?_)
          rcases hat5 with e | e
          · exact .inl (by rw [← e]; exact hq)
          · rw [e] at hq; injection hq with hq; refine .inr ?_; simp at hq; omega
    · have hfi : (2000 : Int) ≤ (m : Int) := by omega
      have hd : decide (m < 2000) = false := decide_eq_false hfull
      rw [hd]
      have c0 : w.cell? ⟨g, 0, none⟩ = some (.slice A1 m c1) := HH.out.blk.cell 0
      clear hd hfull
      go_enter Try.func11, Try.ntmps11
      go_wp2_with (go_at_call 14; with_reducible refine HPK.out.mono ?_; rintro e w2 ⟨rfl, b2⟩
                   have c2 := cell_b b2 c0
                   have hg2 : g < w2.heap.size := Nat.lt_of_lt_of_le hgl b2.size)
      go_ret
      have b3 := b2.trans (((Below.refl _ _).alloc (Nat.le_refl _) (.cells #[.int .i64 x1, .int .i64 x2, .string x3] 29)).mono b2.size)
      exact ⟨rfl, _, HH.out.below b3, TurnN.of b3⟩
theorem flatK_set (xs : List Pk) (k : Nat) (x : Pk) : (((flatK xs).set (k * 3) (.int .i64 x.src)).set (k * 3 + 1) (.int .i64 x.dst)).set (k * 3 + 2) (.string x.data) = flatK (xs.set k x) := by
  induction xs generalizing k with
  | nil => rfl
  | cons y ys ih =>
    have e : ∀ (z : Pk) zs, flatK (z :: zs) = .int .i64 z.src :: .int .i64 z.dst :: .string z.data :: flatK zs := fun _ _ => rfl
    cases k with
    | zero => rw [e]; rfl
    | succ k =>
      rw [e, List.set_cons_succ, e, ← ih k, show (k + 1) * 3 + 2 = (k * 3 + 2) + 1 + 1 + 1 by omega, show (k + 1) * 3 + 1 = (k * 3 + 1) + 1 + 1 + 1 by omega, show (k + 1) * 3 = k * 3 + 1 + 1 + 1 by omega]
      simp only [List.set_cons_succ]
def swapK (l : List Pk) (i j : Int) : List Pk := if isAt l i && isAt l j then (l.set i.toNat (peekK l j)).set j.toNat (peekK l i) else l
theorem swapK_len (l : List Pk) (i j : Int) : (swapK l i j).length = l.length := by unfold swapK; split <;> simp
/-- Two packets of a row change places. -/
theorem own_swap {w : World} {base g n c : Nat} {l : List Pk} (h : w.ownsRow base 29 3 (.slice (some ⟨g, 0, none⟩) n c) n (flatK l)) {i j : Nat} {x y : Pk} (hi : i < n) (hj : j < n) :
    ((((((w.setCell ⟨g, i * 3, none⟩ (.int .i64 y.src)).setCell ⟨g, i * 3 + 1, none⟩ (.int .i64 y.dst)).setCell ⟨g, i * 3 + 2, none⟩ (.string y.data)).setCell ⟨g, j * 3, none⟩ (.int .i64 x.src)).setCell ⟨g, j * 3 + 1, none⟩ (.int .i64 x.dst)).setCell ⟨g, j * 3 + 2, none⟩ (.string x.data)).ownsRow base 29 3 (.slice (some ⟨g, 0, none⟩) n c) n (flatK ((l.set i y).set j x)) := by
  have := own_put (x := .string x.data) (own_put (x := .int .i64 x.dst) (own_put (x := .int .i64 x.src) (own_put (x := .string y.data) (own_put (x := .int .i64 y.dst) (own_put (x := .int .i64 y.src) h (p := i * 3) (by omega)) (p := i * 3 + 1) (by omega)) (p := i * 3 + 2) (by omega)) (p := j * 3) (by omega)) (p := j * 3 + 1) (by omega)) (p := j * 3 + 2) (by omega)
  rwa [flatK_set, flatK_set] at this
set_option maxRecDepth 100000 in
set_option maxHeartbeats 8000000 in
theorem nswap_any {w : World} {base g : Nat} {l : List Pk} {c : List Ct} {v1 v2 : Value} (i j : Int) (h : NetAt w base g l c v1 v2) :
    Calls Try.prog 12 #[.pointer (some ⟨g, 0, none⟩), .int .i64 i, .int .i64 j] w fun e w' => e = .returned (.bool (isAt l i && isAt l j)) ∧ NetAt w' base g (swapK l i j) c v1 v2 ∧ TurnN g v1 v2 w v1 v2 w' := by
  have hi := nhas_any i h
  have hj := nhas_any j h
  have ei : (decide (0 ≤ i) && decide (i < (l.length : Int))) = isAt l i := rfl
  have ej : (decide (0 ≤ j) && decide (j < (l.length : Int))) = isAt l j := rfl
  rw [ei] at hi
  rw [ej] at hj
  cases h1 : isAt l i
  · rw [h1] at hi
    have hs : Hid (swapK l i j = l) := by unfold Hid swapK; rw [h1]; rfl
    have HI := Lib.hid hi
    have HH := Lib.hid h
    rw [hs.out]
    clear hi hj h h1 hs ei ej
    go_enter Try.func12, Try.ntmps12
    go_wp2_with (go_at_call 23; with_reducible refine HI.out.mono ?_; rintro e w2 ⟨rfl, hw⟩; obtain rfl := hw.symm)
    go_ret
    exact ⟨rfl, HH.out, TurnN.refl _ _ _ _⟩
  · cases h2 : isAt l j
    · rw [h1] at hi
      rw [h2] at hj
      have hs : Hid (swapK l i j = l) := by unfold Hid swapK; rw [h1, h2]; rfl
      have HI := Lib.hid hi
      have HJ := Lib.hid hj
      have HH := Lib.hid h
      rw [hs.out]
      clear hi hj h h1 h2 hs ei ej
      go_enter Try.func12, Try.ntmps12
      go_wp2_with (first
        | (go_at_call 23; have _t := HI; with_reducible refine HI.out.mono ?_; rintro e w2 ⟨rfl, hw⟩; obtain rfl := hw.symm; clear HI)
        | (go_at_call 23; with_reducible refine HJ.out.mono ?_; rintro e w2 ⟨rfl, hw⟩; obtain rfl := hw.symm))
      go_ret
      exact ⟨rfl, HH.out, TurnN.refl _ _ _ _⟩
    · have h1' := h1
      have h2' := h2
      unfold isAt at h1' h2'
      simp only [Bool.and_eq_true, decide_eq_true_eq] at h1' h2'
      obtain ⟨a, rfl⟩ : ∃ a : Nat, i = (a : Int) := ⟨i.toNat, by omega⟩
      obtain ⟨b, rfl⟩ : ∃ b : Nat, j = (b : Int) := ⟨j.toNat, by omega⟩
      obtain ⟨n, hn⟩ : ∃ n, n = l.length := ⟨_, rfl⟩
      rw [← hn] at h1' h2'
      obtain ⟨⟨A1, c1, hv1, hnc⟩, _⟩ := h.form
      rw [← hn] at hv1 hnc
      obtain ⟨g1, cc, e1, hbg, hlc⟩ := h.o1.form (by omega)
      have hA1 : A1 = some ⟨g1, 0, none⟩ := by rw [hv1] at e1; injection e1
      subst hA1
      subst hv1
      have ho := h.o1
      rw [← hn] at ho
      obtain ⟨x, hx⟩ : ∃ x, l[a]? = some x := ⟨_, List.getElem?_eq_getElem (by omega)⟩
      obtain ⟨y, hy⟩ : ∃ y, l[b]? = some y := ⟨_, List.getElem?_eq_getElem (by omega)⟩
      have px : peekK l (a : Int) = x := by unfold peekK; rw [h1, if_pos rfl, Int.toNat_natCast, List.getD_eq_getElem?_getD, hx]; rfl
      have py : peekK l (b : Int) = y := by unfold peekK; rw [h2, if_pos rfl, Int.toNat_natCast, List.getD_eq_getElem?_getD, hy]; rfl
      have hs : Hid (swapK l (a : Int) (b : Int) = (l.set a y).set b x) := by unfold Hid swapK; rw [h1, h2, px, py]; rfl
      have hcell : ∀ (t : Nat) (v : Value), (flatK l)[t]? = some v → w.cell? ⟨g1, t, none⟩ = some v := fun t v hv => by
        have := ho.cells (g := g1) rfl t v hv
        rwa [add_flat, Nat.zero_add] at this
      have a0 : w.cell? ⟨g1, a * 3, none⟩ = some (.int .i64 x.src) := hcell _ _ (flatK_at l a x hx 0 _ rfl)
      have a1 : w.cell? ⟨g1, a * 3 + 1, none⟩ = some (.int .i64 x.dst) := hcell _ _ (flatK_at l a x hx 1 _ rfl)
      have a2 : w.cell? ⟨g1, a * 3 + 2, none⟩ = some (.string x.data) := hcell _ _ (flatK_at l a x hx 2 _ rfl)
      have b0 : w.cell? ⟨g1, b * 3, none⟩ = some (.int .i64 y.src) := hcell _ _ (flatK_at l b y hy 0 _ rfl)
      have b1 : w.cell? ⟨g1, b * 3 + 1, none⟩ = some (.int .i64 y.dst) := hcell _ _ (flatK_at l b y hy 1 _ rfl)
      have b2 : w.cell? ⟨g1, b * 3 + 2, none⟩ = some (.string y.data) := hcell _ _ (flatK_at l b y hy 2 _ rfl)
      have c0 : w.cell? ⟨g, 0, none⟩ = some (.slice (some ⟨g1, 0, none⟩) n c1) := h.blk.cell 0
      have fz : ∀ t, w.frozen? ⟨g1, t, none⟩ = false := fun t => own_free ho t
      have hcond : ∀ t, t < 3 → (w.cell? ⟨g1, a * 3 + t, none⟩).isSome = true := fun t ht => by
        rcases (show t = 0 ∨ t = 1 ∨ t = 2 by omega) with rfl | rfl | rfl
        · rw [Nat.add_zero, a0]; rfl
        · rw [a1]; rfl
        · rw [a2]; rfl
      rw [h1] at hi
      rw [h2] at hj
      have HI := Lib.hid hi
      have HJ := Lib.hid hj
      have HH := Lib.hid h
      have HO := Lib.hid ho
      have HN := Lib.hid hn
      have han : (a : Int) < (n : Int) := by omega
      have hbn : (b : Int) < (n : Int) := by omega
      have HAB : Hid (a < n ∧ b < n) := ⟨by omega, by omega⟩
      rw [hs.out]
      clear hi hj h h1 h2 ei ej hx hy px py hs hcell ho hn e1 h1' h2' hcond
      go_enter Try.func12, Try.ntmps12
      go_upto_region 3 with (first
        | (go_at_call 23; have _t := HI; with_reducible refine HI.out.mono ?_; rintro e w2 ⟨rfl, hw⟩; obtain rfl := hw.symm; clear HI)
        | (go_at_call 23; with_reducible refine HJ.out.mono ?_; rintro e w2 ⟨rfl, hw⟩; obtain rfl := hw.symm))
      go_region
      all_goals
        go_wp2
        go_ret
        have FX : Frm (at1 g1) w ((((((w.setCell ⟨g1, a * 3, none⟩ (.int .i64 y.src)).setCell ⟨g1, a * 3 + 1, none⟩ (.int .i64 y.dst)).setCell ⟨g1, a * 3 + 2, none⟩ (.string y.data)).setCell ⟨g1, b * 3, none⟩ (.int .i64 x.src)).setCell ⟨g1, b * 3 + 1, none⟩ (.int .i64 x.dst)).setCell ⟨g1, b * 3 + 2, none⟩ (.string x.data)) :=
          ((((((Frm.refl (at1 g1) w).setCell (p := ⟨g1, a * 3, none⟩) (fun _ => rfl) _).setCell (p := ⟨g1, a * 3 + 1, none⟩) (fun _ => rfl) _).setCell (p := ⟨g1, a * 3 + 2, none⟩) (fun _ => rfl) _).setCell (p := ⟨g1, b * 3, none⟩) (fun _ => rfl) _).setCell (p := ⟨g1, b * 3 + 1, none⟩) (fun _ => rfl) _).setCell (p := ⟨g1, b * 3 + 2, none⟩) (fun _ => rfl) _
        have hO := own_swap (x := x) (y := y) HO.out HAB.out.1 HAB.out.2
        have FD : ∀ V : World, Frm no V V.drew := fun V => (Frm.refl no V).drew
        have ht1 : TyAt w g1 29 := own_ty HO.out rfl
        refine ⟨rfl, ⟨(HH.out.blk.frm FX fun e => ?_).frm (FD _) (fun h => h), HH.out.low, ?_, own_frm (own_frm HH.out.o2 FX fun q hq e => ?_) (FD _) (fun _ _ h => h)⟩, ⟨(FX.drew).mono fun q _ e => .inr (.inl (by rw [show q = g1 from e]; rfl)), fun _ h => .inl h⟩⟩
        · have h2 := HH.out.blk.ty
          rw [show g = g1 from e] at h2
          exact absurd (h2.eq ht1) (by decide)
        · have hl : ((l.set a y).set b x).length = n := by rw [List.length_set, List.length_set, HN.out]
          rw [hl]
          exact own_frm hO (FD _) (fun _ _ h => h)
        · have h2 := own_ty HH.out.o2 hq
          rw [show q = g1 from e] at h2
          exact absurd (h2.eq ht1) (by decide)
end Go.Proofs.Ytpkbfdgfdgkbkaa
