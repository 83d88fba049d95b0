/-
  A book marks all its lists of entries. Conditions: fewer than a thousand lists of no more than 100000 elements.
-/
import Derived.Test.YtgigkekajdgngaaGreatBookEntriesB
namespace Go.Proofs.YtgigkekajdgngaaGreat
open Go Go.RowKit
attribute [local go_sem] cell_set_if

theorem flatEn_set (xs : List En) (k : Nat) (x : En) : (((((flatEn xs).set (k * 5) (.int .i64 x.index)).set (k * 5 + 1) (.int .i64 x.term)).set (k * 5 + 2) (.int .i64 x.client)).set (k * 5 + 3) (.int .i64 x.seq)).set (k * 5 + 4) (.slice x.A x.n x.c) = flatEn (xs.set k x) := by
  induction xs generalizing k with
  | nil => rfl
  | cons y ys ih =>
    have e : ∀ (z : En) zs, flatEn (z :: zs) = .int .i64 z.index :: .int .i64 z.term :: .int .i64 z.client :: .int .i64 z.seq :: .slice z.A z.n z.c :: flatEn zs := fun _ _ => rfl
    cases k with
    | zero => rw [e]; rfl
    | succ k =>
      rw [e, List.set_cons_succ (xs := ys), e, ← ih k, show (k + 1) * 5 = k * 5 + 1 + 1 + 1 + 1 + 1 by omega]
      rfl
/-- The book, its lists as f tells; it does not matter what the copies are. -/
structure BookP (base : Nat) (w : World) (g N : Nat) (f : Nat → List En) (v1 v2 : Value) (V : List Value) : Prop where
  lo : base ≤ g
  B : Blk w g 39 (bookEn v1 v2)
  r1 : w.ownsRow base 22 1 v1 N V
  rV : RowsEn w base V N f
  ap : ApartV V
theorem BookEn.p {base g N : Nat} {w : World} {f fw : Nat → List En} {v1 v2 : Value} {V W : List Value} (h : BookEn base w g N f fw v1 v2 V W) : BookP base w g N f v1 v2 V := ⟨h.lo, h.B, h.r1, h.rV, h.ap⟩
section
variable {base g N : Nat} {w w' : World} {f : Nat → List En} {v1 v2 : Value} {V : List Value}
theorem BookP.below (h : BookP base w g N f v1 v2 V) (k : Below w.heap.size w w') : BookP base w' g N f v1 v2 V :=
  ⟨h.lo, h.B.below k, own_frm h.r1 (S := no) (Frm.of_below k) (fun _ _ h => h), h.rV.below k, h.ap⟩
theorem BookP.congr {f' : Nat → List En} (h : BookP base w g N f v1 v2 V) (e : ∀ i, i < N → f' i = f i) : BookP base w g N f' v1 v2 V := ⟨h.lo, h.B, h.r1, h.rV.congr e, h.ap⟩
/-- One element of one list is set. -/
theorem BookP.put (h : BookP base w g N f v1 v2 V) {i gi n c k : Nat} {xs : List En} (hi : i < N) (hV : V[i]? = some (.slice (some ⟨gi, 0, none⟩) n c)) (hf : f i = xs) (hn : xs.length = n) (hk : k < n) (x : En) :
    BookP base ((((((w).setCell ⟨gi, k * 5, none⟩ (.int .i64 x.index)).setCell ⟨gi, k * 5 + 1, none⟩ (.int .i64 x.term)).setCell ⟨gi, k * 5 + 2, none⟩ (.int .i64 x.client)).setCell ⟨gi, k * 5 + 3, none⟩ (.int .i64 x.seq)).setCell ⟨gi, k * 5 + 4, none⟩ (.slice x.A x.n x.c)) g N (fun j => if j = i then xs.set k x else f j) v1 v2 V ∧ Frm (VS V) w ((((((w).setCell ⟨gi, k * 5, none⟩ (.int .i64 x.index)).setCell ⟨gi, k * 5 + 1, none⟩ (.int .i64 x.term)).setCell ⟨gi, k * 5 + 2, none⟩ (.int .i64 x.client)).setCell ⟨gi, k * 5 + 3, none⟩ (.int .i64 x.seq)).setCell ⟨gi, k * 5 + 4, none⟩ (.slice x.A x.n x.c)) := by
  have F : Frm (at1 gi) w ((((((w).setCell ⟨gi, k * 5, none⟩ (.int .i64 x.index)).setCell ⟨gi, k * 5 + 1, none⟩ (.int .i64 x.term)).setCell ⟨gi, k * 5 + 2, none⟩ (.int .i64 x.client)).setCell ⟨gi, k * 5 + 3, none⟩ (.int .i64 x.seq)).setCell ⟨gi, k * 5 + 4, none⟩ (.slice x.A x.n x.c)) := ((((((Frm.refl (at1 gi) w).setCell (p := ⟨gi, k * 5, none⟩) (fun _ => rfl) _).setCell (p := ⟨gi, k * 5 + 1, none⟩) (fun _ => rfl) _).setCell (p := ⟨gi, k * 5 + 2, none⟩) (fun _ => rfl) _).setCell (p := ⟨gi, k * 5 + 3, none⟩) (fun _ => rfl) _).setCell (p := ⟨gi, k * 5 + 4, none⟩) (fun _ => rfl) _)
  have hob : (Value.slice (some ⟨gi, 0, none⟩) n c).ownBlock = some gi := rfl
  subst hn
  refine ⟨⟨h.lo, h.B.frm F fun e => ?_, own_frm h.r1 F fun b hb e => ?_, ⟨h.rV.len, fun j hj => ?_⟩, h.ap⟩, F.mono fun b _ hb => ⟨i, _, hV, by unfold at1 at hb; rw [hob, hb]⟩⟩
  · unfold at1 at e; exact h.rV.neB h.B (by decide) i _ gi hV hob e.symm
  · unfold at1 at e; subst e; exact h.rV.ne h.r1 (by decide) i _ b hV hob hb
  · obtain ⟨A, d, h1, h2⟩ := h.rV.at_ j hj
    by_cases hc : j = i
    · subst hc
      rw [hV] at h1
      rw [hf] at h1 h2
      injection h1 with h1
      have e1 : A = some ⟨gi, 0, none⟩ := by injection h1 with h1; exact h1.symm
      have e2 : d = c := by injection h1 with _ _ h1; exact h1.symm
      subst e1 e2
      rw [if_pos rfl, List.length_set]
      refine ⟨_, _, hV, ?_⟩
      rw [← flatEn_set]
      exact own_put (own_put (own_put (own_put (own_put h2 (by omega)) (by omega)) (by omega)) (by omega)) (by omega)
    · rw [if_neg hc]
      refine ⟨A, d, h1, own_frm h2 F fun b hb e => ?_⟩
      unfold at1 at e; subst e
      exact h.ap j i _ _ b hc h1 hV hb hob
end
/-- The i-th list, k of its elements marked. -/
def mixEn (i k : Nat) (xs : List En) : List En := marksEn i 0 k ++ xs.drop k
theorem mixEn_len (i k : Nat) (xs : List En) (h : k ≤ xs.length) : (mixEn i k xs).length = xs.length := by
  unfold mixEn; rw [List.length_append, marksEn_len, List.length_drop]; omega
theorem mixEn_set (i k : Nat) (xs : List En) (h : k < xs.length) : (mixEn i k xs).set k (markEn i k) = mixEn i (k + 1) xs := by
  unfold mixEn
  rw [List.set_append_right _ _ (by rw [marksEn_len]; exact Nat.le_refl _), marksEn_len, Nat.sub_self, marksEn_succ, List.drop_eq_getElem_cons h, List.set_cons_zero, List.append_assoc, Nat.zero_add]
  rfl
theorem mixEn_all (i : Nat) (xs : List En) : mixEn i xs.length xs = marksEn i 0 xs.length := by
  unfold mixEn; rw [List.drop_length, List.append_nil]

set_option maxRecDepth 100000 in
set_option maxHeartbeats 2000000 in
theorem putEn_any (base g N : Nat) (f : Nat → List En) (v1 v2 : Value) (V : List Value) (w : World) (h : BookP base w g N f v1 v2 V) (hN : N < 1000) (hf : ∀ i, (f i).length ≤ 100000) :
    Calls Tryz.prog 59 #[.pointer (some ⟨g, 0, none⟩)] w fun e w' => e = .returned (.tuple #[]) ∧ BookP base w' g N (fun i => marksEn i 0 (f i).length) v1 v2 V ∧ Frm (VS V) w w' := by
  obtain ⟨A1, c1, hv1, hc1⟩ := own_form h.r1
  have HV1 := Lib.hid hv1
  have HF := Lib.hid hf
  have hNN : (N : Int) < 1000 := by omega
  have H0 := Lib.hid h
  clear h hv1 hf
  go_enter Tryz.func59, Tryz.ntmps59
  go_wp2
  go_loopw [2, 3, 4] (fun u2 u3 u4 wr => ∃ i : Nat, i ≤ N ∧ u2 = .int .i64 i ∧ BookP base wr g N (fun j => if j < i then marksEn j 0 (f j).length else f j) v1 v2 V ∧ Frm (VS V) w wr) (fun u2 _ _ _ => N - (intOf u2).toNat)
  case atStart => exact ⟨0, by omega, rfl, H0.out.congr fun i hi => by simp, Frm.refl _ _⟩
  case round =>
    obtain ⟨i, hi, rfl, hP, hF⟩ := hrel
    have e6 : wr.cell? ⟨g, 16, none⟩ = some (.slice A1 N c1) := by rw [hP.B.cell 16, HV1.out]; rfl
    by_cases hlt : i < N
    · obtain ⟨B1, d1, hV, hO⟩ := hP.rV.at_ i hlt
      simp only [Nat.lt_irrefl, if_false] at hV hO
      have hR1 : Rd wr A1 V := Rd.of_own (by have := hP.r1; rwa [HV1.out] at this)
      obtain ⟨b1, o1, rfl, hb1, hcs1⟩ := hR1.flat (by rw [hP.rV.len]; omega)
      have x1 : wr.cell? ⟨b1, o1 + i, none⟩ = some (.slice B1 (f i).length d1) := hcs1 i _ hV
      have hii : (i : Int) < (N : Int) := by omega
      have hL := HF.out i
      obtain ⟨xs, hxs⟩ : ∃ xs, xs = f i := ⟨_, rfl⟩
      obtain ⟨L, hLL⟩ : ∃ L, L = xs.length := ⟨_, rfl⟩
      rw [← hxs, ← hLL] at x1 hL hV
      have HXS := Lib.hid hxs
      have HLL := Lib.hid hLL
      have hMk := Lib.hid (markEn_any i 0 L wr (by omega) (by omega) hL)
      have hP0 : BookP base wr g N (fun j => if j < i then marksEn j 0 (f j).length else if j = i then mixEn i 0 xs else f j) v1 v2 V := hP.congr fun j _ => by
        by_cases h1 : j < i
        · simp [h1]
        · by_cases h2 : j = i
          · subst h2; simp [mixEn, marksEn, HXS.out]
          · simp [h1, h2]
      have HP0 := Lib.hid hP0
      have HVi := Lib.hid hV
      clear hO hR1 hcs1 hP hP0 hV hxs hLL
      go_wp2_with (go_at_call 117; refine hMk.out.mono ?_; rintro e w3 ⟨⟨A3, n3, c3, hn3, rfl, ho3⟩, b3⟩; obtain rfl : n3 = L := by rw [← hn3, marksEn_len])
      have F3 := hF.step b3
      have P3 := HP0.out.below b3
      obtain ⟨bs, hbs⟩ : ∃ bs, bs = wr.heap.size := ⟨_, rfl⟩
      rw [← hbs] at ho3
      have hlo : bs ≤ w3.heap.size := by rw [hbs]; exact b3.size
      have hlo2 : ∀ (j : Nat) (x : Value) (q : Nat), V[j]? = some x → x.ownBlock = some q → q < bs := fun j x q hx hq => by rw [hbs]; exact (HP0.out.rV.lt j x q hx hq).2
      have HLO2 := Lib.hid hlo2
      clear hF hbs hlo2
      go_loopw [4] (fun u4 wx => ∃ k : Nat, k ≤ n3 ∧ u4 = .int .i64 k ∧ BookP base wx g N (fun j => if j < i then marksEn j 0 (f j).length else if j = i then mixEn i k xs else f j) v1 v2 V ∧ Frm (VS V) w wx ∧ wx.ownsRow bs 61 5 (.slice A3 n3 c3) n3 (flatEn (marksEn i 0 n3))) (fun u4 _ => n3 - (intOf u4).toNat)
      case atStart => exact ⟨0, by omega, rfl, P3, F3, ho3⟩
      case round =>
        obtain ⟨k, hk, rfl, hPk, hFk, hOk⟩ := hrel
        by_cases hlt2 : k < n3
        · obtain ⟨Bi, di, hVi, hOi⟩ := hPk.rV.at_ i hlt
          simp only [Nat.lt_irrefl, if_false, if_true] at hVi hOi
          have hml : (mixEn i k xs).length = n3 := by rw [mixEn_len i k xs (by have := HLL.out; omega), ← HLL.out]
          rw [hml] at hVi hOi
          obtain ⟨gi, ci, hvi, _, hgl⟩ := hOi.form (by omega)
          have hBi : Bi = some ⟨gi, 0, none⟩ := by injection hvi
          subst hBi
          obtain ⟨b3', o3, x, hA3, hb3, hx, m0, m1, m2, m3, m4⟩ := (Rd.of_own hOk).en (k := k) (by rw [marksEn_len]; omega)
          rw [marksEn_at _ _ _ _ hlt2, Nat.zero_add] at hx
          injection hx with hx
          subst hA3
          obtain ⟨b4, o4, y, hA4, _, _, y0, y1, y2, y3, y4⟩ := (Rd.of_own hOi).en (k := k) (by rw [hml]; omega)
          injection hA4 with hA4
          injection hA4 with e1 e2
          subst e1 e2
          rw [Nat.zero_add] at y0 y1 y2 y3 y4
          have z0 := own_free hOi (k * 5)
          have z1 := own_free hOi (k * 5 + 1)
          have z2 := own_free hOi (k * 5 + 2)
          have z3 := own_free hOi (k * 5 + 3)
          have z4 := own_free hOi (k * 5 + 4)
          have e6 : wr.cell? ⟨g, 16, none⟩ = some (.slice (some ⟨b1, o1, none⟩) N c1) := by rw [hPk.B.cell 16, HV1.out]; rfl
          obtain ⟨ad5, eA5, x5⟩ := (Rd.of_own (by have := hPk.r1; rwa [HV1.out] at this : wr.ownsRow base 22 1 (.slice (some ⟨b1, o1, none⟩) N c1) N V)) i _ hVi
          injection eA5 with eA5
          subst eA5
          rw [add_flat] at x5
          have hki : (k : Int) < (n3 : Int) := by omega
          obtain ⟨hP6, hF6⟩ := hPk.put hlt hVi (by simp) hml hlt2 (markEn i k)
          rw [hx] at hP6 hF6
          have HMX := Lib.hid hx
          have HP6 := Lib.hid hP6
          have HF6 := Lib.hid hF6
          have HOk := Lib.hid hOk
          clear hx hP6 hF6 hOi hVi hml hvi hOk
          go_wp2
          go_region
          go_wp2
          go_roundw
          case rel => exact ⟨k + 1, by omega, by go_num, (HP6.out.below ((Below.refl _ _).drew)).congr fun j _ => (by
            by_cases h2 : j = i
            · subst h2
              simp only [Nat.lt_irrefl, if_false, if_true]
              rw [← mixEn_set j k xs (by have := HLL.out; omega), HMX.out]
            · simp only [h2, if_false]), (hFk.then_ HF6.out).drew, own_frm HOk.out HF6.out.drew (fun q hq ⟨j, y, hy, hyq⟩ => by have h1 := HLO2.out j y q hy hyq; have h2 := (HOk.out.lt q hq).1; omega)⟩
          case measure => simp [intOf]; omega
        · obtain rfl : k = n3 := by omega
          go_wp2
          go_roundw
          case rel => exact ⟨i + 1, by omega, by go_num, hPk.congr fun j _ => by
            by_cases h1 : j < i
            · rw [if_pos (by omega), if_pos h1]
            · by_cases h2 : j = i
              · subst h2; rw [if_pos (by omega), if_neg h1, if_pos rfl, HLL.out, HXS.out, mixEn_all]
              · rw [if_neg (by omega), if_neg h1, if_neg h2], hFk⟩
          case measure => simp [intOf]; omega
    · obtain rfl : i = N := by omega
      go_wp2
      go_end0
      exact ⟨rfl, hP.congr fun j hj => by simp [hj], hF⟩
end Go.Proofs.YtgigkekajdgngaaGreat
