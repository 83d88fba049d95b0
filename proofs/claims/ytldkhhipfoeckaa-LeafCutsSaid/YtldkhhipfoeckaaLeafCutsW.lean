/-
  The walk of the law LeafCuts: for every input it returns true and changes nothing that was there. No condition but those of the arguments' form.
-/
import Derived.Test.YtldkhhipfoeckaaLeafAlive
import Derived.Test.YtldkhhipfoeckaaItemRefCut
import Derived.Test.YtldkhhipfoeckaaBookItemsE
import Derived.Test.YtldkhhipfoeckaaBookItemsL
namespace Go.Proofs.Ytldkhhipfoeckaa
open Go Go.RowKit
attribute [local go_sem] cell_set_if

theorem getD_at {α : Type} {l : List α} {i : Nat} {x : α} (h : l[i]? = some x) (d : α) : l.getD i d = x := by rw [List.getD_eq_getElem?_getD, h]; rfl
theorem take_next {α : Type} {l : List α} {i : Nat} {x : α} (h : l[i]? = some x) : l.take (i + 1) = l.take i ++ [x] := by rw [List.take_add_one, h]; rfl
theorem take_at {α : Type} {l : List α} {i k : Nat} {x : α} (h : (l.take k)[i]? = some x) : l[i]? = some x ∧ i < k := by
  rw [List.getElem?_take] at h
  split at h
  · exact ⟨h, ‹_›⟩
  · cases h
theorem icut_no (A : Option Addr) (n c : Nat) (ks : List Im) (w : World) (hr : Rd w A (flatI ks)) (hn : ks.length = n) (hm : n ≤ 1000000) (hR : ¬ RightI ks) :
    Calls Try.prog 57 #[.slice A n c] w fun e w' => e = .returned (.tuple #[.slice none 0 0, .int .i64 1]) ∧ Below w.heap.size w w' := by
  have HRt := Lib.hid (iright_no A n c ks w hr hn hm hR)
  clear hr hn hm hR
  go_enter Try.func57, Try.ntmps57
  go_wp2_with (go_at_call 126; refine HRt.out.mono ?_; rintro e w1 ⟨rfl, b1⟩)
  go_ret2
  exact ⟨rfl, b1⟩
theorem riright_yes (A : Option Addr) (n c : Nat) (ks : List Im) (w : World) (hr : Rd w A (flatI ks)) (hn : ks.length = n) (hm : n ≤ 1000000) (h : RightI ks) :
    Calls Try.prog 58 #[.slice A n c] w fun e w' => e = .returned (.bool true) ∧ Below w.heap.size w w' :=
  (riright_any A n c ks w hr hn hm).mono fun e w' ⟨⟨b, he, hb⟩, hB⟩ => ⟨by rw [he, hb.2 h], hB⟩
theorem riright_no (A : Option Addr) (n c : Nat) (ks : List Im) (w : World) (hr : Rd w A (flatI ks)) (hn : ks.length = n) (hm : n ≤ 1000000) (h : ¬ RightI ks) :
    Calls Try.prog 58 #[.slice A n c] w fun e w' => e = .returned (.bool false) ∧ Below w.heap.size w w' :=
  (riright_any A n c ks w hr hn hm).mono fun e w' ⟨⟨b, he, hb⟩, hB⟩ => ⟨by
    cases b
    · exact he
    · exact absurd (hb.1 rfl) h, hB⟩

set_option maxRecDepth 100000 in
set_option maxHeartbeats 4000000 in
theorem cuts_any (A : Option Addr) (n c : Nat) (ks : List Im) (w : World) (hr : Rd w A (flatI ks)) (hn : ks.length = n) (hc : n ≤ c) :
    Calls Try.prog 6 #[.slice A n c] w fun e w' => e = .returned (.bool true) ∧ Below w.heap.size w w' := by
  have HR := Lib.hid hr
  have HN := Lib.hid hn
  have HC := Lib.hid hc
  have hLt := Lib.hid (light9_any A n c ks w hr hn)
  clear hr hn hc
  go_enter Try.func6, Try.ntmps6
  go_wp2_with fail
  refine hLt.out.mono ?_
  rintro e w1 ⟨⟨bl, rfl, hbl⟩, b1⟩
  cases bl
  · go_wp2_with (go_at_call 55; refine (alive9_any _).mono ?_; rintro e w2 ⟨rfl, b2⟩)
    go_ret
    exact ⟨rfl, below_of b2 b1 b1.size⟩
  obtain ⟨h300, hsum⟩ := hbl rfl
  have HSum := Lib.hid hsum
  have hm : n ≤ 1000000 := by omega
  have hsum6 : sumI ks ≤ 1099511627776 := by omega
  have h300i : (n : Int) ≤ 300 := by omega
  have hLent := Lib.hid fun w hr => lentI_any A n c ks w hr HN.out (by omega)
  have hStays := Lib.hid fun w g d ha hb hd => staysI_any A g n n d c ks w ha hb HN.out hd (by omega)
  clear hbl hsum
  by_cases hR : RightI ks
  · have hCut := Lib.hid fun w A c hc hr => icut_any A n c ks w hr HN.out hc hm hsum6 hR
    have hRt := Lib.hid fun w hr => riright_yes A n c ks w hr HN.out hm hR
    have hRC := Lib.hid fun w hr => ricut_any A n c ks w hr HN.out HC.out hm hsum6 (Small.right hR)
    have HSM := Lib.hid (Small.right hR)
    have HRI := Lib.hid hR
    clear hm hsum6 hR
    go_wp2_with (first
      | (go_at_call 55; refine (alive9_any _).mono ?_; rintro e w2 ⟨rfl, b2⟩; have B2 := below_of b2 b1 b1.size)
      | (go_at_call 56; refine (hLent.out _ (HR.out.below B2)).mono ?_; rintro e w3 ⟨⟨g3, n3, c3, hn3, hc3, rfl, ho3⟩, b3⟩; obtain rfl : n3 = n := by rw [← hn3, HN.out]
         have B3 := below_of b3 B2 B2.size; have M3 := Rd.of_own ho3; have L3 : Rd w3 (some ⟨g3, 0, none⟩) (flatI ks) := by have h := M3; rw [flatI_app] at h; exact h.pre)
      | (go_at_call 57; refine (hCut.out _ _ _ (by omega) L3).mono ?_; rintro e w4 ⟨⟨A4, N, d4, V, rfl, P4⟩, b4⟩; have B4 := below_of b4 B3 B3.size)
      | (go_at_call 58; refine (hRt.out _ (HR.out.below B4)).mono ?_; rintro e w5 ⟨rfl, b5⟩; have B5 := below_of b5 B4 B4.size)
      | (go_at_call 60; refine (hRC.out _ (HR.out.below B5)).mono ?_; rintro e w6 ⟨⟨A6, N6, d6, V6, rfl, hN6, R6, D6⟩, b6⟩; obtain rfl : N6 = N := by rw [hN6, P4.len]
         have B6 := below_of b6 B5 B5.size; have HN6 := Lib.hid hN6; clear hN6))
    have P6 := (P4.below b5).below b6
    have M6 := ((M3.below b4).below b5).below b6
    have hlo : w.heap.size ≤ w3.heap.size := B3.size
    have hN52 : N6 ≤ 53 := by have h1 := cutS_count ks HSM.out; have h2 := HSum.out; have h3 := HN6.out; omega
    have hNi : (N6 : Int) ≤ 53 := by omega
    have hflen : ∀ i, ((cutS ks).getD i []).length ≤ 100 := fun i => by
      cases h : (cutS ks)[i]? with
      | none => rw [List.getD_eq_getElem?_getD, h]; simp
      | some p =>
        rw [getD_at h]
        have h1 := (cutS_parts ks HSM.out i p h).2.1
        have h2 := sumI_len p
        omega
    have HFLEN := Lib.hid hflen
    have hK0 := BookI.start w.heap.size w6 B6.size (fun j => (cutS ks).getD j [])
    clear hflen
    go_loopw [8] (fun u8 wr => ∃ (k : Nat) (v1 v2 : Value) (W : List Value), k ≤ N6 ∧ u8 = .int .i64 k ∧ BookI w.heap.size wr w6.heap.size k (fun j => (cutS ks).getD j []) v1 v2 (V.take k) W ∧ (∀ q, v1.ownBlock = some q → w6.heap.size ≤ q) ∧ (∀ q, v2.ownBlock = some q → w6.heap.size ≤ q) ∧ Below w6.heap.size w6 wr) (fun u8 _ => N6 - (intOf u8).toNat)
    case atStart => exact ⟨0, _, _, [], by omega, rfl, hK0, fun q hq => by simp [Value.ownBlock] at hq, fun q hq => by simp [Value.ownBlock] at hq, (Below.refl _ _).alloc (Nat.le_refl _) _⟩
    case round =>
      obtain ⟨k, v1, v2, W, hk, rfl, hK, hv1, hv2, hB⟩ := hrel
      have HK := Lib.hid hK
      have HV1 := Lib.hid hv1
      have HV2 := Lib.hid hv2
      clear hK hv1 hv2
      by_cases hlt : k < N6
      · obtain ⟨p, hp⟩ : ∃ p, (cutS ks)[k]? = some p := ⟨(cutS ks)[k]'(by have := HN6.out; omega), List.getElem?_eq_getElem _⟩
        obtain ⟨hpne, hpfit, _⟩ := cutS_parts ks HSM.out k p hp
        have hpR := cutS_right ks HRI.out k p hp
        obtain ⟨Ai, ci, hVi, hOi⟩ := P6.rows.at_ k hlt
        rw [getD_at hp] at hVi hOi
        obtain ⟨Aw, cw, hVw, hRw⟩ := D6.at_ k p hp
        obtain ⟨b0, o0, hA0, hb0, hcs⟩ := (Rd.of_own P6.own).flat (by rw [P6.rows.len]; omega)
        obtain ⟨bw, ow, hAw, hbw, hcw⟩ := R6.flat (by rw [D6.len]; have := HN6.out; omega)
        subst hA0 hAw
        obtain ⟨L, hL⟩ : ∃ L, L = p.length := ⟨_, rfl⟩
        rw [← hL] at hVi hOi hVw
        have c0 := hcs k _ hVi
        have c1 := hcw k _ hVw
        have c0r := cell_bb hB hb0 c0
        have c1r := cell_bb hB hbw c1
        have hL100 : L ≤ 100 := by have := HFLEN.out k; rw [getD_at hp] at this; omega
        obtain ⟨S, hS⟩ : ∃ S, S = bs (layL9 p) := ⟨_, rfl⟩
        have hLay : ∀ w, Rd w Ai (flatI p) → Calls Try.prog 61 #[.slice Ai L ci] w fun e w' => e = .returned (.tuple #[.string S, .int .i64 0]) ∧ Below w.heap.size w w' := fun w hr => by
          have := ilay_any Ai L ci p w hr hL.symm (by omega) (by omega)
          rw [layS_ok hpR (by omega)] at this
          rw [hS]; exact this
        have hfresh : ∀ (i : Nat) (x : Value) (b : Nat), (V.take k)[i]? = some x → x.ownBlock = some b → (Value.slice Ai L ci).ownBlock ≠ some b := fun i x b hx hb => by
          obtain ⟨hx2, hik⟩ := take_at hx
          exact P6.ap i k x _ b (by omega) hx2 hVi hb
        have HLay := Lib.hid hLay
        have HFresh := Lib.hid hfresh
        have HOi := Lib.hid hOi
        have HRw := Lib.hid hRw
        have HL := Lib.hid hL.symm
        have HP := Lib.hid hp
        have HTK : Hid (V.take (k + 1) = V.take k ++ [.slice Ai L ci]) := take_next hVi
        have hkN : (k : Int) < (N6 : Int) := by omega
        clear hLay hfresh hOi hRw hL hp hS hpR hpne hpfit hVi hVw hcs hcw
        go_wp2_with (first
          | (go_at_call 61; refine (HLay.out _ ((Rd.of_own HOi.out).below (hB.mono (Nat.le_refl _)))).mono ?_; rintro e w7 ⟨rfl, b7⟩; have B7 := below_of b7 hB hB.size; have c07 := cell_bb B7 hb0 c0)
          | (go_at_call 62; refine (addI_any w.heap.size w6.heap.size k _ v1 v2 (V.take k) W Ai L ci p _ (HK.out.below b7) (by omega) (by have := B6.size; have := B7.size; omega) HL.out (by omega) (own_base (own_frm HOi.out (S := no) (Frm.of_below B7) (fun _ _ h => h)) hlo) HFresh.out).mono ?_
             rintro e w8 ⟨rfl, ⟨v1', v2', W', K8, hv1', hv2'⟩, F8⟩
             have B8 : Below w6.heap.size w6 w8 := B7.trans (F8.below B7.size (fun i hi => by
               rcases hi with h | h | h
               · omega
               · exact HV1.out i h
               · exact HV2.out i h))
             have c08 := cell_bb B8 hb0 c0
             have c18 := cell_bb B8 hbw c1))
        have RA8 := (Rd.of_own HOi.out).below B8
        have RW8 := HRw.out.below B8
        have hS8 : ∀ m, Calls Try.prog 63 #[.slice Ai L ci, .slice Aw L cw] (w8.drewN m) fun e w' => e = .returned (.bool true) ∧ ∃ q, w' = (w8.drewN m).drewN q := fun m =>
          sameI_yes Ai Aw L ci cw p _ (RA8.drewN m) (RW8.drewN m) HL.out (by omega)
        have HS8 := Lib.hid hS8
        clear hS8 RA8 RW8
        go_quiet ((go_at_call 63; exact Calls.quiet_of (HS8.out _)))
        go_wp2
        go_roundw
        case rel => exact ⟨k + 1, v1', v2', W', by omega, by go_num, by
            rw [HTK.out]
            refine (K8.below (below_drewN (Below.refl _ _) _)).congr fun j hj => ?_
            by_cases hc : j = k
            · subst hc; rw [if_pos rfl, getD_at HP.out]
            · rw [if_neg hc], fun q hq => by
              rcases hv1' q hq with h | h
              · exact HV1.out q h
              · have := B7.size; omega, fun q hq => by
              rcases hv2' q hq with h | h
              · exact HV2.out q h
              · have := B7.size; omega, below_drewN B8 _⟩
        case measure => simp [intOf]; omega
      · obtain rfl : k = N6 := by omega
        have hVt : V.take k = V := List.take_of_length_le (by rw [P6.rows.len]; exact Nat.le_refl _)
        have K9 := HK.out
        rw [hVt] at K9
        have M9 := M6.below hB
        have B9 := below_of hB B6 B6.size
        have HK9 := Lib.hid K9
        clear K9 hVt
        go_wp2_with (first
          | (go_at_call 59; refine (hStays.out _ _ _ M9 (HR.out.below B9) hc3).mono ?_; rintro e w10 ⟨rfl, q10⟩; have B10 := B9.trans (q10.below _); have K10 := HK9.out.below (q10.below _))
          | (go_at_call 18; refine (apartI_any w.heap.size w6.heap.size k (fun i => ((cutS ks).getD i []).length) (fun j => (cutS ks).getD j []) v1 v2 V W _ K10 (by omega) (fun _ => rfl) (fun i => by have := HFLEN.out i; omega) B10.size).mono ?_; rintro e w11 ⟨rfl, F11⟩
             have B11 := B10.trans (F11.below B10.size (fun i hi => by obtain ⟨j, x, hx, hq⟩ := hi; exact (K10.rV.lt j x i hx hq).1))))
        go_ret
        exact ⟨rfl, B11⟩
  · have hCut := Lib.hid fun w A c hr => icut_no A n c ks w hr HN.out hm hR
    have hRt := Lib.hid fun w hr => riright_no A n c ks w hr HN.out hm hR
    clear hm hsum6 hR
    go_wp2_with (first
      | (go_at_call 55; refine (alive9_any _).mono ?_; rintro e w2 ⟨rfl, b2⟩; have B2 := below_of b2 b1 b1.size)
      | (go_at_call 56; refine (hLent.out _ (HR.out.below B2)).mono ?_; rintro e w3 ⟨⟨g3, n3, c3, hn3, hc3, rfl, ho3⟩, b3⟩; obtain rfl : n3 = n := by rw [← hn3, HN.out]
         have B3 := below_of b3 B2 B2.size; have M3 := Rd.of_own ho3; have L3 : Rd w3 (some ⟨g3, 0, none⟩) (flatI ks) := by have h := M3; rw [flatI_app] at h; exact h.pre)
      | (go_at_call 57; refine (hCut.out _ _ _ L3).mono ?_; rintro e w4 ⟨rfl, b4⟩; have B4 := below_of b4 B3 B3.size)
      | (go_at_call 58; refine (hRt.out _ (HR.out.below B4)).mono ?_; rintro e w5 ⟨rfl, b5⟩; have B5 := below_of b5 B4 B4.size; have M5 := (M3.below b4).below b5)
      | (go_at_call 59; refine (hStays.out _ _ _ M5 (HR.out.below B5) hc3).mono ?_; rintro e w6 ⟨rfl, q6⟩; have B6 := B5.trans (q6.below _)))
    go_ret
    exact ⟨rfl, B6⟩
end Go.Proofs.Ytldkhhipfoeckaa
