/-
  What the document's SizeItems and CutItems give. Conditions: the items are right; no more than a million.
-/
import Derived.Test.YtldkhhipfoeckaaItemCut
namespace Go.Proofs.Ytldkhhipfoeckaa
open Go Go.RowKit
attribute [local go_sem] cell_set_if

set_option maxRecDepth 100000 in
set_option maxHeartbeats 1000000 in
theorem risize_any (A : Option Addr) (n c : Nat) (ks : List Im) (w : World) (hr : Rd w A (flatI ks)) (hn : ks.length = n) (hs : sumI ks ≤ 1099511627776) :
    Calls Try.prog 128 #[.slice A n c] w fun e w' => e = .returned (.int .i64 (1 + sumI ks)) ∧ Qt w w' := by
  have HR := Lib.hid hr
  have HN := Lib.hid hn
  have HS := Lib.hid hs
  have HT : Hid (ks.take n = ks) := List.take_of_length_le (by omega)
  have hnn : (n : Int) ≤ 1099511627776 := by have := sumI_len ks; omega
  clear hr hn hs
  go_enter Try.func128, Try.ntmps128
  go_wp2
  go_loopw [3, 4] (fun u3 u4 wr => ∃ k : Nat, k ≤ n ∧ u4 = .int .i64 k ∧ u3 = .int .i64 (1 + sumI (ks.take k)) ∧ Qt w wr) (fun _ u4 _ => n - (intOf u4).toNat)
  case atStart => exact ⟨0, by omega, rfl, rfl, Qt.refl _⟩
  case round =>
    obtain ⟨k, hk, rfl, rfl, hQ⟩ := hrel
    by_cases hlt : k < n
    · obtain ⟨bb, o, x, rfl, hbb, hx, d0, d1, d2⟩ := HR.out.item (k := k) (by have := HN.out; omega)
      have hqc : ∀ p, wr.cell? p = w.cell? p := fun p => by obtain ⟨m, rfl⟩ := hQ; rfl
      rw [← hqc] at d0 d1
      have hst := Lib.hid (sumI_take ks k x hx)
      have hl1 := sumI_le ks (k + 1)
      rw [hst.out] at hl1
      have hs := HS.out
      have e0 : (sumI (ks.take k) : Int) + (5 + (x.key.size : Int) + (x.val.size : Int)) ≤ 1099511627776 := by omega
      have e1 : (0 : Int) ≤ (sumI (ks.take k) : Int) := by omega
      have e2 : (0 : Int) ≤ (x.key.size : Int) := by omega
      have e3 : (0 : Int) ≤ (x.val.size : Int) := by omega
      have hki : (k : Int) < (n : Int) := by omega
      generalize hq : sumI (ks.take k) = q at *
      have HQ := Lib.hid hq
      have s1 : IntKind.i64.wrap ((1 : Int) + (q : Int) + 5) = (1 : Int) + (q : Int) + 5 := IntWalk.i64_in _ (by omega)
      have s2 : IntKind.i64.wrap ((1 : Int) + (q : Int) + 5 + (x.key.size : Int)) = (1 : Int) + (q : Int) + 5 + (x.key.size : Int) := IntWalk.i64_in _ (by omega)
      have s3 : IntKind.i64.wrap ((1 : Int) + (q : Int) + 5 + (x.key.size : Int) + (x.val.size : Int)) = (1 : Int) + (q : Int) + 5 + (x.key.size : Int) + (x.val.size : Int) := IntWalk.i64_in _ (by omega)
      clear hq d2 hx hl1 hs hqc
      go_wp2
      go_quiet (fail)
      go_wp2
      go_roundw
      case rel => exact ⟨k + 1, by omega, by go_num, by rw [hst.out]; congr 1; omega, hQ.trans (Qt.drewN _ _)⟩
      case measure => simp [intOf]; omega
    · obtain rfl : k = n := by omega
      go_wp2
      go_ret
      exact ⟨by rw [HT.out]; rfl, hQ⟩

/-- A slice's length. -/
def lenV : Value → Nat
  | .slice _ n _ => n
  | _ => 0
/-- Slices that read as these lists, behind a row. -/
structure ReadsI (w : World) (V : List Value) (ps : List (List Im)) : Prop where
  len : V.length = ps.length
  at_ : ∀ (i : Nat) (p : List Im), ps[i]? = some p → ∃ A c, V[i]? = some (.slice A p.length c) ∧ Rd w A (flatI p)
theorem ReadsI.below {w w' : World} {V : List Value} {ps : List (List Im)} (h : ReadsI w V ps) (k : Below w.heap.size w w') : ReadsI w' V ps :=
  ⟨h.len, fun i p hp => by obtain ⟨A, c, h1, h2⟩ := h.at_ i p hp; exact ⟨A, c, h1, h2.below k⟩⟩
theorem ReadsI.snoc {w : World} {V : List Value} {ps : List (List Im)} (h : ReadsI w V ps) {A : Option Addr} {c n : Nat} {p : List Im} (hn : p.length = n) (hr : Rd w A (flatI p)) : ReadsI w (V ++ [.slice A n c]) (ps ++ [p]) := by
  subst hn
  refine ⟨by rw [List.length_append, List.length_append, h.len]; rfl, fun i q hq => ?_⟩
  by_cases hc : i < ps.length
  · rw [List.getElem?_append_left hc] at hq
    obtain ⟨B, d, h1, h2⟩ := h.at_ i q hq
    exact ⟨B, d, by rw [List.getElem?_append_left (by rw [h.len]; exact hc)]; exact h1, h2⟩
  · have hi : i = ps.length := by
      have := (List.getElem?_eq_some_iff.1 hq).1
      rw [List.length_append] at this
      simp at this
      omega
    subst hi
    rw [List.getElem?_append_right (Nat.le_refl _), Nat.sub_self] at hq
    injection hq with hq
    subst hq
    exact ⟨A, c, by rw [List.getElem?_append_right (by rw [h.len]; exact Nat.le_refl _), h.len, Nat.sub_self]; rfl, hr⟩

theorem Rd.rest {w : World} {b o : Nat} {ks : List Im} (h : Rd w (some ⟨b, o, none⟩) (flatI ks)) (m : Nat) : Rd w (some ⟨b, o + m * 3, none⟩) (flatI (ks.drop m)) := by
  have := Rd.part h m ks.length
  rwa [List.take_of_length_le (by rw [List.length_drop]; omega)] at this
set_option maxRecDepth 100000 in
set_option maxHeartbeats 2000000 in
theorem ricut_any (A : Option Addr) (n c : Nat) (ks : List Im) (w : World) (hr : Rd w A (flatI ks)) (hn : ks.length = n) (hc : n ≤ c) (hm : n ≤ 1000000) (hs : sumI ks ≤ 1099511627776) (hsm : Small ks) :
    Calls Try.prog 60 #[.slice A n c] w fun e w' => (∃ B N d V, e = .returned (.slice B N d) ∧ N = (cutS ks).length ∧ Rd w' B V ∧ ReadsI w' V (cutS ks)) ∧ Below w.heap.size w w' := by
  obtain ⟨i1, hi1, hz0, hz1, hz2⟩ := info_parts partrow
  have HSM := Lib.hid hsm
  have HS := Lib.hid hs
  have HN := Lib.hid hn
  have HR := Lib.hid hr
  have hnn : (n : Int) ≤ 1000000 := by omega
  clear hr hn hs hsm
  go_enter Try.func60, Try.ntmps60
  go_wp2
  go_loopw [0, 3] (fun u0 u3 wr => ∃ (f N : Nat) (Al : Option Addr) (nl cl : Nat) (ps : List (List Im)) (V : List Value), f ≤ n ∧ N ≤ f ∧ u0 = .slice Al nl cl ∧ f + nl = n ∧ nl ≤ cl ∧ Rd w Al (flatI (ks.drop f)) ∧ wr.ownsRow w.heap.size 96 1 u3 N V ∧ ReadsI w V ps ∧ N = ps.length ∧ cutS ks = ps ++ cutS (ks.drop f) ∧ Below w.heap.size w wr) (fun u0 _ _ => lenV u0)
  case atStart => exact ⟨0, 0, A, n, c, [], [], by omega, by omega, rfl, by omega, hc, HR.out, World.ownsRow_nil _ _ _ _, ⟨rfl, fun i p h => by simp at h⟩, rfl, by simp, Below.refl _ _⟩
  case round =>
    obtain ⟨f, N, Al, nl, cl, ps, V, hf, hNf, rfl, hfn, hcl, hRl, hO, hRD, hNp, hC, hB⟩ := hrel
    have HC := Lib.hid hC
    clear hC
    by_cases hlt : 0 < nl
    · have hne : ks.drop f ≠ [] := fun e => by have := congrArg List.length e; rw [List.length_drop, HN.out, List.length_nil] at this; omega
      have hlen : (ks.drop f).length = nl := by rw [List.length_drop, HN.out]; omega
      have hCut := cutS_ne (HSM.out.drop f) hne
      have h1 : 1 + sumI ((ks.drop f).take 1) ≤ 232 := by
        have e : (ks.drop f)[0]? = some ((ks.drop f)[0]'(by omega)) := List.getElem?_eq_getElem _
        have := sumI_take _ 0 _ e
        have h2 := HSM.out.drop f 0 _ e
        rw [List.take_zero, sumI_nil, Nat.zero_add] at this
        omega
      obtain ⟨b, o, rfl, hbb, _⟩ := hRl.flat (by rw [flatI_len, hlen]; omega)
      have hRq : ∀ q, Rd w (some ⟨b, o, none⟩) (flatI ((ks.drop f).take q)) := fun q => by rw [← flatI_take]; exact hRl.take _
      have hsl : ∀ q, sumI ((ks.drop f).take q) ≤ 1099511627776 := fun q => by
        have h1 := sumI_le (ks.drop f) q
        have h2 := sumI_app (ks.take f) (ks.drop f)
        rw [List.take_append_drop] at h2
        have h3 := HS.out
        omega
      have hll : ∀ q, q ≤ nl → ((ks.drop f).take q).length = q := fun q hq => by rw [List.length_take, hlen]; omega
      have H1 := Lib.hid h1
      have HCut := Lib.hid hCut
      have HLen := Lib.hid hlen
      have HRq := Lib.hid hRq
      have HRl := Lib.hid hRl
      have HSL := Lib.hid hsl
      have HLL := Lib.hid hll
      have HNp := Lib.hid hNp
      have hnli : (0 : Int) < (nl : Int) := by omega
      have hnlc : (nl : Int) ≤ (cl : Int) := by omega
      have hnlm : (nl : Int) ≤ 1000000 := by omega
      obtain ⟨W, hW⟩ : ∃ W, W = wr := ⟨_, rfl⟩
      have HW := Lib.hid hW
      clear hne hlen hCut h1 hRl hRq hsl hll hNp hW
      go_wp2
      go_loopw [4] (fun u4 wx => ∃ m : Nat, 1 ≤ m ∧ m ≤ nl ∧ u4 = .int .i64 m ∧ 1 + sumI ((ks.drop f).take m) ≤ 232 ∧ Qt W wx) (fun u4 _ => nl - (intOf u4).toNat)
      case atStart => exact ⟨1, by omega, by omega, rfl, H1.out, by rw [HW.out]; exact Qt.refl _⟩
      case round =>
        obtain ⟨m, hm1, hmn, rfl, hfit, hQ⟩ := hrel
        have HFit := Lib.hid hfit
        obtain ⟨z, hz⟩ : ∃ z, z = sumI ((ks.drop f).take (m + 1)) := ⟨_, rfl⟩
        have hSz : m < nl → ∀ w nn, nn = m + 1 → Rd w (some ⟨b, o, none⟩) (flatI ((ks.drop f).take (m + 1))) → Calls Try.prog 128 #[.slice (some ⟨b, o, none⟩) nn cl] w fun e w' => e = .returned (.int .i64 (1 + z)) ∧ Qt w w' := fun h w nn hnn hr => by
          rw [hz, hnn]
          exact risize_any _ _ _ _ w hr (HLL.out (m + 1) (by omega)) (HSL.out _)
        have HSz := Lib.hid hSz
        have HZ := Lib.hid hz
        have hQ' : Below W.heap.size W wr := hQ.below _
        rw [HW.out] at hQ'
        have BX := below_of hQ' hB hB.size
        have RX := fun q => (HRq.out q).below BX
        have HRX := Lib.hid RX
        clear hSz hz hfit RX
        by_cases hgo : m < nl ∧ 1 + z ≤ 232
        · obtain ⟨hg1, hg2⟩ := hgo
          have hg1i : (m : Int) < (nl : Int) := by omega
          have hg2i : (1 : Int) + (z : Int) ≤ 232 := by omega
          go_wp2_with (go_at_call 128; refine (HSz.out hg1 _ _ (by omega) (HRX.out _)).mono ?_; rintro e w4 ⟨rfl, q4⟩)
          go_roundw
          case rel => exact ⟨m + 1, by omega, by omega, by go_num, by rw [← HZ.out]; exact hg2, hQ.trans q4⟩
          case measure => simp [intOf]; omega
        · have hfn : fitN 1 (ks.drop f) = m := fitN_is _ _ (by rw [HLen.out]; omega) HFit.out (by rw [HLen.out, ← HZ.out]; omega)
          have hK : cutS ks = (ps ++ [(ks.drop f).take m]) ++ cutS (ks.drop (f + m)) := by
            rw [HC.out, HCut.out, hfn, List.drop_drop, List.append_assoc]; rfl
          have HK := Lib.hid hK
          have hex : (m = nl) ∨ (m < nl ∧ 232 < 1 + (z : Int)) := by omega
          have hmi : (m : Int) ≤ (nl : Int) := by omega
          have HM := Lib.hid (HLL.out m hmn)
          have HO := Lib.hid hO
          have HRD := Lib.hid hRD
          have OX := own_frm HO.out (S := no) (Frm.of_below hQ') (fun _ _ h => h)
          have HDD : Hid (Rd w (some ⟨b, o + m * 3, none⟩) (flatI (ks.drop (f + m)))) := by unfold Hid; have := Rd.rest HRl.out m; rwa [List.drop_drop] at this
          clear hO hRD
          rcases hex with h | ⟨h, h'⟩
          · have hni : (nl : Int) ≤ (m : Int) := by omega
            have hdn : Hid (flatI (ks.drop (f + m)) = []) := by unfold Hid; rw [List.drop_of_length_le (by rw [HN.out]; omega)]; rfl
            have HE := Lib.hid h
            clear h
            by_cases hcm : cl = m
            · obtain rfl : m = cl := hcm.symm
              go_wp2_with (at_builtin
                           refine wpList_app rfl (.tmp 22) (.tmp 26) 35 rfl w.heap.size 96 i1 _ 1 24 Try.underlying35 hi1 hz0 hz1 hz2 rfl (by omega) u3 N V rfl (OX.alloc _) _ 1 1 [.slice (some ⟨b, o, none⟩) m m] rfl (Rd.one _ _ _) rfl (by simp [Value.oneCell']) (by unfold maxLen; omega) (by omega) (by have := BX.size; simp; omega) ?_
                           intro v6 w6 ho6 hg6 hb6 hat6)
              go_roundw
              case rel => exact ⟨f + m, N + 1, some ⟨b, o, none⟩, 0, 0, ps ++ [(ks.drop f).take m], V ++ [.slice (some ⟨b, o, none⟩) m m], by omega, by omega, rfl, by omega, by omega, by rw [hdn]; exact Rd.nil _ _, ho6, HRD.out.snoc HM.out (HRq.out m), by rw [List.length_append, ← HNp.out]; rfl, HK.out, below_of hb6 (BX.alloc BX.size _) (Nat.le_refl _)⟩
              case measure => simp [lenV]; omega
            · have hcmi : (m : Int) < (cl : Int) := by have := HE.out; omega
              go_wp2_with (at_builtin
                           refine wpList_app rfl (.tmp 22) (.tmp 26) 35 rfl w.heap.size 96 i1 _ 1 24 Try.underlying35 hi1 hz0 hz1 hz2 rfl (by omega) u3 N V rfl (OX.alloc _) _ 1 1 [.slice (some ⟨b, o, none⟩) m cl] rfl (Rd.one _ _ _) rfl (by simp [Value.oneCell']) (by unfold maxLen; omega) (by omega) (by have := BX.size; simp; omega) ?_
                           intro v6 w6 ho6 hg6 hb6 hat6)
              go_roundw
              case rel => exact ⟨f + m, N + 1, some ⟨b, o + m * 3, none⟩, nl - m, cl - m, ps ++ [(ks.drop f).take m], V ++ [.slice (some ⟨b, o, none⟩) m cl], by omega, by omega, rfl, by omega, by omega, HDD.out, ho6, HRD.out.snoc HM.out (HRq.out m), by rw [List.length_append, ← HNp.out]; rfl, HK.out, below_of hb6 (BX.alloc BX.size _) (Nat.le_refl _)⟩
              case measure => simp [lenV]; omega
          · have hni : (m : Int) < (nl : Int) := by omega
            have hcm : ¬ cl = m := by omega
            have hcmi : (m : Int) < (cl : Int) := by omega
            go_wp2_with (first
              | (go_at_call 128; refine (HSz.out h _ _ (by omega) (HRX.out _)).mono ?_; rintro e w4 ⟨rfl, q4⟩; have B4 := below_of (q4.below _) BX BX.size; have O4 := own_frm OX (S := no) (Frm.of_below (q4.below _)) (fun _ _ h => h))
              | (at_builtin
                 refine wpList_app rfl (.tmp 22) (.tmp 26) 35 rfl w.heap.size 96 i1 _ 1 24 Try.underlying35 hi1 hz0 hz1 hz2 rfl (by omega) u3 N V rfl (O4.alloc _) _ 1 1 [.slice (some ⟨b, o, none⟩) m cl] rfl (Rd.one _ _ _) rfl (by simp [Value.oneCell']) (by unfold maxLen; omega) (by omega) (by have := B4.size; simp; omega) ?_
                 intro v6 w6 ho6 hg6 hb6 hat6))
            go_roundw
            case rel => exact ⟨f + m, N + 1, some ⟨b, o + m * 3, none⟩, nl - m, cl - m, ps ++ [(ks.drop f).take m], V ++ [.slice (some ⟨b, o, none⟩) m cl], by omega, by omega, rfl, by omega, by omega, HDD.out, ho6, HRD.out.snoc HM.out (HRq.out m), by rw [List.length_append, ← HNp.out]; rfl, HK.out, below_of hb6 (B4.alloc B4.size _) (Nat.le_refl _)⟩
            case measure => simp [lenV]; omega
    · obtain rfl : nl = 0 := by omega
      have hff : f = n := by omega
      have hfin : cutS ks = ps := by rw [HC.out, List.drop_of_length_le (by rw [HN.out]; omega), cutS_nil, List.append_nil]
      have HFIN := Lib.hid hfin
      obtain ⟨A4, c4, rfl, _⟩ := own_form hO
      clear hfin hff
      go_wp2
      go_ret
      exact ⟨⟨A4, N, c4, V, rfl, by rw [HFIN.out]; exact hNp, Rd.of_own hO, by rw [HFIN.out]; exact hRD.below hB⟩, hB⟩
end Go.Proofs.Ytldkhhipfoeckaa
