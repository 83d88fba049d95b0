/-
  The walk of the law HistTrims, case A. Conditions: at most 60 terms; how the index lies.
-/
import Derived.Test.YtcmjijlegmdebaaHistTrimsW
namespace Go.Proofs.Ytcmjijlegmdebaa
open Go Go.RowKit
attribute [local go_sem] cell_set_if

set_option maxRecDepth 100000 in
set_option maxHeartbeats 8000000 in
theorem histtrims_A (A : Option Addr) (n c : Nat) (zs : List Int) (tr a b m : Int) (w : World) (hr : Rd w A (zs.map (Value.int .i64))) (hn : zs.length = n) (h60 : n ≤ 60) (hcase : 1 ≤ tr ∧ tr ≤ n) :
    Calls Try.prog 5 #[.slice A n c, .int .i64 tr, .int .i64 a, .int .i64 b, .int .i64 m] w fun e w' => e = .returned (.bool true) ∧ Below w.heap.size w w' := by
  have HCASE := Lib.hid hcase
  clear hcase
  have HR := Lib.hid hr
  have HN := Lib.hid hn
  have hnn : (n : Int) ≤ 60 := by omega
  clear hr hn
  go_enter Try.func5, Try.ntmps5
  dsimp only [List.append]
  go_wp2_with (first
    | (go_at_call 25; refine (alive23_any _).mono ?_; rintro e wa ⟨rfl, ba⟩; have tok := trivial)
    | (go_at_call 26; have _t := tok; refine (new0_any _).mono ?_; rintro e w1 ⟨rfl, L1, b1⟩; clear tok)
    | (go_at_call 26; refine (new0_any _).mono ?_; rintro e w2 ⟨rfl, L2, b2⟩))
  have B2 : Below w.heap.size w w2 := below_of b2 (below_of b1 ba ba.size) (Nat.le_trans ba.size b1.size)
  have L1' := (L1.below b2).base (base' := w.heap.size) ba.size
  have L2' := L2.base (base' := w.heap.size) (Nat.le_trans ba.size b1.size)
  have hA : Aside wa.heap.size (.slice none 0 0) w1.heap.size (.slice none 0 0) := by
    intro k hk hk'
    have := L1.blk.lt
    rcases hk with rfl | hk
    · rcases hk' with hk' | hk'
      · omega
      · cases hk'
    · cases hk
  generalize wa.heap.size = g1 at *
  generalize w1.heap.size = g2 at *
  go_loopw [13, 14] (fun u13 u14 wr => ∃ (k : Nat) (es : List Ent) (T : Int) (va vb : Value), k ≤ n ∧ u14 = .int .i64 k ∧ u13 = .int .i64 T ∧ es.length = k ∧ lastT 0 es = T ∧ 0 ≤ T ∧ T ≤ k ∧ (∀ e ∈ es, e.cmds = .slice none 0 0) ∧ LogAt wr w.heap.size g1 0 0 es va ∧ LogAt wr w.heap.size g2 0 0 es vb ∧ Below w.heap.size w wr ∧ Aside g1 va g2 vb) (fun _ u14 _ => n - (intOf u14).toNat)
  case atStart => exact ⟨0, [], 0, _, _, by omega, rfl, rfl, rfl, rfl, by omega, by omega, by simp, L1', L2', B2, hA⟩
  case round =>
    obtain ⟨k, es, T, va, vb, hk, rfl, rfl, hlen, hlast, hT0, hTk, hnil, La, Lb, hB, hAs⟩ := hrel
    clear L1' L2' B2 hA L1 L2 b1 b2 ba
    have HL := Lib.hid hlen
    have HLA := Lib.hid hlast
    have HNIL := Lib.hid hnil
    clear hlen hlast hnil
    by_cases hlt : k < n
    · obtain ⟨x, hx⟩ : ∃ x, zs[k]? = some x := ⟨zs[k]'(by have := HN.out; omega), List.getElem?_eq_getElem _⟩
      obtain ⟨bk, o, rfl, hb, hcs⟩ := HR.out.flat (by simp; have := HN.out; omega)
      have hx0 : wr.cell? ⟨bk, o + k, none⟩ = some (.int .i64 x) := by
        rw [(below_cells hB).1 bk _ (by omega)]
        exact hcs k _ (by simp [hx])
      obtain ⟨y, hy, hy0, hy1⟩ : ∃ y, bits .and .i64 x 1 = y ∧ 0 ≤ y ∧ y ≤ 1 := by
        rcases one_bit x with h | h
        · exact ⟨0, h, by omega, by omega⟩
        · exact ⟨1, h, by omega, by omega⟩
      clear hcs hx
      have La1 := La.below ((Below.refl _ _).alloc (Nat.le_refl _) (.cells #[.int .i64 (k + 1), .int .i64 (T + y), .int .i64 0, .int .i64 0, .slice none 0 0] 74))
      have Lb1 := Lb.below ((Below.refl _ _).alloc (Nat.le_refl _) (.cells #[.int .i64 (k + 1), .int .i64 (T + y), .int .i64 0, .int .i64 0, .slice none 0 0] 74))
      have B1 := hB.alloc hB.size (.cells #[.int .i64 (k + 1), .int .i64 (T + y), .int .i64 0, .int .i64 0, .slice none 0 0] 74)
      have hm1 : ∀ q, mine g1 va q → q < wr.heap.size := fun q hq => (La.mine_lt q hq).2
      go_wp2_with (first
        | (go_at_call 27; with_reducible refine (one_append _ _ _ _ _ _ _ La1 _ (by simp) _ _ (by have := HL.out; omega) (by rw [HLA.out]; omega) (by have := HL.out; omega)).mono ?_; rintro e w4 ⟨rfl, va', La4, hT4⟩
           have hx4 := Lb1.turn hAs.symm hT4
           have hT4' := hT4.new
           have Lb4 := hx4.1
           have B4 : Below w.heap.size w w4 := below_frm hB hT4'.frm (Nat.le_refl _) fun k hk => (La.mine_lt k hk).1
           have e0 := hT4.new_cell hm1 0
           have e1 := hT4.new_cell hm1 1
           have e2 := hT4.new_cell hm1 2
           have e3 := hT4.new_cell hm1 3
           have e4 := hT4.new_cell hm1 4
           simp at e0 e1 e2 e3 e4)
        | (go_at_call 27; with_reducible refine (one_append _ _ _ _ _ _ _ Lb4 _ (by simp) _ _ (by have := HL.out; omega) (by rw [HLA.out]; omega) (by have := HL.out; omega)).mono ?_; rintro e w5 ⟨rfl, vb', Lb5, hT5⟩
           have hx5 := La4.turn hx4.2.symm hT5
           have B5 : Below w.heap.size w w5 := below_frm B4 hT5.frm (Nat.le_refl _) fun k hk => (Lb4.mine_lt k hk).1))
      go_roundw
      case rel => exact ⟨k + 1, es ++ [⟨0 + es.length + 1, T + y, 0, 0, .slice none 0 0⟩], T + y, va', vb', by omega, by go_num, rfl, by rw [List.length_append, HL.out]; rfl, by rw [lastT_app], by omega, by omega, (fun e he => by rcases List.mem_append.1 he with h | h; exact HNIL.out e h; simp at h; rw [h]), hx5.1, Lb5, B5, hx5.2⟩
      case measure => simp [intOf]; omega
    · obtain rfl : k = n := by omega
      have hes : es.length ≤ 60 := by have := HL.out; omega
      have hT := fun (w1 : World) (L1 : LogAt w1 w.heap.size g1 0 0 es va) (L2 : LogAt w1 w.heap.size g2 0 0 es vb) => trim_any w1 w.heap.size g1 g2 es va vb tr L1 L2 hAs hes HNIL.out
      rw [HL.out] at hT
      have hcs : ∃ q : Nat, trimK k tr = q ∧ ((tr = (q : Int) ∧ 1 ≤ (q : Int) ∧ (q : Int) ≤ (k : Int)) ∨ (q = 0 ∧ tr < 1) ∨ (q = 0 ∧ 1 ≤ tr ∧ (k : Int) < tr)) := by
        unfold trimK
        by_cases h1 : 0 ≤ tr ∧ tr ≤ (k : Int)
        · refine ⟨tr.toNat, by rw [if_pos h1], ?_⟩
          by_cases h2 : tr < 1
          · exact .inr (.inl ⟨by omega, h2⟩)
          · exact .inl ⟨by omega, by omega, by omega⟩
        · refine ⟨0, by rw [if_neg h1], ?_⟩
          by_cases h2 : tr < 1
          · exact .inr (.inl ⟨rfl, h2⟩)
          · exact .inr (.inr ⟨rfl, by omega, by omega⟩)
      obtain ⟨q, hq, hcs⟩ := hcs
      rw [hq] at hT
      clear hq hes
      generalize (termE 0 0 es (q : Int)).getD 0 = t0 at hT
      have HTR := Lib.hid (hT wr La Lb)
      have hcase := HCASE.out
      have hc2 : tr = (q : Int) ∧ ((q : Int) != 0) = true ∧ 1 ≤ (q : Int) ∧ 0 < q ∧ 1 ≤ q ∧ (q : Int) ≤ (k : Int) ∧ q ≤ k := by
        rcases hcs with h | ⟨rfl, h⟩ | ⟨rfl, h1, h2⟩
        · exact ⟨h.1, by simp; omega, h.2.1, by omega, by omega, h.2.2, by omega⟩
        · omega
        · omega
      clear hcase HCASE hT hcs La Lb hAs HR HN hT0 hTk hlt HLA
      obtain ⟨rfl, hq0, hq1, hqa, hqc, hqk, hqb⟩ := hc2
      have e1 : decide (0 < q) = true := decide_eq_true hqa
      have e2 : decide (q ≤ k) = true := decide_eq_true hqb
      have e3 : decide (1 ≤ q) = true := decide_eq_true hqc
      have e4 : (!true == true) = false := rfl
      go_wp2_with (go_at_call 28; refine HTR.out.mono ?_; rintro e w3 ⟨rfl, hTr, b3⟩)
      obtain ⟨X, LT, BL, OK, nb, p, qq, t1, t2, f2, l1, l2, lt1, lt2, h1, h2, hpq, n1, n2, k1, k2, hsl⟩ := (hTr a b m).ex
      have B3 : Below w.heap.size w w3 := hB.trans b3
      have K := Below.refl w3.heap.size w3
      have KT1 := Lib.hid t1
      have KT2 := Lib.hid t2
      have KF2 := Lib.hid f2
      have KL1 := Lib.hid l1
      have KL2 := Lib.hid l2
      have KLT1 := Lib.hid lt1
      have KLT2 := Lib.hid lt2
      have KH1 := Lib.hid h1
      have KH2 := Lib.hid h2
      have KN1 := Lib.hid n1
      have KN2 := Lib.hid n2
      have KK1 := Lib.hid k1
      have KK2 := Lib.hid k2
      have KS := Lib.hid hsl
      have KPQ := Lib.hid hpq
      clear t1 t2 f2 l1 l2 lt1 lt2 h1 h2 hpq n1 n2 k1 k2 hsl hTr
      have tX : (X != X) = false := by simp
      have tLT : (LT != LT) = false := by simp
      have tOK : (OK != OK) = false := by simp
      have tnb : (nb == nb) = true := by simp
      obtain ⟨BM, hBM⟩ : ∃ BM, BM = max BL (q : Int) := ⟨_, rfl⟩
      rw [← hBM] at KK2
      have hbl : (BL < (q : Int) ∧ BM = q) ∨ ((q : Int) ≤ BL ∧ BM = BL) := by omega
      clear hBM
      obtain ⟨rr, hrr⟩ : ∃ rr, qq = (p || rr) := ⟨qq, by have := KPQ.out; cases p <;> simp_all⟩
      subst hrr
      clear KPQ
      have hac : a < (q : Int) ∨ ((q : Int) ≤ a ∧ a ≤ (q : Int)) ∨ (q : Int) < a := by omega
      rcases hac with ha | ⟨ha1, ha2⟩ | ha
      · rw [if_pos ha, if_pos ha] at KT2
        have f1 : decide ((q : Int) ≤ a) = false := decide_eq_false (by omega)
        have f2 : decide (a < (q : Int)) = true := decide_eq_true ha
        have f3 : decide ((q : Int) < a) = false := decide_eq_false (by omega)
        go_upto_region 21 with (first
              | (go_at_call 29; with_reducible refine (KT1.out _ K).mono ?_; rintro e w5 ⟨rfl, q5⟩; have K := below_qt' K q5)
              | (go_at_call 29; with_reducible refine (KT2.out _ K).mono ?_; rintro e w5 ⟨rfl, q5⟩; have K := below_qt' K q5)
              | (go_at_call 30; with_reducible refine (KF2.out _ K).mono ?_; rintro e w5 ⟨rfl, q5⟩; have K := below_qt' K q5)
              | (go_at_call 21; with_reducible refine (KL1.out _ K).mono ?_; rintro e w5 ⟨rfl, q5⟩; have K := below_qt' K q5)
              | (go_at_call 21; with_reducible refine (KL2.out _ K).mono ?_; rintro e w5 ⟨rfl, q5⟩; have K := below_qt' K q5)
              | (go_at_call 22; with_reducible refine (KLT1.out _ K).mono ?_; rintro e w5 ⟨rfl, q5⟩; have K := below_qt' K q5)
              | (go_at_call 22; with_reducible refine (KLT2.out _ K).mono ?_; rintro e w5 ⟨rfl, q5⟩; have K := below_qt' K q5)
              | (go_at_call 31; with_reducible refine (KH1.out _ K).mono ?_; rintro e w5 ⟨rfl, q5⟩; have K := below_qt' K q5)
              | (go_at_call 31; with_reducible refine (KH2.out _ K).mono ?_; rintro e w5 ⟨rfl, q5⟩; have K := below_qt' K q5)
              | (go_at_call 20; with_reducible refine (KN1.out _ K).mono ?_; rintro e w5 ⟨rfl, q5⟩; have K := below_qt' K q5)
              | (go_at_call 20; with_reducible refine (KN2.out _ K).mono ?_; rintro e w5 ⟨rfl, q5⟩; have K := below_qt' K q5)
              | (go_at_call 34; with_reducible refine (KK1.out _ K).mono ?_; rintro e w5 ⟨rfl, q5⟩; have K := below_qt' K q5)
              | (go_at_call 34; with_reducible refine (KK2.out _ K).mono ?_; rintro e w5 ⟨rfl, q5⟩; have K := below_qt' K q5))
        all_goals
          rcases hbl with ⟨hb1, rfl⟩ | ⟨hb1, rfl⟩
          all_goals
            go_wp2_with (first
              | (go_at_call 29; with_reducible refine (KT1.out _ K).mono ?_; rintro e w5 ⟨rfl, q5⟩; have K := below_qt' K q5)
              | (go_at_call 29; with_reducible refine (KT2.out _ K).mono ?_; rintro e w5 ⟨rfl, q5⟩; have K := below_qt' K q5)
              | (go_at_call 30; with_reducible refine (KF2.out _ K).mono ?_; rintro e w5 ⟨rfl, q5⟩; have K := below_qt' K q5)
              | (go_at_call 21; with_reducible refine (KL1.out _ K).mono ?_; rintro e w5 ⟨rfl, q5⟩; have K := below_qt' K q5)
              | (go_at_call 21; with_reducible refine (KL2.out _ K).mono ?_; rintro e w5 ⟨rfl, q5⟩; have K := below_qt' K q5)
              | (go_at_call 22; with_reducible refine (KLT1.out _ K).mono ?_; rintro e w5 ⟨rfl, q5⟩; have K := below_qt' K q5)
              | (go_at_call 22; with_reducible refine (KLT2.out _ K).mono ?_; rintro e w5 ⟨rfl, q5⟩; have K := below_qt' K q5)
              | (go_at_call 31; with_reducible refine (KH1.out _ K).mono ?_; rintro e w5 ⟨rfl, q5⟩; have K := below_qt' K q5)
              | (go_at_call 31; with_reducible refine (KH2.out _ K).mono ?_; rintro e w5 ⟨rfl, q5⟩; have K := below_qt' K q5)
              | (go_at_call 20; with_reducible refine (KN1.out _ K).mono ?_; rintro e w5 ⟨rfl, q5⟩; have K := below_qt' K q5)
              | (go_at_call 20; with_reducible refine (KN2.out _ K).mono ?_; rintro e w5 ⟨rfl, q5⟩; have K := below_qt' K q5)
              | (go_at_call 34; with_reducible refine (KK1.out _ K).mono ?_; rintro e w5 ⟨rfl, q5⟩; have K := below_qt' K q5)
              | (go_at_call 34; with_reducible refine (KK2.out _ K).mono ?_; rintro e w5 ⟨rfl, q5⟩; have K := below_qt' K q5))
            go_ret
            exact ⟨rfl, below_of K B3 B3.size⟩
      · rw [if_neg (by omega), if_neg (by omega)] at KT2
        have f1 : decide ((q : Int) ≤ a) = true := decide_eq_true ha1
        have f2 : decide (a < (q : Int)) = false := decide_eq_false (by omega)
        have f3 : decide ((q : Int) < a) = false := decide_eq_false (by omega)
        go_upto_region 21 with (first
              | (go_at_call 29; with_reducible refine (KT1.out _ K).mono ?_; rintro e w5 ⟨rfl, q5⟩; have K := below_qt' K q5)
              | (go_at_call 29; with_reducible refine (KT2.out _ K).mono ?_; rintro e w5 ⟨rfl, q5⟩; have K := below_qt' K q5)
              | (go_at_call 30; with_reducible refine (KF2.out _ K).mono ?_; rintro e w5 ⟨rfl, q5⟩; have K := below_qt' K q5)
              | (go_at_call 21; with_reducible refine (KL1.out _ K).mono ?_; rintro e w5 ⟨rfl, q5⟩; have K := below_qt' K q5)
              | (go_at_call 21; with_reducible refine (KL2.out _ K).mono ?_; rintro e w5 ⟨rfl, q5⟩; have K := below_qt' K q5)
              | (go_at_call 22; with_reducible refine (KLT1.out _ K).mono ?_; rintro e w5 ⟨rfl, q5⟩; have K := below_qt' K q5)
              | (go_at_call 22; with_reducible refine (KLT2.out _ K).mono ?_; rintro e w5 ⟨rfl, q5⟩; have K := below_qt' K q5)
              | (go_at_call 31; with_reducible refine (KH1.out _ K).mono ?_; rintro e w5 ⟨rfl, q5⟩; have K := below_qt' K q5)
              | (go_at_call 31; with_reducible refine (KH2.out _ K).mono ?_; rintro e w5 ⟨rfl, q5⟩; have K := below_qt' K q5)
              | (go_at_call 20; with_reducible refine (KN1.out _ K).mono ?_; rintro e w5 ⟨rfl, q5⟩; have K := below_qt' K q5)
              | (go_at_call 20; with_reducible refine (KN2.out _ K).mono ?_; rintro e w5 ⟨rfl, q5⟩; have K := below_qt' K q5)
              | (go_at_call 34; with_reducible refine (KK1.out _ K).mono ?_; rintro e w5 ⟨rfl, q5⟩; have K := below_qt' K q5)
              | (go_at_call 34; with_reducible refine (KK2.out _ K).mono ?_; rintro e w5 ⟨rfl, q5⟩; have K := below_qt' K q5))
        all_goals
          rcases hbl with ⟨hb1, rfl⟩ | ⟨hb1, rfl⟩
          all_goals
            go_wp2_with (first
              | (go_at_call 29; with_reducible refine (KT1.out _ K).mono ?_; rintro e w5 ⟨rfl, q5⟩; have K := below_qt' K q5)
              | (go_at_call 29; with_reducible refine (KT2.out _ K).mono ?_; rintro e w5 ⟨rfl, q5⟩; have K := below_qt' K q5)
              | (go_at_call 30; with_reducible refine (KF2.out _ K).mono ?_; rintro e w5 ⟨rfl, q5⟩; have K := below_qt' K q5)
              | (go_at_call 21; with_reducible refine (KL1.out _ K).mono ?_; rintro e w5 ⟨rfl, q5⟩; have K := below_qt' K q5)
              | (go_at_call 21; with_reducible refine (KL2.out _ K).mono ?_; rintro e w5 ⟨rfl, q5⟩; have K := below_qt' K q5)
              | (go_at_call 22; with_reducible refine (KLT1.out _ K).mono ?_; rintro e w5 ⟨rfl, q5⟩; have K := below_qt' K q5)
              | (go_at_call 22; with_reducible refine (KLT2.out _ K).mono ?_; rintro e w5 ⟨rfl, q5⟩; have K := below_qt' K q5)
              | (go_at_call 31; with_reducible refine (KH1.out _ K).mono ?_; rintro e w5 ⟨rfl, q5⟩; have K := below_qt' K q5)
              | (go_at_call 31; with_reducible refine (KH2.out _ K).mono ?_; rintro e w5 ⟨rfl, q5⟩; have K := below_qt' K q5)
              | (go_at_call 20; with_reducible refine (KN1.out _ K).mono ?_; rintro e w5 ⟨rfl, q5⟩; have K := below_qt' K q5)
              | (go_at_call 20; with_reducible refine (KN2.out _ K).mono ?_; rintro e w5 ⟨rfl, q5⟩; have K := below_qt' K q5)
              | (go_at_call 34; with_reducible refine (KK1.out _ K).mono ?_; rintro e w5 ⟨rfl, q5⟩; have K := below_qt' K q5)
              | (go_at_call 34; with_reducible refine (KK2.out _ K).mono ?_; rintro e w5 ⟨rfl, q5⟩; have K := below_qt' K q5))
            go_ret
            exact ⟨rfl, below_of K B3 B3.size⟩
      · rw [if_neg (by omega), if_neg (by omega)] at KT2
        have f1 : decide ((q : Int) ≤ a) = true := decide_eq_true (by omega)
        have f2 : decide (a < (q : Int)) = false := decide_eq_false (by omega)
        have f3 : decide ((q : Int) < a) = true := decide_eq_true ha
        obtain ⟨R, r, hRn, hRl, hrl, s1, s2⟩ := KS.out ha
        have KS1 := Lib.hid s1
        have KS2 := Lib.hid s2
        have KRN := Lib.hid hRn
        have KRL := Lib.hid hRl
        clear s1 s2 KS hRn hRl
        go_upto_region 21 with (first
              | (go_at_call 29; with_reducible refine (KT1.out _ K).mono ?_; rintro e w5 ⟨rfl, q5⟩; have K := below_qt' K q5)
              | (go_at_call 29; with_reducible refine (KT2.out _ K).mono ?_; rintro e w5 ⟨rfl, q5⟩; have K := below_qt' K q5)
              | (go_at_call 30; with_reducible refine (KF2.out _ K).mono ?_; rintro e w5 ⟨rfl, q5⟩; have K := below_qt' K q5)
              | (go_at_call 21; with_reducible refine (KL1.out _ K).mono ?_; rintro e w5 ⟨rfl, q5⟩; have K := below_qt' K q5)
              | (go_at_call 21; with_reducible refine (KL2.out _ K).mono ?_; rintro e w5 ⟨rfl, q5⟩; have K := below_qt' K q5)
              | (go_at_call 22; with_reducible refine (KLT1.out _ K).mono ?_; rintro e w5 ⟨rfl, q5⟩; have K := below_qt' K q5)
              | (go_at_call 22; with_reducible refine (KLT2.out _ K).mono ?_; rintro e w5 ⟨rfl, q5⟩; have K := below_qt' K q5)
              | (go_at_call 31; with_reducible refine (KH1.out _ K).mono ?_; rintro e w5 ⟨rfl, q5⟩; have K := below_qt' K q5)
              | (go_at_call 31; with_reducible refine (KH2.out _ K).mono ?_; rintro e w5 ⟨rfl, q5⟩; have K := below_qt' K q5)
              | (go_at_call 20; with_reducible refine (KN1.out _ K).mono ?_; rintro e w5 ⟨rfl, q5⟩; have K := below_qt' K q5)
              | (go_at_call 20; with_reducible refine (KN2.out _ K).mono ?_; rintro e w5 ⟨rfl, q5⟩; have K := below_qt' K q5)
              | (go_at_call 34; with_reducible refine (KK1.out _ K).mono ?_; rintro e w5 ⟨rfl, q5⟩; have K := below_qt' K q5)
              | (go_at_call 34; with_reducible refine (KK2.out _ K).mono ?_; rintro e w5 ⟨rfl, q5⟩; have K := below_qt' K q5)
              | (go_at_call 33; with_reducible refine (KS1.out _ K).mono ?_; rintro e w5 ⟨A5, c5, rfl, R5, b5⟩; have K := below_of b5 K K.size)
              | (go_at_call 33; with_reducible refine (KS2.out _ K).mono ?_; rintro e w6 ⟨A6, c6, rfl, R6, b6⟩; have K := below_of b6 K K.size; have R5 := R5.below b6)
              | (go_at_call 32; refine (same_ents _ A5 A6 r c5 c6 R R5 R6 KRL.out KRN.out (by omega)).mono ?_; rintro e w7 ⟨rfl, q7⟩; have K := below_qt' K q7))
        all_goals
          rcases hbl with ⟨hb1, rfl⟩ | ⟨hb1, rfl⟩
          all_goals
            go_wp2_with (first
              | (go_at_call 29; with_reducible refine (KT1.out _ K).mono ?_; rintro e w5 ⟨rfl, q5⟩; have K := below_qt' K q5)
              | (go_at_call 29; with_reducible refine (KT2.out _ K).mono ?_; rintro e w5 ⟨rfl, q5⟩; have K := below_qt' K q5)
              | (go_at_call 30; with_reducible refine (KF2.out _ K).mono ?_; rintro e w5 ⟨rfl, q5⟩; have K := below_qt' K q5)
              | (go_at_call 21; with_reducible refine (KL1.out _ K).mono ?_; rintro e w5 ⟨rfl, q5⟩; have K := below_qt' K q5)
              | (go_at_call 21; with_reducible refine (KL2.out _ K).mono ?_; rintro e w5 ⟨rfl, q5⟩; have K := below_qt' K q5)
              | (go_at_call 22; with_reducible refine (KLT1.out _ K).mono ?_; rintro e w5 ⟨rfl, q5⟩; have K := below_qt' K q5)
              | (go_at_call 22; with_reducible refine (KLT2.out _ K).mono ?_; rintro e w5 ⟨rfl, q5⟩; have K := below_qt' K q5)
              | (go_at_call 31; with_reducible refine (KH1.out _ K).mono ?_; rintro e w5 ⟨rfl, q5⟩; have K := below_qt' K q5)
              | (go_at_call 31; with_reducible refine (KH2.out _ K).mono ?_; rintro e w5 ⟨rfl, q5⟩; have K := below_qt' K q5)
              | (go_at_call 20; with_reducible refine (KN1.out _ K).mono ?_; rintro e w5 ⟨rfl, q5⟩; have K := below_qt' K q5)
              | (go_at_call 20; with_reducible refine (KN2.out _ K).mono ?_; rintro e w5 ⟨rfl, q5⟩; have K := below_qt' K q5)
              | (go_at_call 34; with_reducible refine (KK1.out _ K).mono ?_; rintro e w5 ⟨rfl, q5⟩; have K := below_qt' K q5)
              | (go_at_call 34; with_reducible refine (KK2.out _ K).mono ?_; rintro e w5 ⟨rfl, q5⟩; have K := below_qt' K q5))
            go_ret
            exact ⟨rfl, below_of K B3 B3.size⟩
end Go.Proofs.Ytcmjijlegmdebaa
