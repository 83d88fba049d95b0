/-
  A request laid, or why not; an entry laid, or why not. Conditions: commands whose texts are no longer than memory holds.
-/
import Derived.Test.YtgigkekajdgngaaGreatCmdC
namespace Go.Proofs.YtgigkekajdgngaaGreat
open Go Go.RowKit
attribute [local go_sem] cell_set_if

theorem layQ_snd (client seq : Int) (l : List Cm) : (layQ client seq l).2 = checkQ client seq l := by
  unfold layQ; split
  · rename_i h; exact h.symm
  · rfl
set_option maxRecDepth 100000 in
set_option maxHeartbeats 4000000 in
theorem qlay_any (client seq : Int) (A : Option Addr) (n c : Nat) (l : List Cm) (w : World) (hr : Rd w A (flatCm l)) (hn : l.length = n) (hm : n ≤ maxLen) (hS : ∀ x ∈ l, x.short) :
    Calls Tryz.prog 95 #[reqV client seq A n c] w fun e w' => e = .returned (.tuple #[.string (layQ client seq l).1, .int .i64 (layQ client seq l).2]) ∧ Below w.heap.size w w' := by
  have ba : Below w.heap.size w (w.alloc (.cells #[.int .i64 client, .int .i64 seq, .slice A n c] 59)) := (Below.refl _ _).alloc (Nat.le_refl _) _
  have KM := Blk.new w 59 #[.int .i64 client, .int .i64 seq, .slice A n c]
  have hR := hr.below ba
  have hC := check_any client seq A n c l _ hR hn hm hS
  have HN := Lib.hid hn
  rw [layQ_snd]
  obtain ⟨T, hT⟩ : ∃ T, T = (layQ client seq l).1 := ⟨_, rfl⟩
  rw [← hT]
  by_cases k : checkQ client seq l = 0
  · have hok := checkQ_ok k
    obtain ⟨cn, rfl⟩ : ∃ cn : Nat, client = (cn : Int) := ⟨client.toNat, by omega⟩
    obtain ⟨sn, rfl⟩ : ∃ sn : Nat, seq = (sn : Int) := ⟨seq.toNat, by omega⟩
    have hTe : T = bs (reqB cn sn l) := by rw [hT]; unfold layQ; rw [if_pos k]; rfl
    have HL : Hid (∀ V, Below (w.alloc (.cells #[.int .i64 cn, .int .i64 sn, .slice A n c] 59)).heap.size (w.alloc (.cells #[.int .i64 cn, .int .i64 sn, .slice A n c] 59)) V → Calls Tryz.prog 130 #[.agg #[.int .i64 cn, .int .i64 sn, .slice A n c]] V fun e w' => e = .returned (.tuple #[.string T, .int .i64 0]) ∧ Below V.heap.size V w') := fun V hb => by
      rw [hTe]
      exact clay_any cn sn A n c l V (hR.below hb) hn (by omega) (by omega) (by omega) hok.2.2.2.2.1
    rw [k] at hC ⊢
    have HC := Lib.hid hC
    have HK := Lib.hid KM
    have BA := Lib.hid ba
    clear hT hTe hok k hC hR hr hn hS KM ba
    unfold reqV at HC ⊢
    go_enter Tryz.func95, Tryz.ntmps95
    go_wp2_with (first
      | (go_at_call 129; (with_reducible refine HC.out.mono ?_); rintro e w2 ⟨rfl, b2⟩
         have B2 := Lib.hid b2
         have n0 : w2.cell? ⟨w.heap.size, 0, none⟩ = some (.int .i64 cn) := (HK.out.below b2).cell 0
         have n1 : w2.cell? ⟨w.heap.size, 1, none⟩ = some (.int .i64 sn) := (HK.out.below b2).cell 1
         have n2 : w2.cell? ⟨w.heap.size, 2, none⟩ = some (.slice A n c) := (HK.out.below b2).cell 2)
      | (go_at_call 130; (refine (HL.out _ B2.out).mono ?_); rintro e w3 ⟨rfl, b3⟩))
    go_ret2
    exact ⟨rfl, (BA.out.trans (B2.out.mono BA.out.size)).trans (b3.mono (by have := BA.out.size; have := B2.out.size; omega))⟩
  · have hTe : T = ⟨#[]⟩ := by rw [hT]; unfold layQ; rw [if_neg k]; rfl
    subst hTe
    obtain ⟨q, hq⟩ : ∃ q, q = checkQ client seq l := ⟨_, rfl⟩
    rw [← hq] at hC k ⊢
    have HC := Lib.hid hC
    have hb : (q != 0) = true := by simpa using k
    clear hT hq hC hR hr hn hS KM
    unfold reqV at HC ⊢
    go_enter Tryz.func95, Tryz.ntmps95
    go_wp2_with (go_at_call 129; (with_reducible refine HC.out.mono ?_); rintro e w2 ⟨rfl, b2⟩)
    go_ret2
    exact ⟨rfl, ba.trans (b2.mono ba.size)⟩
theorem c2_below {w w' : World} {G g : Nat} {a b : Value} (hb : Below G w w') (h : g < G) (k : w.cell? ⟨g, 0, none⟩ = some a ∧ w.cell? ⟨g, 1, none⟩ = some b) : w'.cell? ⟨g, 0, none⟩ = some a ∧ w'.cell? ⟨g, 1, none⟩ = some b :=
  ⟨(hb.cell (p := ⟨g, 0, none⟩) h).trans k.1, (hb.cell (p := ⟨g, 1, none⟩) h).trans k.2⟩
def En.v (x : En) : Value := .agg #[.int .i64 x.index, .int .i64 x.term, .int .i64 x.client, .int .i64 x.seq, .slice x.A x.n x.c]
set_option maxRecDepth 100000 in
set_option maxHeartbeats 4000000 in
theorem entry_any (x : En) (w : World) (hr : Rd w x.A (flatCm x.cmds)) (hn : x.cmds.length = x.n) (hm : x.n ≤ maxLen) (hS : ∀ y ∈ x.cmds, y.short) :
    Calls Tryz.prog 31 #[x.v] w fun e w' => e = .returned (.tuple #[.string (layE x).1, .int .i64 (layE x).2]) ∧ Below w.heap.size w w' := by
  obtain ⟨index, term, client, seq, A, n, c, l⟩ := x
  simp only [] at hr hn hm hS
  have ba : Below w.heap.size w (w.alloc (.cells #[.int .i64 index, .int .i64 term, .int .i64 client, .int .i64 seq, .slice A n c] 61)) := (Below.refl _ _).alloc (Nat.le_refl _) _
  have KM := Blk.new w 61 #[.int .i64 index, .int .i64 term, .int .i64 client, .int .i64 seq, .slice A n c]
  have HL := Lib.hid (qlay_any client seq A n c l _ (hr.below ba) hn hm hS)
  obtain ⟨T, hT⟩ : ∃ T, T = (layE ⟨index, term, client, seq, A, n, c, l⟩).1 := ⟨_, rfl⟩
  obtain ⟨q, hq⟩ : ∃ q, q = (layE ⟨index, term, client, seq, A, n, c, l⟩).2 := ⟨_, rfl⟩
  rw [← hT, ← hq]
  obtain ⟨T2, hT2⟩ : ∃ T, T = (layQ client seq l).1 := ⟨_, rfl⟩
  obtain ⟨q2, hq2⟩ : ∃ q, q = (layQ client seq l).2 := ⟨_, rfl⟩
  rw [← hT2, ← hq2] at HL
  rw [layQ_snd] at hq2
  unfold layE at hT hq
  simp only [] at hT hq
  clear hr hn hm hS
  unfold En.v
  simp only []
  unfold reqV at HL
  go_enter Tryz.func31, Tryz.ntmps31
  go_upto_region 1 with fail
  obtain ⟨gm, hgm⟩ : ∃ gm, gm = w.heap.size := ⟨_, rfl⟩
  rw [← hgm] at KM ⊢
  have BA := Lib.hid ba
  generalize w.alloc (.cells #[.int .i64 index, .int .i64 term, .int .i64 client, .int .i64 seq, .slice A n c] 61) = W at ba BA KM HL ⊢
  clear hgm ba
  have HKM := Lib.hid KM
  have m0 : W.cell? ⟨gm, 0, none⟩ = some (.int .i64 index) := KM.cell 0
  have m1 : W.cell? ⟨gm, 1, none⟩ = some (.int .i64 term) := KM.cell 1
  have m2 : W.cell? ⟨gm, 2, none⟩ = some (.int .i64 client) := KM.cell 2
  have m3 : W.cell? ⟨gm, 3, none⟩ = some (.int .i64 seq) := KM.cell 3
  have m4 : W.cell? ⟨gm, 4, none⟩ = some (.slice A n c) := KM.cell 4
  clear KM
  by_cases k1 : index < 0
  · have e1 : T = ⟨#[]⟩ := by rw [hT, if_pos (Or.inl k1)]; rfl
    have e2 : q = 1 := by rw [hq, if_pos (Or.inl k1)]
    subst e1 e2
    clear hT hq hT2 hq2
    have d1 : decide (index < 0) = true := decide_eq_true k1
    go_wp2
    go_ret2
    exact ⟨rfl, BA.out⟩
  have d1 : decide (index < 0) = false := decide_eq_false k1
  by_cases k2 : 2147483647 < index
  · have e1 : T = ⟨#[]⟩ := by rw [hT, if_pos (Or.inr (Or.inl k2))]; rfl
    have e2 : q = 1 := by rw [hq, if_pos (Or.inr (Or.inl k2))]
    subst e1 e2
    clear hT hq hT2 hq2
    have d2 : decide (2147483647 < index) = true := decide_eq_true k2
    go_wp2
    go_ret2
    exact ⟨rfl, BA.out⟩
  have d2 : decide (2147483647 < index) = false := decide_eq_false k2
  by_cases k3 : term < 0
  · have e1 : T = ⟨#[]⟩ := by rw [hT, if_pos (Or.inr (Or.inr (Or.inl k3)))]; rfl
    have e2 : q = 1 := by rw [hq, if_pos (Or.inr (Or.inr (Or.inl k3)))]
    subst e1 e2
    clear hT hq hT2 hq2
    have d3 : decide (term < 0) = true := decide_eq_true k3
    go_wp2
    go_ret2
    exact ⟨rfl, BA.out⟩
  have d3 : decide (term < 0) = false := decide_eq_false k3
  by_cases k4 : 2147483647 < term
  · have e1 : T = ⟨#[]⟩ := by rw [hT, if_pos (Or.inr (Or.inr (Or.inr k4)))]; rfl
    have e2 : q = 1 := by rw [hq, if_pos (Or.inr (Or.inr (Or.inr k4)))]
    subst e1 e2
    clear hT hq hT2 hq2
    have d4 : decide (2147483647 < term) = true := decide_eq_true k4
    go_wp2
    go_ret2
    exact ⟨rfl, BA.out⟩
  have d4 : decide (2147483647 < term) = false := decide_eq_false k4
  rw [if_neg (by omega)] at hT hq
  by_cases k5 : checkQ client seq l = 0
  · rw [if_pos k5] at hT hq
    have hq0 : q = 0 := hq
    have hq20 : q2 = 0 := by rw [hq2, k5]
    subst hq0 hq20
    have hok := checkQ_ok k5
    have hTe : T2 = bs (reqB client.toNat seq.toNat l) := by rw [hT2]; unfold layQ; rw [if_pos k5]
    have hsz : T2.size ≤ 8000 := by rw [hTe, bs_size]; exact hok.2.2.2.2.2
    obtain ⟨ix, rfl⟩ : ∃ ix : Nat, index = (ix : Int) := ⟨index.toNat, by omega⟩
    obtain ⟨tm, rfl⟩ : ∃ tm : Nat, term = (tm : Int) := ⟨term.toNat, by omega⟩
    have hTT : T = bs ([] ++ lowB ix 4 ++ lowB tm 4 ++ bts T2) := by
      rw [hT, hTe, bts_bs, Int.toNat_natCast, Int.toNat_natCast, List.nil_append]
    have HTT := Lib.hid hTT
    clear hT hq hT2 hq2 k5 hok hTe hTT
    go_upto_region 6 with (go_at_call 95; (with_reducible refine HL.out.mono ?_); rintro e w2 ⟨rfl, b2⟩)
    have K2 := HKM.out.below b2
    have hgm2 := K2.lt
    have HB2 := Lib.hid (BA.out.trans (b2.mono BA.out.size))
    have SM : w2.cell? ⟨gm, 0, none⟩ = some (.int .i64 ix) ∧ w2.cell? ⟨gm, 1, none⟩ = some (.int .i64 tm) := ⟨K2.cell 0, K2.cell 1⟩
    have bap : Below w2.heap.size w2 (w2.alloc (.cells #[.slice none 0 0, .int .i64 0] 79)).drew := ((Below.refl _ w2).alloc (Nat.le_refl _) _).drew
    have P00 : PutAt w2.heap.size (w2.alloc (.cells #[.slice none 0 0, .int .i64 0] 79)) w2.heap.size [] := ⟨Nat.le_refl _, _, Blk.new w2 79 _, World.ownsRow_nil _ _ _ _⟩
    have P0 : PutAt w2.heap.size (w2.alloc (.cells #[.slice none 0 0, .int .i64 0] 79)).drew w2.heap.size [] := P00.below (Below.refl _ _).drew
    have HP1 := Lib.hid (pword_any w2.heap.size w2.heap.size [] ix _ P0 (by omega) (by simp))
    have HBP := Lib.hid bap
    have SP : (w2.alloc (.cells #[.slice none 0 0, .int .i64 0] 79)).drew.cell? ⟨gm, 0, none⟩ = some (.int .i64 ix) ∧ (w2.alloc (.cells #[.slice none 0 0, .int .i64 0] 79)).drew.cell? ⟨gm, 1, none⟩ = some (.int .i64 tm) := c2_below bap hgm2 SM
    clear P0 P00 bap m0 m1 m2 m3 m4 K2 b2 HL HKM
    go_region_held3 (fun W => W.cell? ⟨gm, 0, none⟩ = some (.int .i64 ix) ∧ W.cell? ⟨gm, 1, none⟩ = some (.int .i64 tm)) (first | exact SM | exact SP | with_reducible assumption)
      (first
        | (go_at_call 32; with_reducible refine HP4.out.mono ?_; rintro e w6 ⟨rfl, hw6⟩; obtain rfl := hw6.symm)
        | (go_at_call 94; with_reducible refine HP3.out.mono ?_; rintro e w5 ⟨rfl, P5, b5⟩
           have HB5 := Lib.hid (HB4.out.trans b5)
           have S5 := c2_below b5 hgm2 S4
           have hE : Calls Tryz.prog 32 #[ptr w2.heap.size] w5 fun e w' => e = .returned (.tuple #[.string T, .int .i64 0]) ∧ w' = w5 := by
             rw [HTT.out]; exact pend_any w2.heap.size w2.heap.size _ w5 P5
           have HP4 := Lib.hid hE
           clear hE)
        | (go_at_call 29; with_reducible refine HP2.out.mono ?_; rintro e w4 ⟨rfl, P4, b4⟩
           have HB4 := Lib.hid (HB3.out.trans b4)
           have S4 := c2_below b4 hgm2 S3
           have HP3 := Lib.hid (praw_any w2.heap.size w2.heap.size _ T2 w4 P4 (by simp only [List.length_append, lowB_len, List.length_nil]; omega)))
        | (go_at_call 29; with_reducible refine HP1.out.mono ?_; rintro e w3 ⟨rfl, P3, b3⟩
           have HB3 := Lib.hid (HBP.out.trans b3)
           have S3 := c2_below b3 hgm2 SP
           have HP2 := Lib.hid (pword_any w2.heap.size w2.heap.size _ tm w3 P3 (by omega) (by simp only [List.length_append, lowB_len, List.length_nil]; omega))))
    go_wp2
    go_ret2
    exact ⟨rfl, HB2.out.trans (HB5.out.mono HB2.out.size)⟩
  · rw [if_neg k5] at hT hq
    have e1 : T = ⟨#[]⟩ := by rw [hT]; rfl
    have e2 : q2 = q := by rw [hq2, hq]
    have e3 : q ≠ 0 := by rw [hq]; exact k5
    have hb : (q != 0) = true := by simpa using e3
    subst e1 e2
    clear hT hq hT2 hq2 k5
    go_wp2_with (go_at_call 95; (with_reducible refine HL.out.mono ?_); rintro e w2 ⟨rfl, b2⟩)
    go_ret2
    exact ⟨rfl, BA.out.trans (b2.mono BA.out.size)⟩
end Go.Proofs.YtgigkekajdgngaaGreat
