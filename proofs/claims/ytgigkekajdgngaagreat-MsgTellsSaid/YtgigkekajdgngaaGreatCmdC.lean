/-
  Why a request can't be, and a request laid. Conditions: commands whose texts are no longer than memory holds.
-/
import Derived.Test.YtgigkekajdgngaaGreatCmdB
namespace Go.Proofs.YtgigkekajdgngaaGreat
open Go Go.RowKit
attribute [local go_sem] cell_set_if

def reqV (client seq : Int) (A : Option Addr) (n c : Nat) : Value := .agg #[.int .i64 client, .int .i64 seq, .slice A n c]
set_option maxRecDepth 100000 in
set_option maxHeartbeats 4000000 in
theorem check_any (client seq : Int) (A : Option Addr) (n c : Nat) (l : List Cm) (w : World) (hr : Rd w A (flatCm l)) (hn : l.length = n) (hm : n ≤ maxLen) (hS : ∀ x ∈ l, x.short) :
    Calls Tryz.prog 129 #[reqV client seq A n c] w fun e w' => e = .returned (.int .i64 (checkQ client seq l)) ∧ Below w.heap.size w w' := by
  have ba : Below w.heap.size w (w.alloc (.cells #[.int .i64 client, .int .i64 seq, .slice A n c] 59)) := (Below.refl _ _).alloc (Nat.le_refl _) _
  have KM := Blk.new w 59 #[.int .i64 client, .int .i64 seq, .slice A n c]
  have HR := Lib.hid (hr.below ba)
  have HSS := Lib.hid hS
  have hl0 : (l = []) ↔ n = 0 := by rw [← hn, List.length_eq_zero_iff]
  have HN := Lib.hid hn
  obtain ⟨q, hq⟩ : ∃ q, q = checkQ client seq l := ⟨_, rfl⟩
  rw [← hq]
  have hq2 := hq
  unfold checkQ at hq2
  simp only [hl0] at hq2
  rw [hn] at hq2
  have hni : (n : Int) ≤ 9223372036854775807 := by unfold maxLen at hm; omega
  clear hr hS hl0 hn hq
  unfold reqV
  go_enter Tryz.func129, Tryz.ntmps129
  go_upto_region 1 with fail
  obtain ⟨gm, hgm⟩ : ∃ gm, gm = w.heap.size := ⟨_, rfl⟩
  rw [← hgm] at KM ⊢
  have BA := Lib.hid ba
  generalize w.alloc (.cells #[.int .i64 client, .int .i64 seq, .slice A n c] 59) = W at ba BA KM HR ⊢
  clear hgm ba
  have m0 : W.cell? ⟨gm, 0, none⟩ = some (.int .i64 client) := KM.cell 0
  have m1 : W.cell? ⟨gm, 1, none⟩ = some (.int .i64 seq) := KM.cell 1
  have m2 : W.cell? ⟨gm, 2, none⟩ = some (.slice A n c) := KM.cell 2
  by_cases k1 : client < 0
  · have hv : q = 1 := by rw [hq2, if_pos (Or.inl k1)]
    subst hv
    clear hq2
    have d1 : decide (client < 0) = true := decide_eq_true k1
    go_wp2
    go_ret
    exact ⟨rfl, BA.out⟩
  have d1 : decide (client < 0) = false := decide_eq_false k1
  by_cases k2 : 1099511627776 < client
  · have hv : q = 1 := by rw [hq2, if_pos (Or.inr (Or.inl k2))]
    subst hv
    clear hq2
    have d2 : decide (1099511627776 < client) = true := decide_eq_true k2
    go_wp2
    go_ret
    exact ⟨rfl, BA.out⟩
  have d2 : decide (1099511627776 < client) = false := decide_eq_false k2
  by_cases k3 : seq < 0
  · have hv : q = 1 := by rw [hq2, if_pos (Or.inr (Or.inr (Or.inl k3)))]
    subst hv
    clear hq2
    have d3 : decide (seq < 0) = true := decide_eq_true k3
    go_wp2
    go_ret
    exact ⟨rfl, BA.out⟩
  have d3 : decide (seq < 0) = false := decide_eq_false k3
  by_cases k4 : 1099511627776 < seq
  · have hv : q = 1 := by rw [hq2, if_pos (Or.inr (Or.inr (Or.inr (Or.inl k4))))]
    subst hv
    clear hq2
    have d4 : decide (1099511627776 < seq) = true := decide_eq_true k4
    go_wp2
    go_ret
    exact ⟨rfl, BA.out⟩
  have d4 : decide (1099511627776 < seq) = false := decide_eq_false k4
  by_cases k5 : n = 0
  · have hv : q = 1 := by rw [hq2, if_pos (Or.inr (Or.inr (Or.inr (Or.inr k5))))]
    subst hv k5
    clear hq2
    go_wp2
    go_ret
    exact ⟨rfl, BA.out⟩
  have k5i : ¬ (n : Int) = 0 := by omega
  rw [if_neg (by omega)] at hq2
  by_cases k6 : 6 < n
  · have hv : q = 2 := by rw [hq2, if_pos k6]
    subst hv
    have d6 : decide (6 < (n : Int)) = true := decide_eq_true (by omega)
    clear hq2
    go_wp2
    go_ret
    exact ⟨rfl, BA.out⟩
  have d6 : decide (6 < (n : Int)) = false := decide_eq_false (by omega)
  rw [if_neg k6] at hq2
  have hC := hasC_any A n c l W HR.out HN.out hm HSS.out
  cases k7 : l.all validC
  · rw [k7] at hC hq2
    have hv : q = 1 := by rw [hq2]; rfl
    have HC := Lib.hid hC
    subst hv
    clear hq2 hC
    go_wp2_with (go_at_call 137; (with_reducible refine HC.out.mono ?_); rintro e w2 ⟨rfl, b2⟩)
    go_ret
    exact ⟨rfl, BA.out.trans (b2.mono BA.out.size)⟩
  rw [k7] at hC hq2
  have HC := Lib.hid hC
  obtain ⟨cn, rfl⟩ : ∃ cn : Nat, client = (cn : Int) := ⟨client.toNat, by omega⟩
  obtain ⟨sn, rfl⟩ : ∃ sn : Nat, seq = (sn : Int) := ⟨seq.toNat, by omega⟩
  rw [if_pos rfl, Int.toNat_natCast, Int.toNat_natCast] at hq2
  have hall := List.all_eq_true.1 k7
  have HL : Hid (∀ V, Below W.heap.size W V → Calls Tryz.prog 130 #[.agg #[.int .i64 cn, .int .i64 sn, .slice A n c]] V fun e w' => e = .returned (.tuple #[.string (bs (reqB cn sn l)), .int .i64 0]) ∧ Below V.heap.size V w') := fun V hb =>
    clay_any cn sn A n c l V (HR.out.below hb) HN.out (by omega) (by omega) (by omega) hall
  have hz : (bs (reqB cn sn l)).size = (reqB cn sn l).length := bs_size _
  have hzl : (reqB cn sn l).length ≤ 60000 := by
    have := cmsB_len (l := l) hall
    have := HN.out
    rw [reqB_len]; omega
  obtain ⟨T, hT⟩ : ∃ T, T = bs (reqB cn sn l) := ⟨_, rfl⟩
  rw [← hT] at HL hz
  rw [← hz] at hq2 hzl
  have KMH := Lib.hid KM
  clear hT hC k7 hall hz
  by_cases k8 : 8000 < T.size
  · have hv : q = 2 := by rw [hq2, if_pos k8]
    have d8 : decide (8000 < (T.size : Int)) = true := decide_eq_true (by omega)
    subst hv
    clear hq2
    go_wp2_with (first
      | (go_at_call 137; (with_reducible refine HC.out.mono ?_); rintro e w2 ⟨rfl, b2⟩
         have B2 := Lib.hid b2
         have n0 : w2.cell? ⟨gm, 0, none⟩ = some (.int .i64 cn) := (KMH.out.below b2).cell 0
         have n1 : w2.cell? ⟨gm, 1, none⟩ = some (.int .i64 sn) := (KMH.out.below b2).cell 1
         have n2 : w2.cell? ⟨gm, 2, none⟩ = some (.slice A n c) := (KMH.out.below b2).cell 2)
      | (go_at_call 130; (refine (HL.out _ B2.out).mono ?_); rintro e w3 ⟨rfl, b3⟩))
    go_ret
    exact ⟨rfl, (BA.out.trans (B2.out.mono BA.out.size)).trans (b3.mono (by have := BA.out.size; have := B2.out.size; omega))⟩
  · have hv : q = 0 := by rw [hq2, if_neg k8]
    have d8 : decide (8000 < (T.size : Int)) = false := decide_eq_false (by omega)
    subst hv
    clear hq2
    go_wp2_with (first
      | (go_at_call 137; (with_reducible refine HC.out.mono ?_); rintro e w2 ⟨rfl, b2⟩
         have B2 := Lib.hid b2
         have n0 : w2.cell? ⟨gm, 0, none⟩ = some (.int .i64 cn) := (KMH.out.below b2).cell 0
         have n1 : w2.cell? ⟨gm, 1, none⟩ = some (.int .i64 sn) := (KMH.out.below b2).cell 1
         have n2 : w2.cell? ⟨gm, 2, none⟩ = some (.slice A n c) := (KMH.out.below b2).cell 2)
      | (go_at_call 130; (refine (HL.out _ B2.out).mono ?_); rintro e w3 ⟨rfl, b3⟩))
    go_ret
    exact ⟨rfl, (BA.out.trans (B2.out.mono BA.out.size)).trans (b3.mono (by have := BA.out.size; have := B2.out.size; omega))⟩
end Go.Proofs.YtgigkekajdgngaaGreat
