/-
  What Lay of children gives. Conditions: no more children than a million; their keys no longer than memory holds.
-/
import Derived.Test.YtldkhhipfoeckaaGreatKidW
namespace Go.Proofs.YtldkhhipfoeckaaGreat
open Go Go.RowKit
attribute [local go_sem] cell_set_if

theorem kright_yes (A : Option Addr) (n c : Nat) (ks : List Kd) (w : World) (hr : Rd w A (flatK ks)) (hn : ks.length = n) (hm : n ≤ 1000000) (h : RightK ks) :
    Calls Tryz.prog 92 #[.slice A n c] w fun e w' => e = .returned (.bool true) ∧ Below w.heap.size w w' :=
  (kright_any A n c ks w hr hn hm).mono fun e w' ⟨⟨b, he, hb⟩, hB⟩ => ⟨by rw [he, hb.2 h], hB⟩
theorem kright_no (A : Option Addr) (n c : Nat) (ks : List Kd) (w : World) (hr : Rd w A (flatK ks)) (hn : ks.length = n) (hm : n ≤ 1000000) (h : ¬ RightK ks) :
    Calls Tryz.prog 92 #[.slice A n c] w fun e w' => e = .returned (.bool false) ∧ Below w.heap.size w w' :=
  (kright_any A n c ks w hr hn hm).mono fun e w' ⟨⟨b, he, hb⟩, hB⟩ => ⟨by
    cases b
    · exact he
    · exact absurd (hb.1 rfl) h, hB⟩
theorem new_putS (w : World) : PutS w.heap.size (w.alloc (.cells #[.slice none 0 0, .int .i64 0] 77)) w.heap.size ([], 0) :=
  ⟨Nat.le_refl _, _, Blk.new _ _ _, World.ownsRow_nil _ _ _ _⟩

set_option maxRecDepth 100000 in
set_option maxHeartbeats 1000000 in
theorem klay_ok (A : Option Addr) (n c : Nat) (ks : List Kd) (w : World) (hr : Rd w A (flatK ks)) (hn : ks.length = n) (h0 : ks ≠ []) (hR : RightK ks) (hs : 1 + sumK ks ≤ 232) (h255 : n ≤ 255) :
    Calls Tryz.prog 24 #[.slice A n c] w fun e w' => e = .returned (.tuple #[.string (bs (layL10 ks)), .int .i64 0]) ∧ Below w.heap.size w w' := by
  obtain ⟨S, hS⟩ : ∃ S, S = bs (layL10 ks) := ⟨_, rfl⟩
  rw [← hS]
  have HS := Lib.hid hS
  clear hS
  have hRt := fun w hr => kright_yes A n c ks w hr hn (by omega) hR
  have hSz := fun w hr => ksize_any A n c ks w hr hn (by omega)
  have hpos : 0 < n := by rw [← hn]; exact List.length_pos_iff.2 h0
  have hnz : ((n : Int) == 0) = false := by simp; omega
  have hBy : ∀ (base g : Nat) (w : World), PutS base w g ([], 0) → Calls Tryz.prog 42 #[ptr g, .int .i64 n] w fun e w' => e = .returned (ptr g) ∧ PutS base w' g (lowB n 1, 0) ∧ BK base w w' := fun base g w h => by
    have := pbyte_k base g ([], 0) n w h (by simp)
    rwa [putSmall_ok 1 n [] (by omega) (by omega), List.nil_append, Int.toNat_natCast] at this
  have HT : Hid (ks.take n = ks) := List.take_of_length_le (by omega)
  have hlen : ∀ k, (lowB n 1 ++ kidsB (ks.take k)).length ≤ 1000 := fun k => by
    rw [List.length_append, lowB_len, kidsB_len]; have := sumK_le ks k; omega
  have HLAY : Hid (layL10 ks = lowB n 1 ++ kidsB ks) := by unfold Hid layL10; rw [hn]
  have HR := Lib.hid hr
  have HN := Lib.hid hn
  have HRt := Lib.hid hRt
  have HSz := Lib.hid hSz
  have HBy := Lib.hid hBy
  have HL := Lib.hid hlen
  have HRK := Lib.hid hR
  have hz1 : (1 : Int) + (sumK ks : Int) ≤ 232 := by omega
  have hz2 : (n : Int) ≤ 255 := by omega
  clear hr hn hRt hSz hBy hlen h0 hs h255 hR
  go_enter Tryz.func24, Tryz.ntmps24
  go_wp2_with (first
    | (go_at_call 92; refine (HRt.out _ HR.out).mono ?_; rintro e w1 ⟨rfl, b1⟩)
    | (go_at_call 30; refine (HSz.out _ (HR.out.below b1)).mono ?_; rintro e w2 ⟨rfl, b2⟩; have B2 := below_of b2 b1 b1.size; have P2 := new_putS w2)
    | (go_at_call 42; refine (HBy.out _ _ _ P2).mono ?_; rintro e w3 ⟨rfl, P3, k3⟩; have B3 := below_of k3.1 (B2.alloc B2.size _) B2.size))
  go_loopw [32] (fun u32 wr => ∃ k : Nat, k ≤ n ∧ u32 = .int .i64 k ∧ PutS w2.heap.size wr w2.heap.size (lowB n 1 ++ kidsB (ks.take k), 0) ∧ Below w.heap.size w wr) (fun u32 _ => n - (intOf u32).toNat)
  case atStart => exact ⟨0, by omega, rfl, by simpa [kidsB] using P3, B3⟩
  case round =>
    obtain ⟨k, hk, rfl, hP, hB⟩ := hrel
    by_cases hlt : k < n
    · obtain ⟨bb, o, x, rfl, hbb, hx, d0, d1⟩ := HR.out.kid (k := k) (by have := HN.out; omega)
      have c0 := cell_bb hB hbb d0
      have c1 := cell_bb hB hbb d1
      have hok := HRK.out.ok k x hx
      have hkk : x.key.size ≤ 32 ∧ 2 ≤ x.page ∧ x.page < 4000 := by unfold okK at hok; simp at hok; omega
      have HTK := Lib.hid (kidsB_take ks k x hx)
      have hll := HL.out k
      generalize hL : lowB n 1 ++ kidsB (ks.take k) = L at hP hll
      have hHf : ∀ w, PutS w2.heap.size w w2.heap.size (L, 0) → Calls Tryz.prog 93 #[ptr w2.heap.size, .int .i64 x.page] w fun e w' => e = .returned (ptr w2.heap.size) ∧ PutS w2.heap.size w' w2.heap.size (L ++ lowB x.page.toNat 2, 0) ∧ BK w2.heap.size w w' := fun w h => by
        have := phalf_k _ _ (L, 0) x.page w h (by show L.length ≤ _; omega)
        rwa [putSmall_ok 2 x.page L (by omega) (by omega)] at this
      have hTx : ∀ w, PutS w2.heap.size w w2.heap.size (L ++ lowB x.page.toNat 2, 0) → Calls Tryz.prog 43 #[ptr w2.heap.size, .string x.key] w fun e w' => e = .returned (ptr w2.heap.size) ∧ PutS w2.heap.size w' w2.heap.size (L ++ kidB x, 0) ∧ BK w2.heap.size w w' := fun w h => by
        have := ptext_k _ _ (L ++ lowB x.page.toNat 2, 0) x.key w h (by show (L ++ lowB x.page.toNat 2).length + _ ≤ _; rw [List.length_append, lowB_len]; omega)
        rw [putText_ok _ _ (by rw [bts_len]; omega), bts_len] at this
        unfold kidB
        simpa [List.append_assoc] using this
      have HHf := Lib.hid hHf
      have HTx := Lib.hid hTx
      have HLL := Lib.hid hL
      have B1 := hB.alloc hB.size (.cells #[.string x.key, .int .i64 x.page] 65)
      have K1 := Blk.new wr 65 #[.string x.key, .int .i64 x.page]
      have P1 := hP.below ((Below.refl _ _).alloc (Nat.le_refl _) (.cells #[.string x.key, .int .i64 x.page] 65))
      have hlo : w.heap.size ≤ w2.heap.size := B2.size
      clear hx d0 d1 hok hkk hHf hTx hL hll
      go_upto_region 9 with fail
      generalize wr.alloc (.cells #[.string x.key, .int .i64 x.page] 65) = W at B1 K1 P1 ⊢
      have K1d := K1.drew
      have P1d : PutS w2.heap.size W.drew w2.heap.size (L, 0) := P1.below ((Below.refl _ _).drew)
      have A0 : W.drew.cell? ⟨wr.heap.size, 0, none⟩ = some (.string x.key) ∧ W.drew.cell? ⟨wr.heap.size, 1, none⟩ = some (.int .i64 x.page) := ⟨K1.cell 0, K1.cell 1⟩
      go_region_held3 (fun w' => w'.cell? ⟨wr.heap.size, 0, none⟩ = some (.string x.key) ∧ w'.cell? ⟨wr.heap.size, 1, none⟩ = some (.int .i64 x.page))
        (first | exact A0 | with_reducible assumption)
        (first
          | (go_at_call 93; refine (HHf.out _ P1d).mono ?_; rintro e w5 ⟨rfl, P5, k5⟩; have K5 := k5.2 _ _ _ K1d (by decide) (by decide); have B5 := below_of k5.1 B1.drew hlo; have D5 : w5.cell? ⟨wr.heap.size, 0, none⟩ = some (.string x.key) ∧ w5.cell? ⟨wr.heap.size, 1, none⟩ = some (.int .i64 x.page) := ⟨K5.cell 0, K5.cell 1⟩)
          | (go_at_call 43; refine (HTx.out _ P5).mono ?_; rintro e w6 ⟨rfl, P6, k6⟩; have K6 := k6.2 _ _ _ K5 (by decide) (by decide); have B6 := below_of k6.1 B5 hlo; have D6 : w6.cell? ⟨wr.heap.size, 0, none⟩ = some (.string x.key) ∧ w6.cell? ⟨wr.heap.size, 1, none⟩ = some (.int .i64 x.page) := ⟨K6.cell 0, K6.cell 1⟩))
      go_wp2
      go_roundw
      case rel => exact ⟨k + 1, by omega, by go_num, by rw [HTK.out, ← List.append_assoc, HLL.out]; exact P6, B6⟩
      case measure => simp [intOf]; omega
    · obtain rfl : k = n := by omega
      have hE : ∀ w, PutS w2.heap.size w w2.heap.size (layL10 ks, 0) → Calls Tryz.prog 44 #[ptr w2.heap.size] w fun e w' => e = .returned (.tuple #[.string S, .int .i64 0]) ∧ ∃ n, w' = w.drewN n := fun w h => by rw [HS.out]; exact pend_s _ _ _ w h
      have hPP : PutS w2.heap.size wr w2.heap.size (layL10 ks, 0) := by rw [HLAY.out]; rwa [HT.out] at hP
      have HE := Lib.hid hE
      clear hE
      go_wp2_with (go_at_call 44; refine (HE.out _ hPP).mono ?_; rintro e w4 ⟨rfl, n4, h4⟩; subst h4)
      go_ret2
      exact ⟨rfl, below_drewN hB n4⟩
set_option maxRecDepth 100000 in
theorem klay_any (A : Option Addr) (n c : Nat) (ks : List Kd) (w : World) (hr : Rd w A (flatK ks)) (hn : ks.length = n) (hs : sumK ks ≤ 1099511627776) (hm : n ≤ 1000000) :
    Calls Tryz.prog 24 #[.slice A n c] w fun e w' => e = .returned (.tuple #[.string (layR ks).1, .int .i64 (layR ks).2]) ∧ Below w.heap.size w w' := by
  by_cases h0 : ks = []
  · rw [layR_arg (.inl h0)]
    obtain rfl : n = 0 := by rw [← hn, h0]; rfl
    clear hr hn hs hm h0
    go_enter Tryz.func24, Tryz.ntmps24
    go_wp2
    go_ret2
    exact ⟨rfl, Below.refl _ _⟩
  · have hpos : 0 < n := by rw [← hn]; exact List.length_pos_iff.2 h0
    have hnz : ((n : Int) == 0) = false := by simp; omega
    by_cases hR : RightK ks
    · by_cases hl : 232 < 1 + sumK ks ∨ 255 < ks.length
      · rw [layR_long (fun h => h.elim h0 fun h => h hR) hl]
        have HRt := Lib.hid fun w hr => kright_yes A n c ks w hr hn hm hR
        have HSz := Lib.hid fun w hr => ksize_any A n c ks w hr hn hs
        have HR := Lib.hid hr
        have hcs : (232 : Int) < 1 + (sumK ks : Int) ∨ ((1 : Int) + (sumK ks : Int) ≤ 232 ∧ (255 : Int) < (n : Int)) := by omega
        generalize sumK ks = z at *
        clear hr hn hs hm h0 hR hl
        rcases hcs with h | ⟨h, h'⟩
        all_goals
          go_enter Tryz.func24, Tryz.ntmps24
          go_wp2_with (first
            | (go_at_call 92; refine (HRt.out _ HR.out).mono ?_; rintro e w1 ⟨rfl, b1⟩)
            | (go_at_call 30; refine (HSz.out _ (HR.out.below b1)).mono ?_; rintro e w2 ⟨rfl, b2⟩; have B2 := below_of b2 b1 b1.size))
          go_ret2
          exact ⟨rfl, B2⟩
      · rw [layR_ok (fun h => h.elim h0 fun h => h hR) hl]
        exact klay_ok A n c ks w hr hn h0 hR (by omega) (by omega)
    · rw [layR_arg (.inr hR)]
      have HRt := Lib.hid fun w hr => kright_no A n c ks w hr hn hm hR
      have HR := Lib.hid hr
      clear hr hn hs hm h0 hR
      go_enter Tryz.func24, Tryz.ntmps24
      go_wp2_with (go_at_call 92; refine (HRt.out _ HR.out).mono ?_; rintro e w1 ⟨rfl, b1⟩)
      go_ret2
      exact ⟨rfl, b1⟩
end Go.Proofs.YtldkhhipfoeckaaGreat
