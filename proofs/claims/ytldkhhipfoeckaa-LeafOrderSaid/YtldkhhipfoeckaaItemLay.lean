/-
  What Lay of items gives. Conditions: no more items than a million; their keys no longer than memory holds.
-/
import Derived.Test.YtldkhhipfoeckaaItemW
namespace Go.Proofs.Ytldkhhipfoeckaa
open Go Go.RowKit
attribute [local go_sem] cell_set_if

theorem iright_yes (A : Option Addr) (n c : Nat) (ks : List Im) (w : World) (hr : Rd w A (flatI ks)) (hn : ks.length = n) (hm : n ≤ 1000000) (h : RightI ks) :
    Calls Try.prog 126 #[.slice A n c] w fun e w' => e = .returned (.bool true) ∧ Below w.heap.size w w' :=
  (iright_any A n c ks w hr hn hm).mono fun e w' ⟨⟨b, he, hb⟩, hB⟩ => ⟨by rw [he, hb.2 h], hB⟩
theorem iright_no (A : Option Addr) (n c : Nat) (ks : List Im) (w : World) (hr : Rd w A (flatI ks)) (hn : ks.length = n) (hm : n ≤ 1000000) (h : ¬ RightI ks) :
    Calls Try.prog 126 #[.slice A n c] w fun e w' => e = .returned (.bool false) ∧ Below w.heap.size w w' :=
  (iright_any A n c ks w hr hn hm).mono fun e w' ⟨⟨b, he, hb⟩, hB⟩ => ⟨by
    cases b
    · exact he
    · exact absurd (hb.1 rfl) h, hB⟩
theorem new_putS (w : World) : PutS w.heap.size (w.alloc (.cells #[.slice none 0 0, .int .i64 0] 163)) w.heap.size ([], 0) :=
  ⟨Nat.le_refl _, _, Blk.new _ _ _, World.ownsRow_nil _ _ _ _⟩

set_option maxRecDepth 100000 in
set_option maxHeartbeats 1000000 in
theorem ilay_ok (A : Option Addr) (n c : Nat) (ks : List Im) (w : World) (hr : Rd w A (flatI ks)) (hn : ks.length = n) (hR : RightI ks) (hs : 1 + sumI ks ≤ 232) (h255 : n ≤ 255) :
    Calls Try.prog 61 #[.slice A n c] w fun e w' => e = .returned (.tuple #[.string (bs (layL9 ks)), .int .i64 0]) ∧ Below w.heap.size w w' := by
  obtain ⟨S, hS⟩ : ∃ S, S = bs (layL9 ks) := ⟨_, rfl⟩
  rw [← hS]
  have HS := Lib.hid hS
  clear hS
  have hRt := fun w hr => iright_yes A n c ks w hr hn (by omega) hR
  have hSz := fun w hr => isize_any A n c ks w hr hn (by omega)
  have hBy : ∀ (base g : Nat) (w : World), PutS base w g ([], 0) → Calls Try.prog 129 #[ptr g, .int .i64 n] w fun e w' => e = .returned (ptr g) ∧ PutS base w' g (lowB n 1, 0) ∧ BK base w w' := fun base g w h => by
    have := pbyte_k base g ([], 0) n w h (by simp)
    rwa [putSmall_ok 1 n [] (by omega) (by omega), List.nil_append, Int.toNat_natCast] at this
  have HT : Hid (ks.take n = ks) := List.take_of_length_le (by omega)
  have hlen : ∀ k, (lowB n 1 ++ itemsB (ks.take k)).length ≤ 1000 := fun k => by
    rw [List.length_append, lowB_len, itemsB_len]; have := sumI_le ks k; omega
  have HLAY : Hid (layL9 ks = lowB n 1 ++ itemsB ks) := by unfold Hid layL9; rw [hn]
  have HR := Lib.hid hr
  have HN := Lib.hid hn
  have HRt := Lib.hid hRt
  have HSz := Lib.hid hSz
  have HBy := Lib.hid hBy
  have HL := Lib.hid hlen
  have HRK := Lib.hid hR
  have hz1 : (1 : Int) + (sumI ks : Int) ≤ 232 := by omega
  have hz2 : (n : Int) ≤ 255 := by omega
  clear hr hn hRt hSz hBy hlen hs h255 hR
  go_enter Try.func61, Try.ntmps61
  go_wp2_with (first
    | (go_at_call 126; refine (HRt.out _ HR.out).mono ?_; rintro e w1 ⟨rfl, b1⟩)
    | (go_at_call 64; refine (HSz.out _ (HR.out.below b1)).mono ?_; rintro e w2 ⟨rfl, b2⟩; have B2 := below_of b2 b1 b1.size; have P2 := new_putS w2)
    | (go_at_call 129; refine (HBy.out _ _ _ P2).mono ?_; rintro e w3 ⟨rfl, P3, k3⟩; have B3 := below_of k3.1 (B2.alloc B2.size _) B2.size))
  go_loopw [27] (fun u27 wr => ∃ k : Nat, k ≤ n ∧ u27 = .int .i64 k ∧ PutS w2.heap.size wr w2.heap.size (lowB n 1 ++ itemsB (ks.take k), 0) ∧ Below w.heap.size w wr) (fun u27 _ => n - (intOf u27).toNat)
  case atStart => exact ⟨0, by omega, rfl, by simpa [itemsB] using P3, B3⟩
  case round =>
    obtain ⟨k, hk, rfl, hP, hB⟩ := hrel
    by_cases hlt : k < n
    · obtain ⟨bb, o, x, rfl, hbb, hx, d0, d1, d2⟩ := HR.out.item (k := k) (by have := HN.out; omega)
      have c0 := cell_bb hB hbb d0
      have c1 := cell_bb hB hbb d1
      have c2 := cell_bb hB hbb d2
      have hok := HRK.out.ok k x hx
      have hkk : x.key.size ≤ 32 ∧ 0 ≤ x.kind ∧ x.kind ≤ 2 ∧ x.val.size ≤ 96 := by unfold okI at hok; simp at hok; omega
      have HTK := Lib.hid (itemsB_take ks k x hx)
      have hll := HL.out k
      generalize hL : lowB n 1 ++ itemsB (ks.take k) = L at hP hll
      have hBk : ∀ w, PutS w2.heap.size w w2.heap.size (L, 0) → Calls Try.prog 129 #[ptr w2.heap.size, .int .i64 x.kind] w fun e w' => e = .returned (ptr w2.heap.size) ∧ PutS w2.heap.size w' w2.heap.size (L ++ lowB x.kind.toNat 1, 0) ∧ BK w2.heap.size w w' := fun w h => by
        have := pbyte_k _ _ (L, 0) x.kind w h (by show L.length ≤ _; omega)
        rwa [putSmall_ok 1 x.kind L (by omega) (by omega)] at this
      have hTx : ∀ w, PutS w2.heap.size w w2.heap.size (L ++ lowB x.kind.toNat 1, 0) → Calls Try.prog 130 #[ptr w2.heap.size, .string x.key] w fun e w' => e = .returned (ptr w2.heap.size) ∧ PutS w2.heap.size w' w2.heap.size (L ++ lowB x.kind.toNat 1 ++ lowB x.key.size 2 ++ bts x.key, 0) ∧ BK w2.heap.size w w' := fun w h => by
        have := ptext_k _ _ (L ++ lowB x.kind.toNat 1, 0) x.key w h (by show (L ++ lowB x.kind.toNat 1).length + _ ≤ _; rw [List.length_append, lowB_len]; omega)
        rwa [putText_ok _ _ (by rw [bts_len]; omega), bts_len] at this
      have hTv : ∀ w, PutS w2.heap.size w w2.heap.size (L ++ lowB x.kind.toNat 1 ++ lowB x.key.size 2 ++ bts x.key, 0) → Calls Try.prog 130 #[ptr w2.heap.size, .string x.val] w fun e w' => e = .returned (ptr w2.heap.size) ∧ PutS w2.heap.size w' w2.heap.size (L ++ itemB x, 0) ∧ BK w2.heap.size w w' := fun w h => by
        have := ptext_k _ _ (L ++ lowB x.kind.toNat 1 ++ lowB x.key.size 2 ++ bts x.key, 0) x.val w h (by show (L ++ lowB x.kind.toNat 1 ++ lowB x.key.size 2 ++ bts x.key).length + _ ≤ _; rw [List.length_append, List.length_append, List.length_append, lowB_len, lowB_len, bts_len]; omega)
        rw [putText_ok _ _ (by rw [bts_len]; omega), bts_len] at this
        unfold itemB
        simpa [List.append_assoc] using this
      have hL3 : L ++ itemB x = L ++ itemB x := rfl
      generalize L ++ lowB x.kind.toNat 1 ++ lowB x.key.size 2 ++ bts x.key = L2 at hTx hTv
      generalize L ++ lowB x.kind.toNat 1 = L1 at hBk hTx
      generalize hLL3 : L ++ itemB x = L3 at hTv
      have HLL3 := Lib.hid hLL3
      clear hL3 hLL3
      have HBk := Lib.hid hBk
      have HTx := Lib.hid hTx
      have HTv := Lib.hid hTv
      have HLL := Lib.hid hL
      have B1 := hB.alloc hB.size (.cells #[.string x.key, .string x.val, .int .i64 x.kind] 108)
      have K1 := Blk.new wr 108 #[.string x.key, .string x.val, .int .i64 x.kind]
      have P1 := hP.below ((Below.refl _ _).alloc (Nat.le_refl _) (.cells #[.string x.key, .string x.val, .int .i64 x.kind] 108))
      have hlo : w.heap.size ≤ w2.heap.size := B2.size
      clear hx d0 d1 d2 hok hkk hBk hTx hTv hL hll
      go_upto_region 9 with fail
      generalize wr.alloc (.cells #[.string x.key, .string x.val, .int .i64 x.kind] 108) = W at B1 K1 P1 ⊢
      have K1d := K1.drew
      have P1d : PutS w2.heap.size W.drew w2.heap.size (L, 0) := P1.below ((Below.refl _ _).drew)
      have A0 : W.drew.cell? ⟨wr.heap.size, 0, none⟩ = some (.string x.key) ∧ W.drew.cell? ⟨wr.heap.size, 1, none⟩ = some (.string x.val) ∧ W.drew.cell? ⟨wr.heap.size, 2, none⟩ = some (.int .i64 x.kind) := ⟨K1.cell 0, K1.cell 1, K1.cell 2⟩
      go_region_held3 (fun w' => w'.cell? ⟨wr.heap.size, 0, none⟩ = some (.string x.key) ∧ w'.cell? ⟨wr.heap.size, 1, none⟩ = some (.string x.val) ∧ w'.cell? ⟨wr.heap.size, 2, none⟩ = some (.int .i64 x.kind))
        (first | exact A0 | with_reducible assumption)
        (first
          | (go_at_call 129; refine (HBk.out _ P1d).mono ?_; rintro e w5 ⟨rfl, P5, k5⟩; have K5 := k5.2 _ _ _ K1d (by decide) (by decide); have B5 := below_of k5.1 B1.drew hlo; have D5 : w5.cell? ⟨wr.heap.size, 0, none⟩ = some (.string x.key) ∧ w5.cell? ⟨wr.heap.size, 1, none⟩ = some (.string x.val) ∧ w5.cell? ⟨wr.heap.size, 2, none⟩ = some (.int .i64 x.kind) := ⟨K5.cell 0, K5.cell 1, K5.cell 2⟩)
          | (go_at_call 130; refine (HTv.out _ P6).mono ?_; rintro e w7 ⟨rfl, P7, k7⟩; have K7 := k7.2 _ _ _ K6 (by decide) (by decide); have B7 := below_of k7.1 B6 hlo; have D7 : w7.cell? ⟨wr.heap.size, 0, none⟩ = some (.string x.key) ∧ w7.cell? ⟨wr.heap.size, 1, none⟩ = some (.string x.val) ∧ w7.cell? ⟨wr.heap.size, 2, none⟩ = some (.int .i64 x.kind) := ⟨K7.cell 0, K7.cell 1, K7.cell 2⟩)
          | (go_at_call 130; refine (HTx.out _ P5).mono ?_; rintro e w6 ⟨rfl, P6, k6⟩; have K6 := k6.2 _ _ _ K5 (by decide) (by decide); have B6 := below_of k6.1 B5 hlo; have D6 : w6.cell? ⟨wr.heap.size, 0, none⟩ = some (.string x.key) ∧ w6.cell? ⟨wr.heap.size, 1, none⟩ = some (.string x.val) ∧ w6.cell? ⟨wr.heap.size, 2, none⟩ = some (.int .i64 x.kind) := ⟨K6.cell 0, K6.cell 1, K6.cell 2⟩))
      go_wp2
      go_roundw
      case rel => exact ⟨k + 1, by omega, by go_num, by rw [HTK.out, ← List.append_assoc, HLL.out, HLL3.out]; exact P7, B7⟩
      case measure => simp [intOf]; omega
    · obtain rfl : k = n := by omega
      have hE : ∀ w, PutS w2.heap.size w w2.heap.size (layL9 ks, 0) → Calls Try.prog 131 #[ptr w2.heap.size] w fun e w' => e = .returned (.tuple #[.string S, .int .i64 0]) ∧ ∃ n, w' = w.drewN n := fun w h => by rw [HS.out]; exact pend_s _ _ _ w h
      have hPP : PutS w2.heap.size wr w2.heap.size (layL9 ks, 0) := by rw [HLAY.out]; rwa [HT.out] at hP
      have HE := Lib.hid hE
      clear hE
      go_wp2_with (go_at_call 131; refine (HE.out _ hPP).mono ?_; rintro e w4 ⟨rfl, n4, h4⟩; subst h4)
      go_ret2
      exact ⟨rfl, below_drewN hB n4⟩
set_option maxRecDepth 100000 in
theorem ilay_any (A : Option Addr) (n c : Nat) (ks : List Im) (w : World) (hr : Rd w A (flatI ks)) (hn : ks.length = n) (hs : sumI ks ≤ 1099511627776) (hm : n ≤ 1000000) :
    Calls Try.prog 61 #[.slice A n c] w fun e w' => e = .returned (.tuple #[.string (layS ks).1, .int .i64 (layS ks).2]) ∧ Below w.heap.size w w' := by
  by_cases hR : RightI ks
  · by_cases hl : 232 < 1 + sumI ks ∨ 255 < ks.length
    · rw [layS_long hR hl]
      have HRt := Lib.hid fun w hr => iright_yes A n c ks w hr hn hm hR
      have HSz := Lib.hid fun w hr => isize_any A n c ks w hr hn hs
      have HR := Lib.hid hr
      have hcs : (232 : Int) < 1 + (sumI ks : Int) ∨ ((1 : Int) + (sumI ks : Int) ≤ 232 ∧ (255 : Int) < (n : Int)) := by omega
      generalize sumI ks = z at *
      clear hr hn hs hm hR hl
      rcases hcs with h | ⟨h, h'⟩
      all_goals
        go_enter Try.func61, Try.ntmps61
        go_wp2_with (first
          | (go_at_call 126; refine (HRt.out _ HR.out).mono ?_; rintro e w1 ⟨rfl, b1⟩)
          | (go_at_call 64; refine (HSz.out _ (HR.out.below b1)).mono ?_; rintro e w2 ⟨rfl, b2⟩; have B2 := below_of b2 b1 b1.size))
        go_ret2
        exact ⟨rfl, B2⟩
    · rw [layS_ok hR hl]
      exact ilay_ok A n c ks w hr hn hR (by omega) (by omega)
  · rw [layS_arg hR]
    have HRt := Lib.hid fun w hr => iright_no A n c ks w hr hn hm hR
    have HR := Lib.hid hr
    clear hr hn hs hm hR
    go_enter Try.func61, Try.ntmps61
    go_wp2_with (go_at_call 126; refine (HRt.out _ HR.out).mono ?_; rintro e w1 ⟨rfl, b1⟩)
    go_ret2
    exact ⟨rfl, b1⟩
end Go.Proofs.Ytldkhhipfoeckaa
