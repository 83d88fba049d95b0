/-
  NetOrder, walked: it is true. Condition: texts that can be read.
-/
import Derived.Test.YtpkbfdgfdgkbkaaPostAlive
namespace Go.Proofs.Ytpkbfdgfdgkbkaa
open Go Go.RowKit
attribute [local go_sem] cell_set_if

def txs (l : List ByteArray) : List Value := l.map Value.string
theorem txs_len (l : List ByteArray) : (txs l).length = l.length := by simp [txs]
theorem txs_at {l : List ByteArray} {k : Nat} {s : ByteArray} (h : l[k]? = some s) : (txs l)[k]? = some (.string s) := by simp [txs, h]
theorem txs_app (a b : List ByteArray) : txs (a ++ b) = txs a ++ txs b := by simp [txs]
theorem txInfo : (Try.prog.info? 9).map (fun i => (i.zero, i.size, i.bytes)) = some (some (.string ByteArray.empty), 1, 16) := by kernel_rfl
theorem Rd.tx {w : World} {A : Option Addr} {ss : List ByteArray} (h : Rd w A (txs ss)) {k : Nat} (hk : k < ss.length) : ∃ b o s, A = some ⟨b, o, none⟩ ∧ b < w.heap.size ∧ ss[k]? = some s ∧ w.cell? ⟨b, o + k, none⟩ = some (.string s) := by
  obtain ⟨b, o, e, hb, hc⟩ := h.flat (by rw [txs_len]; omega)
  have hx : ss[k]? = some (ss[k]'hk) := List.getElem?_eq_getElem _
  exact ⟨b, o, ss[k], e, hb, hx, hc k _ (txs_at hx)⟩
theorem nbit (a : Int) : bits .and .i64 a 1 = 0 ∨ bits .and .i64 a 1 = 1 := by
  have hm : (BitVec.ofInt 64 1).toNat = 1 := by decide
  have h : (BitVec.ofInt 64 a &&& BitVec.ofInt 64 1).toNat ≤ 1 := by rw [BitVec.toNat_and, hm]; exact Nat.and_le_right
  have e : bits .and .i64 a 1 = (((BitVec.ofInt 64 a &&& BitVec.ofInt 64 1).toNat : Nat) : Int) := by
    show IntKind.i64.wrap (((BitVec.ofInt 64 a &&& BitVec.ofInt 64 1).toNat : Nat) : Int) = _
    generalize (BitVec.ofInt 64 a &&& BitVec.ofInt 64 1).toNat = q at h ⊢
    exact IntWalk.i64_in _ (by omega)
  rw [e]
  generalize (BitVec.ofInt 64 a &&& BitVec.ofInt 64 1).toNat = q at h ⊢
  omega
theorem NetAt.ty {w : World} {base g : Nat} {l : List Pk} {c : List Ct} {v1 v2 : Value} (h : NetAt w base g l c v1 v2) : TyS w (mineN g v1 v2) [52, 29, 39] := fun q _ hs => by
  rcases hs with rfl | hs | hs
  · exact ⟨_, by simp, h.blk.ty⟩
  · exact ⟨_, by simp, own_ty h.o1 hs⟩
  · exact ⟨_, by simp, own_ty h.o2 hs⟩
theorem NetAt.frm_ty {w w' : World} {base g : Nat} {l : List Pk} {c : List Ct} {v1 v2 : Value} {S : Nat → Prop} {Ts : List TypeId} (h : NetAt w base g l c v1 v2) (k : Frm S w w') (hS : TyS w S Ts) (h1 : 52 ∉ Ts) (h2 : 29 ∉ Ts) (h3 : 39 ∉ Ts) : NetAt w' base g l c v1 v2 :=
  ⟨h.blk.frm_ty k hS h1, h.low, own_frm_ty h.o1 k hS h2, own_frm_ty h.o2 k hS h3⟩
theorem bit01 (i : Nat) : ∃ q : Int, bits .and .i64 (i : Int) 1 = q ∧ (q = 0 ∨ q = 1) := ⟨_, rfl, nbit _⟩
theorem cut01 (c : List Ct) (h : c = [] ∨ c = [⟨0, 1⟩]) (on : Bool) : cutT c (twoT 0 1) on = if on then [⟨0, 1⟩] else [] := by
  rcases h with rfl | rfl <;> rfl
theorem send01 (l : List Pk) (on : Bool) (q : Int) (s : ByteArray) (hq : q = 0 ∨ q = 1) (hl : l.length ≤ 100) : sendN (if on then [⟨0, 1⟩] else []) l [⟨q, 1 - q, s⟩] 1 = if on then (l, 0) else (l ++ [⟨q, 1 - q, s⟩], 1) := by
  have hb : lostK l (if on then [⟨0, 1⟩] else []) ⟨q, 1 - q, s⟩ = on := by
    unfold lostK
    rw [decide_eq_false (by omega)]
    have h1 : min q (1 - q) = 0 := by omega
    have h2 : max q (1 - q) = 1 := by omega
    simp only [h1, h2]
    cases on <;> rfl
  cases on
  · exact sendN_sent (c := []) (l := l) (ps := [⟨q, 1 - q, s⟩]) (k := 0) rfl hb
  · exact sendN_lost (c := [⟨0, 1⟩]) (l := l) (ps := [⟨q, 1 - q, s⟩]) (k := 0) rfl hb
set_option maxRecDepth 100000 in
set_option maxHeartbeats 2000000 in
theorem netorder_no (A0 : Option Addr) (n0 c0 : Nat) (a1 : Int) (w : World) (m0 : n0 ≤ 9223372036854775807) (h : 60 < n0 ∨ a1 < 0 ∨ (n0 : Int) < a1) :
    Calls Try.prog 3 #[.slice A0 n0 c0, .int .i64 a1] w fun e w' => e = .returned (.bool true) ∧ Below w.heap.size w w' := by
  have hc : (60 : Int) < n0 ∨ ((n0 : Int) ≤ 60 ∧ a1 < 0) ∨ ((n0 : Int) ≤ 60 ∧ 0 ≤ a1 ∧ (n0 : Int) < a1) := by omega
  clear h m0
  rcases hc with h | ⟨h, h1⟩ | ⟨h, h1, h2⟩
  all_goals
    go_enter Try.func3, Try.ntmps3
    go_wp2_with (go_at_call 5; refine (alive24_any _).mono ?_; rintro e wa ⟨rfl, ba⟩)
    go_ret
    exact ⟨rfl, ba⟩
set_option maxRecDepth 100000 in
set_option maxHeartbeats 8000000 in
theorem netorder_yes (A0 : Option Addr) (n0 c0 at_ : Nat) (ss : List ByteArray) (w : World) (r0 : Rd w A0 (txs ss)) (e0 : ss.length = n0) (h0 : n0 ≤ 60) (h1 : at_ ≤ n0) :
    Calls Try.prog 3 #[.slice A0 n0 c0, .int .i64 at_] w fun e w' => e = .returned (.bool true) ∧ Below w.heap.size w w' := by
  obtain ⟨i0, hi0, hz0, hz1, hz2⟩ := info_parts txInfo
  have R0 := Lib.hid r0
  have E0 := Lib.hid e0
  have h0' : (n0 : Int) ≤ 60 := by omega
  have h1' : (at_ : Int) ≤ (n0 : Int) := by omega
  have hd1 : decide ((at_ : Int) < 0) = false := decide_eq_false (by omega)
  have hd2 : decide ((n0 : Int) < (at_ : Int)) = false := decide_eq_false (by omega)
  clear r0 e0
  go_enter Try.func3, Try.ntmps3
  go_wp2_with (first
    | (go_at_call 5; refine (alive24_any _).mono ?_; rintro e wa ⟨rfl, ba⟩)
    | (go_at_call 6; refine (nnew_any _).mono ?_; rintro e w1 ⟨rfl, N1, b1⟩))
  obtain ⟨g, hg⟩ : ∃ g, g = wa.heap.size := ⟨_, rfl⟩
  have hwg : w.heap.size ≤ g := by have := ba.size; omega
  have B1 : Below w.heap.size w w1 := ba.trans (b1.mono ba.size)
  rw [← hg] at N1 ⊢
  have HN1 := Lib.hid N1
  have HB1 := Lib.hid B1
  have HWG := Lib.hid hwg
  clear hg ba b1 N1 B1 hwg
  go_loopw [4, 6, 7] (fun _ u6 u7 wr => ∃ (i m : Nat) (ws : List ByteArray) (l : List Pk) (c : List Ct) (v1 v2 : Value), i ≤ n0 ∧ u7 = .int .i64 i ∧ m ≤ i ∧ Hid (l.length = m ∧ ws = l.map (·.data)) ∧ Hid (c = [] ∨ c = [⟨0, 1⟩]) ∧ Hid (wr.ownsRow w.heap.size 9 1 u6 m (txs ws)) ∧ Hid (NetAt wr g g l c v1 v2) ∧ Hid (Below w.heap.size w wr)) (fun _ _ u7 _ => n0 - (intOf u7).toNat)
  case atStart => exact ⟨0, 0, [], [], [], _, _, by omega, rfl, by omega, ⟨rfl, rfl⟩, .inl rfl, World.ownsRow_nil _ _ _ _, HN1.out, HB1.out⟩
  case round =>
    clear HN1 HB1
    obtain ⟨i, m, ws, l, c, v1, v2, hi, rfl, hmi, HLW, HC, HO, HN, HB⟩ := hrel
    by_cases hlt : i < n0
    · have hlti : (i : Int) < (n0 : Int) := by omega
      obtain ⟨bk, o, s, rfl, hbl, hx, d0w⟩ := R0.out.tx (k := i) (by have := E0.out; omega)
      have d0 : wr.cell? ⟨bk, o + i, none⟩ = some (.string s) := (HB.out.cell (p := ⟨bk, o + i, none⟩) hbl).trans d0w
      clear hx
      by_cases hbig : 200 < s.size
      · have hbi : 200 < (s.size : Int) := by omega
        go_wp2
        go_ret
        exact ⟨rfl, HB.out⟩
      have hsm : (s.size : Int) ≤ 200 := by omega
      obtain ⟨q, hq, hq01⟩ := bit01 i
      have HQ := Lib.hid hq01
      have hqr : 0 ≤ q ∧ q ≤ 1 := by omega
      obtain ⟨hq0, hq1⟩ := hqr
      clear hq01 hbig
      by_cases hon : i = at_
      · subst hon
        have hcu := ncut_any 0 1 true HN.out (by have := HWG.out; have := HN.out.blk.lt; omega) (by rcases HC.out with h | h <;> rw [h] <;> simp)
        rw [cut01 c HC.out true] at hcu
        have HCU := Lib.hid hcu
        have HTY := Lib.hid HN.out.ty
        clear hcu
        go_upto_region 14 with (first
          | (go_at_call 7; with_reducible refine HCU.out.mono ?_; rintro e w3 ⟨rfl, v3, N3, T3⟩
             have B3 := HB.out.trans (TurnN.to_below HN.out T3 (by exact HB.out.size) HWG.out)
             have O3 := own_frm_ty HO.out T3.frm HTY.out (by decide)
             have A3 : Below w3.heap.size w3 (w3.alloc (.cells #[.int .i64 q, .int .i64 (1 - q), .string s] 29)) := (Below.refl _ _).alloc (Nat.le_refl _) _
             have N4 := N3.below A3
             have B4 := B3.trans (A3.mono B3.size)
             have O4 := own_frm (S := no) O3 (Frm.of_below A3) (fun _ _ h => h)
             have d3 : w3.cell? ⟨bk, o + i, none⟩ = some (.string s) := (B3.cell (p := ⟨bk, o + i, none⟩) hbl).trans d0w
             have hsd := nsend_any (some ⟨w3.heap.size, 0, none⟩) 1 1 [⟨q, 1 - q, s⟩] N4 (by have := N4.blk.lt; omega) (by have := HLW.out.1; omega) (by simp) (show Rd (w3.alloc (.cells #[.int .i64 q, .int .i64 (1 - q), .string s] 29)) (some ⟨w3.heap.size, 0, none⟩) (flatK [⟨q, 1 - q, s⟩]) from Rd.new w3 #[.int .i64 q, .int .i64 (1 - q), .string s] 29) rfl (by omega) (fun _ x hx hm => by
               injection hx with hx; subst hx
               have := (N3.mine_lt _ hm).2; simp at this) (fun p hp => by simp at hp; subst hp; show s.size ≤ _; omega)
             rw [send01 l true q s HQ.out (by have := HLW.out.1; omega)] at hsd
             have HSD := Lib.hid hsd
             clear hsd)
          | (go_at_call 8; with_reducible refine HSD.out.mono ?_; rintro e w5 ⟨rfl, v5, N5, T5⟩
             have B5 := B4.trans (TurnN.to_below N4 T5 B4.size HWG.out)
             have O5 := own_frm_ty O4 T5.frm N4.ty (by decide)))
        go_wp2
        go_roundw
        case rel => exact ⟨i + 1, m, ws, l, _, _, _, by omega, by go_num, by omega, HLW.out, .inr rfl, O5, N5, B5⟩
        case measure => simp [intOf]; omega
      · have hne0 : ¬ (i : Int) = (at_ : Int) := by omega
        have hne1 : ((i : Int) == (at_ : Int)) = false := by rw [beq_eq_false_iff_ne]; exact hne0
        have hne2 : decide ((i : Int) = (at_ : Int)) = false := decide_eq_false hne0
        have hne3 : ((i : Int) != (at_ : Int)) = true := by rw [bne, hne1]; rfl
        have hcu := ncut_any 0 1 false HN.out (by have := HWG.out; have := HN.out.blk.lt; omega) (by rcases HC.out with h | h <;> rw [h] <;> simp)
        rw [cut01 c HC.out false] at hcu
        have HCU := Lib.hid hcu
        have HTY := Lib.hid HN.out.ty
        clear hcu
        go_upto_region 14 with (first
          | (go_at_call 7; with_reducible refine HCU.out.mono ?_; rintro e w3 ⟨rfl, v3, N3, T3⟩
             have B3 := HB.out.trans (TurnN.to_below HN.out T3 (by exact HB.out.size) HWG.out)
             have O3 := own_frm_ty HO.out T3.frm HTY.out (by decide)
             have A3 : Below w3.heap.size w3 (w3.alloc (.cells #[.int .i64 q, .int .i64 (1 - q), .string s] 29)) := (Below.refl _ _).alloc (Nat.le_refl _) _
             have N4 := N3.below A3
             have B4 := B3.trans (A3.mono B3.size)
             have O4 := own_frm (S := no) O3 (Frm.of_below A3) (fun _ _ h => h)
             have d3 : w3.cell? ⟨bk, o + i, none⟩ = some (.string s) := (B3.cell (p := ⟨bk, o + i, none⟩) hbl).trans d0w
             have hsd := nsend_any (some ⟨w3.heap.size, 0, none⟩) 1 1 [⟨q, 1 - q, s⟩] N4 (by have := N4.blk.lt; omega) (by have := HLW.out.1; omega) (by simp) (show Rd (w3.alloc (.cells #[.int .i64 q, .int .i64 (1 - q), .string s] 29)) (some ⟨w3.heap.size, 0, none⟩) (flatK [⟨q, 1 - q, s⟩]) from Rd.new w3 #[.int .i64 q, .int .i64 (1 - q), .string s] 29) rfl (by omega) (fun _ x hx hm => by
               injection hx with hx; subst hx
               have := (N3.mine_lt _ hm).2; simp at this) (fun p hp => by simp at hp; subst hp; show s.size ≤ _; omega)
             rw [send01 l false q s HQ.out (by have := HLW.out.1; omega)] at hsd
             have HSD := Lib.hid hsd
             clear hsd)
          | (go_at_call 8; with_reducible refine HSD.out.mono ?_; rintro e w5 ⟨rfl, v5, N5, T5⟩
             have B5 := B4.trans (TurnN.to_below N4 T5 B4.size HWG.out)
             have O5 := own_frm_ty O4 T5.frm N4.ty (by decide)))
        have d5 : w5.cell? ⟨bk, o + i, none⟩ = some (.string s) := (B5.cell (p := ⟨bk, o + i, none⟩) hbl).trans d0w
        have O6 := O5.alloc (.cells #[.string s] 9)
        have hws : w.heap.size ≤ w5.heap.size := B5.size
        have RN : Rd (w5.alloc (.cells #[.string s] 9)) (some ⟨w5.heap.size, 0, none⟩) [.string s] := Rd.new w5 #[.string s] 9
        have N6 := N5.below ((Below.refl _ w5).alloc (Nat.le_refl _) (.cells #[.string s] 9))
        have B6 := B5.alloc B5.size (.cells #[.string s] 9)
        have HTO : Hid (TyS (w5.alloc (.cells #[.string s] 9)) (fun k => u6.ownBlock = some k) [9]) := fun k _ hk => ⟨_, by simp, own_ty O6 hk⟩
        have HN6 := Lib.hid N6
        have HB6 := Lib.hid B6
        have hm60 : m ≤ 60 := by omega
        clear N6 B6 N5 T5 B5 O5 N4 B4 O4 N3 T3 B3 O3 A3 HSD HCU d3
        go_wp2_with (at_builtin
                     refine wpList_app rfl (.tmp 74) (.tmp 79) 22 rfl w.heap.size 9 i0 _ 1 16 Try.underlying22 hi0 hz0 hz1 hz2 rfl (by omega) u6 m _ rfl O6 (some ⟨w5.heap.size, 0, none⟩) 1 1 [.string s] rfl RN rfl (by simp [Value.oneCell']) (by unfold maxLen; omega) (by omega) (by simp; omega) ?_
                     intro v8 w8 hown8 hg8 hb8 hat8)
        go_roundw
        case rel =>
          have F8 : Frm (fun k => u6.ownBlock = some k) (w5.alloc (.cells #[.string s] 9)) w8 := (Frm.refl _ _).grown hg8 (fun k hk _ => hk)
          refine ⟨i + 1, m + 1, ws ++ [s], l ++ [(⟨q, 1 - q, s⟩ : Pk)], [], v5, v3, by omega, by go_num, by omega, ⟨by rw [List.length_append, HLW.out.1]; rfl, by rw [List.map_append, ← HLW.out.2]; rfl⟩, .inl rfl, ?_, (show NetAt w8 g g (l ++ [(⟨q, 1 - q, s⟩ : Pk)]) [] v5 v3 from HN6.out.frm_ty F8 HTO.out (by decide) (by decide) (by decide)), HB6.out.trans hb8⟩
          rw [txs_app]; exact hown8
        case measure => simp [intOf]; omega
    · obtain rfl : n0 = i := by omega
      obtain ⟨Aw, cw, rfl, hcw⟩ := own_form HO.out
      have hlm := HLW.out.1
      have HLM := Lib.hid hlm
      have HWS := Lib.hid HLW.out.2
      have hm60 : (m : Int) ≤ 60 := by omega
      clear hlm HLW hlt hi
      go_wp2
      go_loopw [4, 9] (fun _ u9 wr => ∃ (j : Nat) (v1' : Value), j ≤ m ∧ u9 = .int .i64 j ∧ Hid (wr.ownsRow w.heap.size 9 1 (.slice Aw m cw) m (txs ws)) ∧ Hid (NetAt wr g g (l.drop j) c v1' v2) ∧ Hid (Below w.heap.size w wr)) (fun _ u9 _ => m - (intOf u9).toNat)
      case atStart => exact ⟨0, v1, by omega, rfl, HO.out, by rw [List.drop_zero]; exact HN.out, HB.out⟩
      case round =>
        clear HO HN HB
        obtain ⟨j, v1', hj, rfl, HO, HN, HB⟩ := hrel
        have hdl : (l.drop j).length ≤ 60 := by rw [List.length_drop]; have := HLM.out; omega
        have htk := ntake_any 0 HN.out (by omega)
        have hty := HN.out.ty
        have HTY := Lib.hid hty
        by_cases hlt : j < m
        · have hlti : (j : Int) < (m : Int) := by omega
          obtain ⟨x, hx⟩ : ∃ x, l[j]? = some x := ⟨_, List.getElem?_eq_getElem (by have := HLM.out; omega)⟩
          have hdr : l.drop j = x :: l.drop (j + 1) := by
            rw [List.getElem?_eq_some_iff] at hx
            obtain ⟨h1, rfl⟩ := hx
            exact List.drop_eq_getElem_cons h1
          have e2 : isAt (l.drop j) 0 = true := by rw [hdr]; unfold isAt; simp
          have e1 : peekK (l.drop j) 0 = x := by unfold peekK; rw [e2, if_pos rfl, hdr]; rfl
          have e3 : takeK (l.drop j) 0 = l.drop (j + 1) := by unfold takeK; rw [e2, if_pos rfl, hdr]; simp
          rw [e1, e2, e3] at htk
          obtain ⟨bw, ow, y, hAw, hbw, hy, dy⟩ := (Rd.of_own HO.out).tx (k := j) (by rw [HWS.out, List.length_map]; have := HLM.out; omega)
          subst hAw
          have hyx : y = x.data := by
            rw [HWS.out, List.getElem?_map, hx] at hy
            exact (Option.some.inj hy).symm
          subst hyx
          obtain ⟨x1, x2, x3⟩ := x
          unfold pkV at htk
          have HTK := Lib.hid htk
          have hxx : (x3.toList == x3.toList) = true := by simp
          have hbo : bw < wr.heap.size := hbw
          have hnm : ¬ mineN g v1' v2 bw := fun hm => by
            have h1 := own_ty HO.out (q := bw) rfl
            obtain ⟨t, ht, h2⟩ := HTY.out bw hbw hm
            rw [← h1.eq h2] at ht
            exact absurd ht (by decide)
          have HNM := Lib.hid hnm
          clear htk hx hdr e1 e2 e3 hy hty hnm hdl
          go_upto_region 22 with (go_at_call 9; with_reducible refine HTK.out.mono ?_; rintro e w5 ⟨rfl, v5, N5, T5⟩
                                  have B5 := HB.out.trans (TurnN.to_below HN.out T5 (by exact HB.out.size) HWG.out)
                                  have O5 := own_frm_ty HO.out T5.frm HTY.out (by decide)
                                  have d5 : w5.cell? ⟨bw, ow + j, none⟩ = some (.string x3) := (T5.frm.cell (p := ⟨bw, ow + j, none⟩) hbo HNM.out).trans dy
                                  have A5 : Below w5.heap.size w5 (w5.alloc (.cells #[.int .i64 x1, .int .i64 x2, .string x3] 29)) := (Below.refl _ _).alloc (Nat.le_refl _) _
                                  have X5 := Blk.new w5 29 #[.int .i64 x1, .int .i64 x2, .string x3]
                                  have N6 := N5.below A5
                                  have B6 := B5.trans (A5.mono B5.size)
                                  have O6 := own_frm (S := no) O5 (Frm.of_below A5) (fun _ _ h => h)
                                  have d6 := cell_b A5 d5)
          generalize w5.alloc (.cells #[.int .i64 x1, .int .i64 x2, .string x3] 29) = W at A5 X5 N6 B6 O6 d6 ⊢
          have y2 : W.cell? ⟨w5.heap.size, 2, none⟩ = some (.string x3) := X5.cell 2
          have HN6 := Lib.hid N6
          have HB6 := Lib.hid B6
          have HO6 := Lib.hid O6
          clear N6 B6 O6 X5 A5 d5 O5 B5 T5 N5 HTK dy HN HO
          go_wp2
          go_quiet (fail)
          go_wp2
          go_roundw
          case rel => exact ⟨j + 1, v5, by omega, by go_num, own_frm (S := no) HO6.out ((Frm.refl _ _).drewN _) (fun _ _ h => h), HN6.out.below (below_drewN (Below.refl _ _) _), below_drewN HB6.out _⟩
          case measure => simp [intOf]; omega
        · obtain rfl : m = j := by omega
          have hdr : l.drop m = [] := List.drop_eq_nil_of_le (by rw [HLM.out]; exact Nat.le_refl _)
          have hn := HN.out
          rw [hdr] at htk hn
          have HTK : Hid (Calls Try.prog 9 #[.pointer (some ⟨g, 0, none⟩), .int .i64 0] wr fun e w' => e = .returned (.tuple #[.agg #[.int .i64 0, .int .i64 0, .string ⟨#[]⟩], .bool false]) ∧ ∃ v1'', NetAt w' g g [] c v1'' v2 ∧ TurnN g v1' v2 wr v1'' v2 w') := htk
          have HN2 := Lib.hid hn
          clear htk hn hdr hty hdl HN hlt
          go_wp2_with (first
            | (go_at_call 9; with_reducible refine HTK.out.mono ?_; rintro e w5 ⟨rfl, v5, N5, T5⟩
               have B5 := HB.out.trans (TurnN.to_below HN2.out T5 (by exact HB.out.size) HWG.out)
               have A5 : Below w5.heap.size w5 (w5.alloc (.cells #[.int .i64 0, .int .i64 0, .string ⟨#[]⟩] 29)) := (Below.refl _ _).alloc (Nat.le_refl _) _
               have HLEN : Hid (Calls Try.prog 10 #[.pointer (some ⟨g, 0, none⟩)] (w5.alloc (.cells #[.int .i64 0, .int .i64 0, .string ⟨#[]⟩] 29)) fun e w' => e = .returned (.int .i64 0) ∧ w' = (w5.alloc (.cells #[.int .i64 0, .int .i64 0, .string ⟨#[]⟩] 29))) := nlen_any (N5.below A5)
               have B6 := B5.trans (A5.mono B5.size))
            | (go_at_call 10; with_reducible refine HLEN.out.mono ?_; rintro e w6 ⟨rfl, hw6⟩; subst hw6))
          go_ret
          exact ⟨rfl, B6⟩
theorem netorder_walk (A0 : Option Addr) (n0 c0 : Nat) (a1 : Int) (ss : List ByteArray) (w : World) (r0 : Rd w A0 (txs ss)) (e0 : ss.length = n0) (m0 : n0 ≤ 9223372036854775807) :
    Calls Try.prog 3 #[.slice A0 n0 c0, .int .i64 a1] w fun e w' => e = .returned (.bool true) ∧ Below w.heap.size w w' := by
  by_cases h : 60 < n0 ∨ a1 < 0 ∨ (n0 : Int) < a1
  · exact netorder_no A0 n0 c0 a1 w m0 h
  · obtain ⟨k, rfl⟩ : ∃ k : Nat, a1 = (k : Int) := ⟨a1.toNat, by omega⟩
    exact netorder_yes A0 n0 c0 k ss w r0 e0 (by omega) (by omega)
end Go.Proofs.Ytpkbfdgfdgkbkaa
