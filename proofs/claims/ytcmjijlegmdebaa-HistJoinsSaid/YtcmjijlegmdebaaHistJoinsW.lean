/-
  The walk of the law HistJoins: for every input it returns true and changes nothing that was there. No condition but those of the arguments' form.
-/
import Derived.Test.YtcmjijlegmdebaaHistJoinsT
namespace Go.Proofs.Ytcmjijlegmdebaa
open Go Go.RowKit
attribute [local go_sem] cell_set_if

set_option maxRecDepth 100000 in
set_option maxHeartbeats 1000000 in
theorem histjoins_no (A0 A1 A2 : Option Addr) (n0 c0 n1 c1 n2 c2 : Nat) (bt : Int) (w : World) (m0 : n0 ≤ 9223372036854775807) (m1 : n1 ≤ 9223372036854775807) (m2 : n2 ≤ 9223372036854775807)
    (h : 40 < n0 ∨ (n0 ≤ 40 ∧ 40 < n1) ∨ (n0 ≤ 40 ∧ n1 ≤ 40 ∧ 40 < n2) ∨ (n0 ≤ 40 ∧ n1 ≤ 40 ∧ n2 ≤ 40 ∧ bt < 1) ∨ (n0 ≤ 40 ∧ n1 ≤ 40 ∧ n2 ≤ 40 ∧ 1 ≤ bt ∧ 50 < bt)) :
    Calls Try.prog 6 #[.slice A0 n0 c0, .slice A1 n1 c1, .slice A2 n2 c2, .int .i64 bt] w fun e w' => e = .returned (.bool true) ∧ Below w.heap.size w w' := by
  have hc : (40 : Int) < n0 ∨ ((n0 : Int) ≤ 40 ∧ (40 : Int) < n1) ∨ ((n0 : Int) ≤ 40 ∧ (n1 : Int) ≤ 40 ∧ (40 : Int) < n2) ∨ ((n0 : Int) ≤ 40 ∧ (n1 : Int) ≤ 40 ∧ (n2 : Int) ≤ 40 ∧ bt < 1) ∨ ((n0 : Int) ≤ 40 ∧ (n1 : Int) ≤ 40 ∧ (n2 : Int) ≤ 40 ∧ 1 ≤ bt ∧ 50 < bt) := by omega
  clear h m0 m1 m2
  rcases hc with h | ⟨h, h1⟩ | ⟨h, h1, h2⟩ | ⟨h, h1, h2, h3⟩ | ⟨h, h1, h2, h3, h4⟩
  all_goals
    go_enter Try.func6, Try.ntmps6
    go_wp2_with (go_at_call 25; refine (alive23_any _).mono ?_; rintro e wa ⟨rfl, ba⟩)
    go_ret
    exact ⟨rfl, ba⟩

theorem bit_cell {w wr : World} {B : Nat} (hB : Below B w wr) {A : Option Addr} {zs : List Int} (hr : Rd w A (zs.map (Value.int .i64))) (hw : w.heap.size ≤ B) {k : Nat} (hk : k < zs.length) :
    ∃ b o x y, A = some ⟨b, o, none⟩ ∧ wr.cell? ⟨b, o + k, none⟩ = some (.int .i64 x) ∧ bits .and .i64 x 1 = y ∧ 0 ≤ y ∧ y ≤ 1 := by
  obtain ⟨b, o, rfl, hb, hcs⟩ := hr.flat (by simp; omega)
  have hx : zs[k]? = some zs[k] := List.getElem?_eq_getElem hk
  refine ⟨b, o, zs[k], bits .and .i64 zs[k] 1, rfl, ?_, rfl, ?_⟩
  · rw [(below_cells hB).1 b _ (by omega)]
    exact hcs k _ (by simp [hx])
  · rcases one_bit zs[k] with h | h <;> rw [h] <;> omega

set_option maxRecDepth 100000 in
set_option maxHeartbeats 8000000 in
theorem histjoins_yes (A0 A1 A2 : Option Addr) (n0 c0 n1 c1 n2 c2 : Nat) (z0 z1 z2 : List Int) (bt : Int) (w : World) (r0 : Rd w A0 (z0.map (Value.int .i64))) (e0 : z0.length = n0) (r1 : Rd w A1 (z1.map (Value.int .i64))) (e1 : z1.length = n1) (r2 : Rd w A2 (z2.map (Value.int .i64))) (e2 : z2.length = n2)
    (h0 : n0 ≤ 40) (h1 : n1 ≤ 40) (h2 : n2 ≤ 40) (h3 : 1 ≤ bt) (h4 : bt ≤ 50) :
    Calls Try.prog 6 #[.slice A0 n0 c0, .slice A1 n1 c1, .slice A2 n2 c2, .int .i64 bt] w fun e w' => e = .returned (.bool true) ∧ Below w.heap.size w w' := by
  have R0 := Lib.hid r0
  have R1 := Lib.hid r1
  have R2 := Lib.hid r2
  have E0 := Lib.hid e0
  have E1 := Lib.hid e1
  have E2 := Lib.hid e2
  have h0' : (n0 : Int) ≤ 40 := by omega
  have h1' : (n1 : Int) ≤ 40 := by omega
  have h2' : (n2 : Int) ≤ 40 := by omega
  clear r0 r1 r2 e0 e1 e2
  go_enter Try.func6, Try.ntmps6
  go_wp2_with (first
    | (go_at_call 25; refine (alive23_any _).mono ?_; rintro e wa ⟨rfl, ba⟩; have tok := trivial)
    | (go_at_call 26; have _t := tok; refine (new0_any _).mono ?_; rintro e w1 ⟨rfl, L1, b1⟩; clear tok)
    | (go_at_call 26; refine (new0_any _).mono ?_; rintro e w2 ⟨rfl, L2, b2⟩))
  have B2 : Below w.heap.size w w2 := below_of b2 (below_of b1 ba ba.size) (Nat.le_trans ba.size b1.size)
  have L1' := (L1.below b2).base (base' := w.heap.size) ba.size
  have L2' := L2.base (base' := w.heap.size) (Nat.le_trans ba.size b1.size)
  have hA : Aside wa.heap.size (.slice none 0 0) w1.heap.size (.slice none 0 0) := by
    intro k hk hk'
    have := L1.blk.lt
    rcases hk with rfl | hk
    · rcases hk' with hk' | hk'
      · omega
      · cases hk'
    · cases hk
  generalize wa.heap.size = g1 at *
  generalize w1.heap.size = g2 at *
  go_loopw [8, 11, 12] (fun u8 u11 u12 wr => ∃ (k : Nat) (ss : List Int) (T : Int) (va vb : Value), k ≤ n0 ∧ u12 = .int .i64 k ∧ u11 = .int .i64 T ∧ ss.length = k ∧ tmOf 0 ss ss.length = T ∧ 0 ≤ T ∧ T ≤ k ∧ Up 0 ss ∧ LogAt wr w.heap.size g1 0 0 (mkE 0 ss) va ∧ LogAt wr w.heap.size g2 0 0 (mkE 0 ss) vb ∧ Below w.heap.size w wr ∧ Aside g1 va g2 vb) (fun _ _ u12 _ => n0 - (intOf u12).toNat)
  case atStart => exact ⟨0, [], 0, _, _, by omega, rfl, rfl, rfl, rfl, by omega, by omega, fun k x h => by simp at h, L1', L2', B2, hA⟩
  case round =>
    obtain ⟨k, ss, T, va, vb, hk, rfl, rfl, hlen, hlast, hT0, hTk, hup, La, Lb, hB, hAs⟩ := hrel
    clear L1' L2' B2 hA L1 L2 b1 b2 ba
    have HL := Lib.hid hlen
    have HLA := Lib.hid hlast
    have HUP := Lib.hid hup
    clear hlen hlast hup
    by_cases hlt : k < n0
    · obtain ⟨bk, o, x, y, rfl, hx0, hy, hy0, hy1⟩ := bit_cell hB R0.out (Nat.le_refl _) (k := k) (by have := E0.out; omega)
      have La1 := La.below ((Below.refl _ _).alloc (Nat.le_refl _) (.cells #[.int .i64 (k + 1), .int .i64 (T + y), .int .i64 0, .int .i64 0, .slice none 0 0] 74))
      have Lb1 := Lb.below ((Below.refl _ _).alloc (Nat.le_refl _) (.cells #[.int .i64 (k + 1), .int .i64 (T + y), .int .i64 0, .int .i64 0, .slice none 0 0] 74))
      have B1 := hB.alloc hB.size (.cells #[.int .i64 (k + 1), .int .i64 (T + y), .int .i64 0, .int .i64 0, .slice none 0 0] 74)
      have hm1 : ∀ q, mine g1 va q → q < wr.heap.size := fun q hq => (La.mine_lt q hq).2
      go_wp2_with (first
        | (go_at_call 27; with_reducible refine (one_append _ _ _ _ _ _ _ La1 _ (by simp) _ _ (by rw [mkE_len]; have := HL.out; omega) (by rw [tmOf_end, HLA.out]; omega) (by rw [mkE_len]; have := HL.out; omega)).mono ?_; rintro e w4 ⟨rfl, va', La4, hT4⟩
           have hx4 := Lb1.turn hAs.symm hT4
           have hT4' := hT4.new
           have Lb4 := hx4.1
           have B4 : Below w.heap.size w w4 := below_frm hB hT4'.frm (Nat.le_refl _) fun k hk => (La.mine_lt k hk).1
           have e0 := hT4.new_cell hm1 0
           have e1 := hT4.new_cell hm1 1
           have e2 := hT4.new_cell hm1 2
           have e3 := hT4.new_cell hm1 3
           have e4 := hT4.new_cell hm1 4
           simp at e0 e1 e2 e3 e4)
        | (go_at_call 27; with_reducible refine (one_append _ _ _ _ _ _ _ Lb4 _ (by simp) _ _ (by rw [mkE_len]; have := HL.out; omega) (by rw [tmOf_end, HLA.out]; omega) (by rw [mkE_len]; have := HL.out; omega)).mono ?_; rintro e w5 ⟨rfl, vb', Lb5, hT5⟩
           have hx5 := La4.turn hx4.2.symm hT5
           have B5 : Below w.heap.size w w5 := below_frm B4 hT5.frm (Nat.le_refl _) fun k hk => (Lb4.mine_lt k hk).1))
      go_roundw
      case rel =>
        refine ⟨k + 1, ss ++ [T + y], T + y, va', vb', by omega, by go_num, rfl, by rw [List.length_append, HL.out]; rfl, tmOf_snoc _ _ _, by omega, by omega, HUP.out.snoc _ (by rw [HLA.out]; omega), ?_, ?_, B5, hx5.2⟩
        · rw [mkE_snoc]; exact hx5.1
        · rw [mkE_snoc]; exact Lb5
      case measure => simp [intOf]; omega
    · obtain rfl : k = n0 := by omega
      clear hlt hk R0
      go_wp2
      go_loopw [8, 14, 16] (fun u8 u14 u16 wr => ∃ (k1 : Nat) (as_ : List Int) (U : Int) (va vb : Value), k1 ≤ n1 ∧ u16 = .int .i64 k1 ∧ u14 = .int .i64 U ∧ as_.length = k1 ∧ tmOf 0 (ss ++ as_) (ss ++ as_).length ≤ U ∧ (∃ q : Nat, U = T + 1 + 2 * q ∧ q ≤ k1) ∧ (∀ a ∈ as_, ∃ q : Nat, a = T + 1 + 2 * q) ∧ Up 0 (ss ++ as_) ∧ LogAt wr w.heap.size g1 0 0 (mkE 0 (ss ++ as_)) va ∧ LogAt wr w.heap.size g2 0 0 (mkE 0 ss) vb ∧ Below w.heap.size w wr ∧ Aside g1 va g2 vb) (fun _ _ u16 _ => n1 - (intOf u16).toNat)
      case atStart => exact ⟨0, [], T + 1, va, vb, by omega, rfl, rfl, rfl, by rw [List.append_nil, HLA.out]; omega, ⟨0, by omega, by omega⟩, by simp, by rw [List.append_nil]; exact HUP.out, by rw [List.append_nil]; exact La, Lb, hB, hAs⟩
      case round =>
        clear La Lb hB hAs
        obtain ⟨k1, as_, U, va1, vb1, hk1, rfl, rfl, hlen1, hlast1, ⟨q1, hU, hq1⟩, hpar1, hup1, La, Lb, hB, hAs⟩ := hrel
        have HL1 := Lib.hid hlen1
        have HLA1 := Lib.hid hlast1
        have HUP1 := Lib.hid hup1
        have HP1 := Lib.hid hpar1
        have HU := Lib.hid hU
        have hU0 : 0 ≤ U := by omega
        have hU1 : U ≤ 1000 := by omega
        clear hlen1 hlast1 hup1 hpar1 hU
        by_cases hlt1 : k1 < n1
        · obtain ⟨bk, o, x, y, rfl, hx0, hy, hy0, hy1⟩ := bit_cell hB R1.out (Nat.le_refl _) (k := k1) (by have := E1.out; omega)
          have hm1 : ∀ q, mine g1 va1 q → q < wr.heap.size := fun q hq => (La.mine_lt q hq).2
          go_wp2_with (go_at_call 27; with_reducible refine (one_append _ _ _ _ _ _ _ La _ rfl _ _ (by rw [mkE_len, List.length_append]; have := HL.out; have := HL1.out; omega) (by rw [tmOf_end]; have := HLA1.out; omega) (by rw [mkE_len, List.length_append]; have := HL.out; have := HL1.out; omega)).mono ?_; rintro e w4 ⟨rfl, va', La4, hT4⟩)
          have hx4 := Lb.turn hAs.symm hT4
          have B4 : Below w.heap.size w w4 := below_frm hB hT4.frm (Nat.le_refl _) fun k hk => (La.mine_lt k hk).1
          go_roundw
          case rel =>
            refine ⟨k1 + 1, as_ ++ [U + 2 * y], U + 2 * y, va', vb1, by omega, by go_num, rfl, by rw [List.length_append, HL1.out]; rfl, by rw [← List.append_assoc, tmOf_snoc]; omega, ?_, ?_, ?_, ?_, hx4.1, B4, hx4.2.symm⟩
            · have := HU.out
              rcases (show y = 0 ∨ y = 1 by omega) with rfl | rfl
              · exact ⟨q1, by omega, by omega⟩
              · exact ⟨q1 + 1, by omega, by omega⟩
            · intro a ha
              rcases List.mem_append.1 ha with h | h
              · exact HP1.out a h
              · have := HU.out
                simp at h
                rcases (show y = 0 ∨ y = 1 by omega) with rfl | rfl
                · exact ⟨q1, by omega⟩
                · exact ⟨q1 + 1, by omega⟩
            · rw [← List.append_assoc]; exact HUP1.out.snoc _ (by have := HLA1.out; omega)
            · rw [← List.append_assoc, mkE_snoc]; exact La4
          case measure => simp [intOf]; omega
        · obtain rfl : k1 = n1 := by omega
          clear hlt1 hk1 R1
          go_wp2
          go_loopw [8, 15, 17] (fun u8 u15 u17 wr => ∃ (k2 : Nat) (bs_ : List Int) (V : Int) (va vb : Value), k2 ≤ n2 ∧ u17 = .int .i64 k2 ∧ u15 = .int .i64 V ∧ bs_.length = k2 ∧ tmOf 0 (ss ++ bs_) (ss ++ bs_).length ≤ V ∧ (∃ q : Nat, V = T + 2 + 2 * q ∧ q ≤ k2) ∧ (∀ a ∈ bs_, ∃ q : Nat, a = T + 2 + 2 * q) ∧ LogAt wr w.heap.size g1 0 0 (mkE 0 (ss ++ as_)) va ∧ LogAt wr w.heap.size g2 0 0 (mkE 0 (ss ++ bs_)) vb ∧ Below w.heap.size w wr ∧ Aside g1 va g2 vb) (fun _ _ u17 _ => n2 - (intOf u17).toNat)
          case atStart => exact ⟨0, [], T + 2, va1, vb1, by omega, rfl, rfl, rfl, by rw [List.append_nil, HLA.out]; omega, ⟨0, by omega, by omega⟩, by simp, La, by rw [List.append_nil]; exact Lb, hB, hAs⟩
          case round =>
            clear La Lb hB hAs
            obtain ⟨k2, bs_, V, va2, vb2, hk2, rfl, rfl, hlen2, hlast2, ⟨q2, hV, hq2⟩, hpar2, La, Lb, hB, hAs⟩ := hrel
            have HL2 := Lib.hid hlen2
            have HLA2 := Lib.hid hlast2
            have HP2 := Lib.hid hpar2
            have HV := Lib.hid hV
            have hV0 : 0 ≤ V := by omega
            have hV1 : V ≤ 1000 := by omega
            clear hlen2 hlast2 hpar2 hV
            by_cases hlt2 : k2 < n2
            · obtain ⟨bk, o, x, y, rfl, hx0, hy, hy0, hy1⟩ := bit_cell hB R2.out (Nat.le_refl _) (k := k2) (by have := E2.out; omega)
              go_wp2_with (go_at_call 27; with_reducible refine (one_append _ _ _ _ _ _ _ Lb _ rfl _ _ (by rw [mkE_len, List.length_append]; have := HL.out; have := HL2.out; omega) (by rw [tmOf_end]; have := HLA2.out; omega) (by rw [mkE_len, List.length_append]; have := HL.out; have := HL2.out; omega)).mono ?_; rintro e w4 ⟨rfl, vb', Lb4, hT4⟩)
              have hx4 := La.turn hAs hT4
              have B4 : Below w.heap.size w w4 := below_frm hB hT4.frm (Nat.le_refl _) fun k hk => (Lb.mine_lt k hk).1
              go_roundw
              case rel =>
                refine ⟨k2 + 1, bs_ ++ [V + 2 * y], V + 2 * y, va2, vb', by omega, by go_num, rfl, by rw [List.length_append, HL2.out]; rfl, by rw [← List.append_assoc, tmOf_snoc]; omega, ?_, ?_, hx4.1, ?_, B4, hx4.2⟩
                · have := HV.out
                  rcases (show y = 0 ∨ y = 1 by omega) with rfl | rfl
                  · exact ⟨q2, by omega, by omega⟩
                  · exact ⟨q2 + 1, by omega, by omega⟩
                · intro a ha
                  rcases List.mem_append.1 ha with h | h
                  · exact HP2.out a h
                  · have := HV.out
                    simp at h
                    rcases (show y = 0 ∨ y = 1 by omega) with rfl | rfl
                    · exact ⟨q2, by omega⟩
                    · exact ⟨q2 + 1, by omega⟩
                · rw [← List.append_assoc, mkE_snoc]; exact Lb4
              case measure => simp [intOf]; omega
            · obtain rfl : k2 = n2 := by omega
              clear hlt2 hk2 R2 hq1 hq2 hU0 hU1 hV0 hV1 hT0 hTk HLA1 HLA2 HLA HUP HU HV
              have HD : Hid (∀ (i j : Nat) (a b : Int), as_[i]? = some a → bs_[j]? = some b → a ≠ b) := fun i j a b ha hb => by
                obtain ⟨p, hp⟩ := HP1.out a (List.mem_of_getElem? ha)
                obtain ⟨q, hq⟩ := HP2.out b (List.mem_of_getElem? hb)
                omega
              obtain ⟨xs, hxs⟩ : ∃ xs, xs = ss ++ as_ := ⟨_, rfl⟩
              have HXS := Lib.hid hxs
              have hxl : xs.length = k + k1 := by rw [hxs, List.length_append, HL.out, HL1.out]
              have HXL := Lib.hid hxl
              have hyl : (ss ++ bs_).length = k + k2 := by rw [List.length_append, HL.out, HL2.out]
              have HYL := Lib.hid hyl
              have HUX : Hid (Up 0 xs) := by rw [hxs]; exact HUP1.out
              rw [← hxs] at La
              clear hxs hxl hyl HP1 HP2 HUP1 HL HL1 HL2
              have hTwo : Two w wr g1 g2 xs (ss ++ bs_) va2 vb2 := ⟨La, Lb, hB, hAs⟩
              clear La Lb hB hAs
              have hk80 : k + k1 ≤ 80 := by omega
              have HXI : Hid ((xs.length : Int) = (k : Int) + k1) := by have := HXL.out; unfold Hid; omega
              go_wp2_with (go_at_call 21; refine (hTwo.last1 _ HXI.out).mono ?_; rintro e w5 ⟨rfl, q5⟩)
              go_loopw [8, 18, 19] (fun u8 u18 u19 wr => ∃ (p st : Nat) (ys : List Int) (vb : Value), u18 = .int .i64 p ∧ u19 = .int .i64 st ∧ p ≤ k + k1 ∧ (ys = ss ++ bs_ ∧ st + p ≤ k + k1 ∨ St xs ss bs_ ys p ∧ st ≤ k + k1 + p) ∧ Two w wr g1 g2 xs ys va2 vb) (fun _ _ u19 _ => 400 - (intOf u19).toNat)
              case atStart => exact ⟨k + k1, 0, ss ++ bs_, vb2, by go_num, rfl, by omega, .inl ⟨rfl, by omega⟩, hTwo.qt q5⟩
              case round =>
                clear hTwo
                obtain ⟨p, st, ys, vb, rfl, rfl, hp, hcase, hTwo⟩ := hrel
                have hyl : ys.length ≤ 80 := by
                  rcases hcase with ⟨rfl, _⟩ | ⟨h, _⟩
                  · have := HYL.out; omega
                  · have := h.len_le; have := HYL.out; have := HXL.out; omega
                have hst : st ≤ 160 := by omega
                obtain ⟨t, ht⟩ : ∃ t, tmOf 0 xs p = t := ⟨_, rfl⟩
                obtain ⟨n, hn⟩ : ∃ n, ((xs.drop p).take bt.toNat).length = n := ⟨_, rfl⟩
                have hpn : p + n ≤ k + k1 := by rw [List.length_take, List.length_drop, HXL.out] at hn; omega
                have hn1 : p < k + k1 → 1 ≤ n := fun h => by rw [List.length_take, List.length_drop, HXL.out] at hn; omega
                have HTm := Lib.hid ht
                have HNn := Lib.hid hn
                clear ht hn
                by_cases hok : p ≤ ys.length ∧ tmOf 0 ys p = t
                · have hSt : St xs ss bs_ ys p := by
                    rcases hcase with ⟨rfl, _⟩ | ⟨h, _⟩
                    · exact St.begin HXS.out HD.out (by have := HXL.out; omega) hok.1 (by rw [hok.2, HTm.out])
                    · exact h
                  have hst2 : st ≤ k + k1 + p := by rcases hcase with ⟨_, h⟩ | ⟨_, h⟩ <;> omega
                  have HOK := Lib.hid hok
                  have HST := Lib.hid hSt
                  have HN1 := Lib.hid hn1
                  have h200 : decide ((200 : Int) < (st : Int)) = false := decide_eq_false (by omega)
                  clear hcase hok hSt hn1
                  go_wp2_with fail
                  refine (hTwo.term1 p (by have := HXL.out; omega) t HTm.out).mono ?_; rintro e w6 ⟨rfl, q6⟩
                  have T6 := hTwo.qt q6
                  go_wp2_with fail
                  refine (T6.slice p (by have := HXL.out; omega) bt n HNn.out (by have := HXL.out; omega)).mono ?_; rintro e w7 ⟨A7, c7, rfl, hc7, hO7, b7⟩
                  have T7 := T6.below b7
                  go_wp2_with fail
                  refine (T7.join HUX.out HXS.out HD.out p n HST.out (by have := HXL.out; omega) (by have := HXL.out; omega) hyl A7 c7 _ hc7 hO7 t HTm.out).mono ?_
                  rintro e w8 ⟨q, m, cc, cut, C, rfl, hO8, hF8, b8, hTD⟩
                  have T8 := T7.below b8
                  have HO8 := Lib.hid hO8
                  have HF8 := Lib.hid hF8
                  clear hO8 hF8 hO7
                  unfold ToDo at hTD
                  have hmore : (∃ (ys2 : List Int), m = 0 ∧ cut = 0 ∧ ys2 = ys ∧ St xs ss bs_ ys2 (p + n)) ∨ (1 ≤ m ∧ q + m ≤ xs.length ∧ cut = 0 ∧ ys.length = q ∧ ys = xs.take q ∧ St xs ss bs_ (ys ++ (xs.drop q).take m) (p + n)) ∨ (1 ≤ m ∧ q + m ≤ xs.length ∧ cut = (q : Int) + 1 ∧ 0 < cut ∧ q < ys.length ∧ (ys.take q).length = q ∧ ys.take q = xs.take q ∧ St xs ss bs_ (ys.take q ++ (xs.drop q).take m) (p + n)) := by
                    rcases hTD with ⟨a, b, c⟩ | ⟨a, b, ys', c, d, f, ⟨g, rfl⟩ | ⟨g, h, i, rfl⟩⟩
                    · exact .inl ⟨ys, a, b, rfl, c⟩
                    · exact .inr (.inl ⟨a, b, g, c, d, f⟩)
                    · exact .inr (.inr ⟨a, b, g, h, i, c, d, f⟩)
                  clear hTD
                  rcases hmore with ⟨ys2, rfl, rfl, rfl, hst9⟩ | ⟨m1, m2, rfl, m3, m4, hst9⟩ | ⟨m1, m2, m3, m4, m5, m6, m7, hst9⟩
                  · have H9 := Lib.hid hst9
                    clear hst9
                    go_wp2_with fail
                    refine (T8.app0 _ _).mono ?_; rintro e w9 ⟨rfl, q9⟩
                    have T9 := T8.qt q9
                    by_cases hend : k + k1 ≤ p + n
                    · have hge : decide ((k : Int) + (k1 : Int) ≤ (p : Int) + (n : Int)) = true := decide_eq_true (by omega)
                      have HE9 : Hid (St xs ss bs_ (ys2) xs.length) := by
                        have h := H9.out
                        unfold Hid
                        rwa [show p + n = xs.length by have := HXL.out; omega] at h
                      go_wp2_with fail
                      refine (T9.last1 _ HXI.out).mono ?_; rintro e w11 ⟨rfl, q11⟩
                      have T11 := T9.qt q11
                      go_wp2_with fail
                      go_loopw [8, 26] (fun u8 u26 wr => ∃ j : Nat, u26 = .int .i64 (j + 1) ∧ j ≤ k + k1 ∧ Two w wr g1 g2 xs (ys2) va2 vb) (fun _ u26 _ => 200 - (intOf u26).toNat)
                      case atStart => exact ⟨0, rfl, by omega, T11⟩
                      case round =>
                        obtain ⟨j, rfl, hj, hT⟩ := hrel
                        by_cases hjl : j < k + k1
                        · obtain ⟨y1, y2⟩ := St.ends HXS.out HE9.out (j + 1) (by have := HXL.out; omega)
                          obtain ⟨t2, ht2⟩ : ∃ t2, tmOf 0 xs (j + 1) = t2 := ⟨_, rfl⟩
                          rw [ht2] at y2
                          have HT2 := Lib.hid ht2
                          have HY2 := Lib.hid y2
                          have HY1 := Lib.hid y1
                          clear ht2 y2 y1
                          go_wp2_with fail
                          refine (hT.last1 _ HXI.out).mono ?_; rintro e v1 ⟨rfl, p1⟩
                          have S1 := hT.qt p1
                          go_wp2_with fail
                          refine (S1.term1' (j + 1) _ (by omega) (by have := HXL.out; omega) t2 HT2.out).mono ?_; rintro e v2 ⟨rfl, p2⟩
                          have S2 := S1.qt p2
                          go_wp2_with fail
                          refine (S2.term2' (j + 1) _ (by omega) HY1.out t2 HY2.out).mono ?_; rintro e v3 ⟨rfl, p3⟩
                          have S3 := S2.qt p3
                          go_wp2_with fail
                          go_roundw
                          case rel => exact ⟨j + 1, by go_num, by omega, S3⟩
                          case measure => simp [intOf]; omega
                        · go_wp2_with fail
                          refine (hT.last1 _ HXI.out).mono ?_; rintro e v1 ⟨rfl, p1⟩
                          have S1 := hT.qt p1
                          go_wp2_with fail
                          go_ret
                          first
                            | exact ⟨rfl, S1.B⟩
                            | exact ⟨ret_bool (decide_eq_true (by omega)), S1.B⟩
                    · go_wp2_with fail
                      refine (T9.last1 _ HXI.out).mono ?_; rintro e w11 ⟨rfl, q11⟩
                      have T11 := T9.qt q11
                      have hn1 := HN1.out (by omega)
                      go_wp2_with fail
                      go_roundw
                      case rel => exact ⟨p + n, st + 1, ys2, vb, by go_num, by go_num, by omega, .inr ⟨H9.out, by omega⟩, T11⟩
                      case measure => simp [intOf]; omega
                  · have H9 := Lib.hid hst9
                    have HM3 := Lib.hid m3
                    have HM4 := Lib.hid m4
                    clear hst9 m3 m4
                    go_wp2_with fail
                    refine (T8.app HUX.out q m HM4.out HM3.out m2 m1 (by have := HXL.out; omega) C cc _ HO8.out HF8.out).mono ?_; rintro e w9 ⟨rfl, vb9, T9⟩
                    by_cases hend : k + k1 ≤ p + n
                    · have hge : decide ((k : Int) + (k1 : Int) ≤ (p : Int) + (n : Int)) = true := decide_eq_true (by omega)
                      have HE9 : Hid (St xs ss bs_ (ys ++ (xs.drop q).take m) xs.length) := by
                        have h := H9.out
                        unfold Hid
                        rwa [show p + n = xs.length by have := HXL.out; omega] at h
                      go_wp2_with fail
                      refine (T9.last1 _ HXI.out).mono ?_; rintro e w11 ⟨rfl, q11⟩
                      have T11 := T9.qt q11
                      go_wp2_with fail
                      go_loopw [8, 26] (fun u8 u26 wr => ∃ j : Nat, u26 = .int .i64 (j + 1) ∧ j ≤ k + k1 ∧ Two w wr g1 g2 xs (ys ++ (xs.drop q).take m) va2 vb9) (fun _ u26 _ => 200 - (intOf u26).toNat)
                      case atStart => exact ⟨0, rfl, by omega, T11⟩
                      case round =>
                        obtain ⟨j, rfl, hj, hT⟩ := hrel
                        by_cases hjl : j < k + k1
                        · obtain ⟨y1, y2⟩ := St.ends HXS.out HE9.out (j + 1) (by have := HXL.out; omega)
                          obtain ⟨t2, ht2⟩ : ∃ t2, tmOf 0 xs (j + 1) = t2 := ⟨_, rfl⟩
                          rw [ht2] at y2
                          have HT2 := Lib.hid ht2
                          have HY2 := Lib.hid y2
                          have HY1 := Lib.hid y1
                          clear ht2 y2 y1
                          go_wp2_with fail
                          refine (hT.last1 _ HXI.out).mono ?_; rintro e v1 ⟨rfl, p1⟩
                          have S1 := hT.qt p1
                          go_wp2_with fail
                          refine (S1.term1' (j + 1) _ (by omega) (by have := HXL.out; omega) t2 HT2.out).mono ?_; rintro e v2 ⟨rfl, p2⟩
                          have S2 := S1.qt p2
                          go_wp2_with fail
                          refine (S2.term2' (j + 1) _ (by omega) HY1.out t2 HY2.out).mono ?_; rintro e v3 ⟨rfl, p3⟩
                          have S3 := S2.qt p3
                          go_wp2_with fail
                          go_roundw
                          case rel => exact ⟨j + 1, by go_num, by omega, S3⟩
                          case measure => simp [intOf]; omega
                        · go_wp2_with fail
                          refine (hT.last1 _ HXI.out).mono ?_; rintro e v1 ⟨rfl, p1⟩
                          have S1 := hT.qt p1
                          go_wp2_with fail
                          go_ret
                          first
                            | exact ⟨rfl, S1.B⟩
                            | exact ⟨ret_bool (decide_eq_true (by omega)), S1.B⟩
                    · go_wp2_with fail
                      refine (T9.last1 _ HXI.out).mono ?_; rintro e w11 ⟨rfl, q11⟩
                      have T11 := T9.qt q11
                      have hn1 := HN1.out (by omega)
                      go_wp2_with fail
                      go_roundw
                      case rel => exact ⟨p + n, st + 1, ys ++ (xs.drop q).take m, vb9, by go_num, by go_num, by omega, .inr ⟨H9.out, by omega⟩, T11⟩
                      case measure => simp [intOf]; omega
                  · have H9 := Lib.hid hst9
                    have HM6 := Lib.hid m6
                    have HM7 := Lib.hid m7
                    have HM3 := Lib.hid m3
                    clear hst9 m6 m7 m3
                    go_wp2_with fail
                    refine (T8.cut q m5 hyl cut HM3.out).mono ?_; rintro e wc ⟨⟨nc, rfl⟩, vbc, Tc, hTc⟩
                    obtain ⟨HOc, HFc⟩ := off_turn HO8.out HF8.out hTc
                    have HOC := Lib.hid HOc
                    have HFC := Lib.hid HFc
                    clear HOc HFc
                    go_wp2_with fail
                    refine (Tc.app HUX.out q m HM7.out HM6.out m2 m1 (by have := HXL.out; omega) C cc _ HOC.out HFC.out).mono ?_; rintro e w9 ⟨rfl, vb9, T9⟩
                    by_cases hend : k + k1 ≤ p + n
                    · have hge : decide ((k : Int) + (k1 : Int) ≤ (p : Int) + (n : Int)) = true := decide_eq_true (by omega)
                      have HE9 : Hid (St xs ss bs_ (ys.take q ++ (xs.drop q).take m) xs.length) := by
                        have h := H9.out
                        unfold Hid
                        rwa [show p + n = xs.length by have := HXL.out; omega] at h
                      go_wp2_with fail
                      refine (T9.last1 _ HXI.out).mono ?_; rintro e w11 ⟨rfl, q11⟩
                      have T11 := T9.qt q11
                      go_wp2_with fail
                      go_loopw [8, 26] (fun u8 u26 wr => ∃ j : Nat, u26 = .int .i64 (j + 1) ∧ j ≤ k + k1 ∧ Two w wr g1 g2 xs (ys.take q ++ (xs.drop q).take m) va2 vb9) (fun _ u26 _ => 200 - (intOf u26).toNat)
                      case atStart => exact ⟨0, rfl, by omega, T11⟩
                      case round =>
                        obtain ⟨j, rfl, hj, hT⟩ := hrel
                        by_cases hjl : j < k + k1
                        · obtain ⟨y1, y2⟩ := St.ends HXS.out HE9.out (j + 1) (by have := HXL.out; omega)
                          obtain ⟨t2, ht2⟩ : ∃ t2, tmOf 0 xs (j + 1) = t2 := ⟨_, rfl⟩
                          rw [ht2] at y2
                          have HT2 := Lib.hid ht2
                          have HY2 := Lib.hid y2
                          have HY1 := Lib.hid y1
                          clear ht2 y2 y1
                          go_wp2_with fail
                          refine (hT.last1 _ HXI.out).mono ?_; rintro e v1 ⟨rfl, p1⟩
                          have S1 := hT.qt p1
                          go_wp2_with fail
                          refine (S1.term1' (j + 1) _ (by omega) (by have := HXL.out; omega) t2 HT2.out).mono ?_; rintro e v2 ⟨rfl, p2⟩
                          have S2 := S1.qt p2
                          go_wp2_with fail
                          refine (S2.term2' (j + 1) _ (by omega) HY1.out t2 HY2.out).mono ?_; rintro e v3 ⟨rfl, p3⟩
                          have S3 := S2.qt p3
                          go_wp2_with fail
                          go_roundw
                          case rel => exact ⟨j + 1, by go_num, by omega, S3⟩
                          case measure => simp [intOf]; omega
                        · go_wp2_with fail
                          refine (hT.last1 _ HXI.out).mono ?_; rintro e v1 ⟨rfl, p1⟩
                          have S1 := hT.qt p1
                          go_wp2_with fail
                          go_ret
                          first
                            | exact ⟨rfl, S1.B⟩
                            | exact ⟨ret_bool (decide_eq_true (by omega)), S1.B⟩
                    · go_wp2_with fail
                      refine (T9.last1 _ HXI.out).mono ?_; rintro e w11 ⟨rfl, q11⟩
                      have T11 := T9.qt q11
                      have hn1 := HN1.out (by omega)
                      go_wp2_with fail
                      go_roundw
                      case rel => exact ⟨p + n, st + 1, ys.take q ++ (xs.drop q).take m, vb9, by go_num, by go_num, by omega, .inr ⟨H9.out, by omega⟩, T11⟩
                      case measure => simp [intOf]; omega
                · have hno : ys = ss ++ bs_ ∧ st + p ≤ k + k1 := by
                    rcases hcase with h | ⟨h, _⟩
                    · exact h
                    · exact absurd ⟨(h.ok HXS.out).1, by rw [(h.ok HXS.out).2, HTm.out]⟩ hok
                  have hp1 : 1 ≤ p := by
                    rcases Nat.eq_zero_or_pos p with h0 | h0
                    · subst h0; exact absurd ⟨Nat.zero_le _, by rw [← HTm.out]; rfl⟩ hok
                    · exact h0
                  obtain ⟨hys, hsp⟩ := hno
                  have HYS := Lib.hid hys
                  have HOK := Lib.hid hok
                  clear hcase hok hys hn1
                  go_wp2_with fail
                  refine (hTwo.term1 p (by have := HXL.out; omega) t HTm.out).mono ?_; rintro e w6 ⟨rfl, q6⟩
                  have T6 := hTwo.qt q6
                  go_wp2_with fail
                  refine (T6.slice p (by have := HXL.out; omega) bt n HNn.out (by have := HXL.out; omega)).mono ?_; rintro e w7 ⟨A7, c7, rfl, hc7, hO7, b7⟩
                  have T7 := T6.below b7
                  go_wp2_with fail
                  refine (T7.no p t _ HOK.out).mono ?_; rintro e w8 ⟨rfl, q8⟩
                  have T8 := T7.qt q8
                  go_wp2_with fail
                  refine (T8.last2).mono ?_; rintro e w9 ⟨rfl, q9⟩
                  have T9 := T8.qt q9
                  go_wp2_with fail
                  all_goals
                    first
                      | with_reducible refine (T9.back p hp1 ((p : Int) - 1) t (by omega)).mono ?_
                      | with_reducible refine (T9.back p hp1 (ys.length : Int) t (by omega)).mono ?_
                    rintro e w10 ⟨⟨q, rfl, hq⟩, q10⟩
                    have T10 := T9.qt q10
                    go_wp2_with fail
                    go_roundw
                    case rel => exact ⟨q, st + 1, ys, vb, rfl, by go_num, by omega, .inl ⟨HYS.out, by omega⟩, T10⟩
                    case measure => simp [intOf]; omega
end Go.Proofs.Ytcmjijlegmdebaa
