/-
  What Ready of waiting reads gives over the law's closure. Condition: no more than a thousand of them.
-/
import Derived.Test.YtlhmccinmhikkaaReadsW
namespace Go.Proofs.Ytlhmccinmhikkaa
open Go Go.RowKit
attribute [local go_sem] cell_set_if

/-- May it be answered? -/
def mayR (a b : Int) (x : R3) : Bool := decide (x.com ≤ a) && decide (x.rnd ≤ b)
theorem outR_take (p : R3 → Bool) (L : List R3) (k : Nat) (x : R3) (h : L[k]? = some x) : outR p (L.take (k + 1)) = if p x = true then outR p (L.take k) ++ [x.id] else outR p (L.take k) := by
  unfold outR; rw [List.take_add_one, h, List.filter_append, List.map_append]
  cases hp : p x <;> simp [hp]
theorem leftR_take (p : R3 → Bool) (L : List R3) (k : Nat) (x : R3) (h : L[k]? = some x) : leftR p (L.take (k + 1)) = if p x = true then leftR p (L.take k) else leftR p (L.take k) ++ [x] := by
  unfold leftR; rw [List.take_add_one, h, List.filter_append]
  cases hp : p x <;> simp [hp]
theorem rclosure_not_nil (cs : Array Value) (w' : World) : Sem.run Try.prog (Go.binOp .eql 51 (Value.func (Fn.func 8) #[] cs) Value.nilFunc) w' = Result.ok (Value.bool false) w' := by kernel_rfl
theorem rclosure_neq (cs : Array Value) (w' : World) : Sem.run Try.prog (Go.binOp .neq 51 (Value.func (Fn.func 8) #[] cs) Value.nilFunc) w' = Result.ok (Value.bool true) w' := by kernel_rfl
theorem rclos_any (i b : Int) (gk : Nat) (w : World) (hk : w.cell? ⟨gk, 2, none⟩ = some (.int .i64 b)) :
    Calls Try.prog 8 #[.int .i64 i, .pointer (some ⟨gk, 0, none⟩)] w fun e w' => e = .returned (.bool (decide (i ≤ b))) ∧ w' = w := by
  go_enter Try.func8, Try.ntmps8
  go_wp2
  go_ret
  exact ⟨rfl, rfl⟩
set_option maxRecDepth 100000 in
set_option maxHeartbeats 2000000 in
theorem rready_any (base g : Nat) (L : List R3) (v : Value) (a b : Int) (gk : Nat) (w : World) (h : ReadsAt base w g L v) (hm : L.length ≤ 1000) (hb0 : base ≤ w.heap.size) (hk : w.cell? ⟨gk, 2, none⟩ = some (.int .i64 b)) :
    Calls Try.prog 7 #[.pointer (some ⟨g, 0, none⟩), .int .i64 a, .func (.func 8) #[] #[.pointer (some ⟨gk, 0, none⟩)]] w fun e w' => MadeZ w.heap.size e w' (outR (mayR a b) L) ∧ (∃ v', ReadsAt base w' g (leftR (mayR a b) L) v' ∧ ∀ k, v'.ownBlock = some k → w.heap.size ≤ k) ∧ Frm (fun k => k = g) w w' := by
  obtain ⟨i0, hi0, hz0, hz1, hz2⟩ := info_parts zinfo
  obtain ⟨j0, hj0, hy0, hy1, hy2⟩ := info_parts rinfo
  obtain ⟨A1, c1, hv1, hc1⟩ := own_form h.r
  have H := Lib.hid h
  have HV := Lib.hid hv1
  obtain ⟨n, hn⟩ : ∃ n, n = L.length := ⟨_, rfl⟩
  have HN := Lib.hid hn
  have R1 : w.ownsRow base 96 3 (.slice A1 n c1) n (flatR L) := by have := h.r; rw [hv1] at this; rw [hn]; exact this
  have HR := Lib.hid (Rd.of_own R1)
  have c0 : w.cell? ⟨g, 0, none⟩ = some (.slice A1 n c1) := by rw [h.B.cell 0, hv1, hn]; rfl
  have hm2 : n ≤ 1000 := by omega
  obtain ⟨p, hp⟩ : ∃ p, p = mayR a b := ⟨_, rfl⟩
  have HP := Lib.hid hp
  rw [← hp]
  clear h hv1 hn hm R1 hp
  go_enter Try.func7, Try.ntmps7
  go_wp2
  go_loopw [7, 8, 18] (fun u7 u8 u18 wr => ∃ k n7 n8 : Nat, k ≤ n ∧ u18 = .int .i64 k ∧ Hid ((outR p (L.take k)).length = n7) ∧ Hid ((leftR p (L.take k)).length = n8) ∧ n7 ≤ k ∧ n8 ≤ k ∧ wr.ownsRow w.heap.size 3 1 u7 n7 (flatZ (outR p (L.take k))) ∧ wr.ownsRow w.heap.size 96 3 u8 n8 (flatR (leftR p (L.take k))) ∧ Below w.heap.size w wr) (fun _ _ u18 _ => n - (intOf u18).toNat)
  case atStart => exact ⟨0, 0, 0, by omega, rfl, rfl, rfl, Nat.le_refl _, Nat.le_refl _, World.ownsRow_nil _ _ _ _, World.ownsRow_nil _ _ _ _, Below.refl _ _⟩
  case round =>
    obtain ⟨k, n7, n8, hkn, rfl, H7, H8, h7k, h8k, hO, hU, hB⟩ := hrel
    by_cases hlt : k < n
    · obtain ⟨bb, o, x, rfl, hbb, hx, q0, q1, q2⟩ := HR.out.wait (k := k) (by have := HN.out; omega)
      have d0 := cell_bb hB hbb q0
      have d1 := cell_bb hB hbb q1
      have d2 := cell_bb hB hbb q2
      have hki : (k : Int) < (n : Int) := by omega
      have HTo := Lib.hid (outR_take p L k x hx)
      have HTl := Lib.hid (leftR_take p L k x hx)
      have hpx : p x = (decide (x.com ≤ a) && decide (x.rnd ≤ b)) := by rw [HP.out]; rfl
      have HPX := Lib.hid hpx
      have dk : (wr.alloc (.cells #[.int .i64 x.id, .int .i64 x.com, .int .i64 x.rnd] 96)).cell? ⟨gk, 2, none⟩ = some (.int .i64 b) := cell_b ((Below.refl _ _).alloc (Nat.le_refl _) _) (cell_b (hB.mono (Nat.le_refl _)) hk)
      have RN : Rd ((wr.alloc (.cells #[.int .i64 x.id, .int .i64 x.com, .int .i64 x.rnd] 96)).alloc (.cells #[.int .i64 x.id] 3)) (some ⟨wr.heap.size + 1, 0, none⟩) [.int .i64 x.id] := by
        have := Rd.new (wr.alloc (.cells #[.int .i64 x.id, .int .i64 x.com, .int .i64 x.rnd] 96)) #[.int .i64 x.id] 3
        simpa using this
      have RN3 : Rd ((wr.alloc (.cells #[.int .i64 x.id, .int .i64 x.com, .int .i64 x.rnd] 96)).alloc (.cells #[.int .i64 x.id, .int .i64 x.com, .int .i64 x.rnd] 96)) (some ⟨wr.heap.size + 1, 0, none⟩) [.int .i64 x.id, .int .i64 x.com, .int .i64 x.rnd] := by
        have := Rd.new (wr.alloc (.cells #[.int .i64 x.id, .int .i64 x.com, .int .i64 x.rnd] 96)) #[.int .i64 x.id, .int .i64 x.com, .int .i64 x.rnd] 96
        simpa using this
      by_cases hc : x.com ≤ a
      · by_cases hd : x.rnd ≤ b
        · have HF : Hid (p x = true) := by unfold Hid; rw [HPX.out]; simp; omega
          have HTo2 : Hid (outR p (L.take (k + 1)) = outR p (L.take k) ++ [x.id]) := by unfold Hid; rw [HTo.out, HF.out, if_pos rfl]
          have HTl2 : Hid (leftR p (L.take (k + 1)) = leftR p (L.take k)) := by unfold Hid; rw [HTl.out, HF.out, if_pos rfl]
          clear HTo HTl HPX HF hx hpx q0 q1 q2
          go_wp2_with (first
            | (go_at_call 8; refine (rclos_any x.rnd b gk _ dk).mono ?_; rintro e w4 ⟨rfl, hw4⟩; subst hw4)
            | (unfold Oper.upon; go_simp; rw [rclosure_neq]; go_simp)
            | (at_builtin
               refine wpList_app rfl (.tmp 36) (.tmp 39) 49 rfl w.heap.size 3 i0 _ 1 8 Try.underlying49 hi0 hz0 hz1 hz2 rfl (by omega) u7 n7 _ rfl ((hO.alloc _).alloc _) _ 1 1 [.int .i64 x.id] rfl RN rfl (by simp [Value.oneCell']) (by unfold maxLen; omega) (by omega) (by have := hB.size; simp; omega) ?_
               intro v5 w5 hown5 hg5 hb5 hat5))
          have U5 := own_frm ((hU.alloc (.cells #[.int .i64 x.id, .int .i64 x.com, .int .i64 x.rnd] 96)).alloc (.cells #[.int .i64 x.id] 3)) ((Frm.refl (fun q => u7.ownBlock = some q) _).grown hg5 (fun q hq _ => hq)) (fun q hq hq2 => own_own hO hU (by decide) hq2 hq)
          have B5 := ((hB.alloc hB.size (.cells #[.int .i64 x.id, .int .i64 x.com, .int .i64 x.rnd] 96)).alloc (by have := hB.size; simp; omega) (.cells #[.int .i64 x.id] 3)).trans hb5
          have H7' : Hid ((outR p (L.take (k + 1))).length = n7 + 1) := by unfold Hid; rw [HTo2.out, List.length_append, H7.out]; rfl
          have H8' : Hid ((leftR p (L.take (k + 1))).length = n8) := by unfold Hid; rw [HTl2.out, H8.out]
          go_roundw
          case rel => exact ⟨k + 1, n7 + 1, n8, by omega, by go_num, H7', H8', by omega, by omega, by rw [HTo2.out, flatZ_app]; exact hown5, by rw [HTl2.out]; exact U5, B5⟩
          case measure => simp [intOf]; omega
        · have HF : Hid (p x = false) := by unfold Hid; rw [HPX.out]; simp; omega
          have HTo2 : Hid (outR p (L.take (k + 1)) = outR p (L.take k)) := by unfold Hid; rw [HTo.out, HF.out, if_neg (by simp)]
          have HTl2 : Hid (leftR p (L.take (k + 1)) = leftR p (L.take k) ++ [x]) := by unfold Hid; rw [HTl.out, HF.out, if_neg (by simp)]
          clear HTo HTl HPX HF hx hpx q0 q1 q2
          go_wp2_with (first
            | (go_at_call 8; refine (rclos_any x.rnd b gk _ dk).mono ?_; rintro e w4 ⟨rfl, hw4⟩; subst hw4)
            | (unfold Oper.upon; go_simp; rw [rclosure_neq]; go_simp)
            | (at_builtin
               refine wpList_app rfl (.tmp 41) (.tmp 43) 25 rfl w.heap.size 96 j0 _ 3 24 Try.underlying25 hj0 hy0 hy1 hy2 rfl (by omega) u8 n8 _ rfl ((hU.alloc _).alloc _) _ 1 1 [.int .i64 x.id, .int .i64 x.com, .int .i64 x.rnd] rfl RN3 rfl (by simp [Value.oneCell']) (by unfold maxLen; omega) (by omega) (by have := hB.size; simp; omega) ?_
               intro v5 w5 hown5 hg5 hb5 hat5))
          have U5 := own_frm ((hO.alloc (.cells #[.int .i64 x.id, .int .i64 x.com, .int .i64 x.rnd] 96)).alloc (.cells #[.int .i64 x.id, .int .i64 x.com, .int .i64 x.rnd] 96)) ((Frm.refl (fun q => u8.ownBlock = some q) _).grown hg5 (fun q hq _ => hq)) (fun q hq hq2 => own_own hO hU (by decide) hq hq2)
          have B5 := ((hB.alloc hB.size (.cells #[.int .i64 x.id, .int .i64 x.com, .int .i64 x.rnd] 96)).alloc (by have := hB.size; simp; omega) (.cells #[.int .i64 x.id, .int .i64 x.com, .int .i64 x.rnd] 96)).trans hb5
          have H8' : Hid ((leftR p (L.take (k + 1))).length = n8 + 1) := by unfold Hid; rw [HTl2.out, List.length_append, H8.out]; rfl
          have H7' : Hid ((outR p (L.take (k + 1))).length = n7) := by unfold Hid; rw [HTo2.out, H7.out]
          go_roundw
          case rel => exact ⟨k + 1, n7, n8 + 1, by omega, by go_num, H7', H8', by omega, by omega, by rw [HTo2.out]; exact U5, by rw [HTl2.out, flatR_app]; exact hown5, B5⟩
          case measure => simp [intOf]; omega
      · have HF : Hid (p x = false) := by unfold Hid; rw [HPX.out]; simp; omega
        have HTo2 : Hid (outR p (L.take (k + 1)) = outR p (L.take k)) := by unfold Hid; rw [HTo.out, HF.out, if_neg (by simp)]
        have HTl2 : Hid (leftR p (L.take (k + 1)) = leftR p (L.take k) ++ [x]) := by unfold Hid; rw [HTl.out, HF.out, if_neg (by simp)]
        clear HTo HTl HPX HF hx hpx q0 q1 q2
        go_wp2_with (first
          | (at_builtin
             refine wpList_app rfl (.tmp 41) (.tmp 43) 25 rfl w.heap.size 96 j0 _ 3 24 Try.underlying25 hj0 hy0 hy1 hy2 rfl (by omega) u8 n8 _ rfl ((hU.alloc _).alloc _) _ 1 1 [.int .i64 x.id, .int .i64 x.com, .int .i64 x.rnd] rfl RN3 rfl (by simp [Value.oneCell']) (by unfold maxLen; omega) (by omega) (by have := hB.size; simp; omega) ?_
             intro v5 w5 hown5 hg5 hb5 hat5))
        have U5 := own_frm ((hO.alloc (.cells #[.int .i64 x.id, .int .i64 x.com, .int .i64 x.rnd] 96)).alloc (.cells #[.int .i64 x.id, .int .i64 x.com, .int .i64 x.rnd] 96)) ((Frm.refl (fun q => u8.ownBlock = some q) _).grown hg5 (fun q hq _ => hq)) (fun q hq hq2 => own_own hO hU (by decide) hq hq2)
        have B5 := ((hB.alloc hB.size (.cells #[.int .i64 x.id, .int .i64 x.com, .int .i64 x.rnd] 96)).alloc (by have := hB.size; simp; omega) (.cells #[.int .i64 x.id, .int .i64 x.com, .int .i64 x.rnd] 96)).trans hb5
        have H8' : Hid ((leftR p (L.take (k + 1))).length = n8 + 1) := by unfold Hid; rw [HTl2.out, List.length_append, H8.out]; rfl
        have H7' : Hid ((outR p (L.take (k + 1))).length = n7) := by unfold Hid; rw [HTo2.out, H7.out]
        go_roundw
        case rel => exact ⟨k + 1, n7, n8 + 1, by omega, by go_num, H7', H8', by omega, by omega, by rw [HTo2.out]; exact U5, by rw [HTl2.out, flatR_app]; exact hown5, B5⟩
        case measure => simp [intOf]; omega
    · obtain rfl : n = k := by omega
      obtain ⟨A3, c3, rfl, hc3⟩ := own_form hO
      obtain ⟨A4, c4, rfl, hc4⟩ := own_form hU
      have G := H.out.B.below (below_of hB (Below.refl _ _) (Nat.le_refl _))
      have g0 : wr.cell? ⟨g, 0, none⟩ = some v := G.cell 0
      have f0 := G.free 0
      have HT : Hid (L.take n = L) := by unfold Hid; rw [List.take_of_length_le (by have := HN.out; omega)]
      rw [HT.out] at hO hU H7 H8
      have HO := Lib.hid hO
      have HU := Lib.hid hU
      clear hO hU
      go_wp2
      go_ret
      have F4 : Frm (fun k => k = g) wr (wr.setCell ⟨g, 0, none⟩ (.slice A4 n8 c4)) := (Frm.refl (fun k => k = g) wr).setCell (p := ⟨g, 0, none⟩) (fun _ => rfl) (.slice A4 n8 c4)
      have hlt2 := H.out.B.lt
      refine ⟨⟨A3, n7, c3, H7.out, rfl, own_frm HO.out F4 (fun q hq e => ?_)⟩, ⟨_, ⟨H.out.lo, G.set_ 0 (.slice A4 n8 c4), ?_⟩, fun q hq => (HU.out.lt q hq).1⟩, (Frm.of_below (S := fun k => k = g) hB).setCell (p := ⟨g, 0, none⟩) (fun _ => rfl) (.slice A4 n8 c4)⟩
      · have h1 := (HO.out.lt q hq).1; omega
      · rw [H8.out]
        exact own_base (own_frm HU.out F4 (fun q hq e => by have h1 := (HU.out.lt q hq).1; omega)) hb0
end Go.Proofs.Ytlhmccinmhikkaa
