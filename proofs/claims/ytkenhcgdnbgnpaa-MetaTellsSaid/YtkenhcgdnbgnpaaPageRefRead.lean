/-
  What the document's ReadPage gives for every bytes. Condition: bytes no longer than memory holds.
-/
import Derived.Test.YtkenhcgdnbgnpaaPageRef
namespace Go.Proofs.Ytkenhcgdnbgnpaa
open Go Go.RowKit
attribute [local go_sem] cell_set_if

theorem refread_len (b : ByteArray) (w : World) (hs : b.size ≠ 256) (hz : b.size ≤ 9223372036854775807) :
    Calls Try.prog 26 #[.string b] w fun e w' => e = .returned (.tuple #[noPage, .int .i64 5]) ∧ Below w.heap.size w w' := by
  have hq : ((b.size : Int) != 256) = true := by simp; omega
  go_enter Try.func26, Try.ntmps26
  go_wp2
  refine bodyPost_ret (v := .tuple #[noPage, .int .i64 5]) (by rw [results_cell_tmp rfl]; go_simp) rfl ?_
  exact ⟨rfl, (Below.refl _ _).alloc (Nat.le_refl _) _⟩

theorem byte_num (b : ByteArray) (i : Nat) (h : i < b.size) : numL (((bts b).drop i).take 1) = b[i].toNat := by
  rw [List.drop_eq_getElem_cons (by rw [bts_len]; exact h)]
  show b[i].toNat + 256 * 0 = _
  omega

theorem refread_long (b : ByteArray) (w : World) (hs : b.size = 256) (hn : 232 < lenB (bts b)) :
    Calls Try.prog 26 #[.string b] w fun e w' => e = .returned (.tuple #[noPage, .int .i64 6]) ∧ Below w.heap.size w w' := by
  have hs' : ((b.size : Int) != 256) = false := by simp; omega
  have hp : (1 : Int) < (b.size : Int) := by omega
  have h1 : 1 < b.size := by omega
  have hby : (b[1].toNat : Int) < 256 := by have := b[1].toNat_lt; omega
  have hn2 : (232 : Int) < (b[1].toNat : Int) := by have : lenB (bts b) = b[1].toNat := byte_num b 1 h1; omega
  go_enter Try.func26, Try.ntmps26
  go_wp2
  refine bodyPost_ret (v := .tuple #[noPage, .int .i64 6]) (by rw [results_cell_tmp rfl]; go_simp) rfl ?_
  exact ⟨rfl, (Below.refl _ _).alloc (Nat.le_refl _) _⟩

set_option maxRecDepth 100000 in
set_option maxHeartbeats 4000000 in
theorem refread_rest (b : ByteArray) (w : World) (hs : b.size = 256) (hn : lenB (bts b) ≤ 232) :
    Calls Try.prog 26 #[.string b] w fun e w' => e = .returned (.tuple #[readV (bts b), .int .i64 (errB (bts b))]) ∧ Below w.heap.size w w' := by
  have hl : (bts b).length = 256 := by rw [bts_len]; exact hs
  have hs' : ((b.size : Int) != 256) = false := by simp; omega
  have hp : (1 : Int) < (b.size : Int) := by omega
  have hp0 : (0 : Int) < (b.size : Int) := by omega
  have h1 : 1 < b.size := by omega
  have h0 : 0 < b.size := by omega
  have e0' : b[0].toNat = kindB (bts b) := (byte_num b 0 h0).symm
  have hnn : b[1].toNat = lenB (bts b) := (byte_num b 1 h1).symm
  have hk0 : kindB (bts b) < 256 := num_take _ 1
  have hn2 : (lenB (bts b) : Int) ≤ 232 := by omega
  have hn0 : (0 : Int) ≤ (lenB (bts b) : Int) := by omega
  obtain ⟨X, hX⟩ : ∃ X, b.extract 2 4 = X := ⟨_, rfl⟩
  obtain ⟨Y, hY⟩ : ∃ X, b.extract 8 16 = X := ⟨_, rfl⟩
  have hXs : X.size ≤ 8 := by rw [← hX, ByteArray.size_extract]; omega
  have hYs : Y.size ≤ 8 := by rw [← hY, ByteArray.size_extract]; omega
  have hXn : numL (bts X) = idB (bts b) := by rw [← hX, bts_extract, List.drop_take]; rfl
  have hYn : numL (bts Y) = txB (bts b) := by rw [← hY, bts_extract, List.drop_take]; rfl
  have hN1 := fun w => refnum_any X w hXs
  have hN2 := fun w => refnum_any Y w hYs
  rw [hXn] at hN1
  rw [hYn] at hN2
  have hit : idB (bts b) < 65536 := num_take _ 2
  have w0 : IntKind.i64.wrap (kindB (bts b) : Int) = (kindB (bts b) : Int) := IntWalk.i64_in _ (by omega)
  have w1 : IntKind.i64.wrap (idB (bts b) : Int) = (idB (bts b) : Int) := IntWalk.i64_in _ (by omega)
  have w2 : IntKind.i64.wrap (txB (bts b) : Int) = sgn (txB (bts b)) := by unfold sgn wrap64; rw [IntKind.wrap_i64]
  obtain ⟨m, hm⟩ : ∃ m : Nat, m = 16 + lenB (bts b) := ⟨_, rfl⟩
  have hme : (16 : Int) + (lenB (bts b) : Int) = (m : Int) := by omega
  have w3 : IntKind.i64.wrap (m : Int) = (m : Int) := IntWalk.i64_in _ (by omega)
  have w7 : IntKind.i64.wrap (lenB (bts b) : Int) = (lenB (bts b) : Int) := IntWalk.i64_in _ (by omega)
  have w4 : (m : Int) ≤ 256 := by omega
  have w5 : (16 : Int) ≤ (m : Int) := by omega
  have w6 : (0 : Int) ≤ (m : Int) := by omega
  have hBD : b.extract 16 m = bs (bodyB (bts b)) := by
    apply bts_inj
    rw [bts_extract, bts_bs, List.drop_take]
    unfold bodyB
    rw [show m - 16 = lenB (bts b) by omega]
  have hbl := bodyB_len (bts b) (by omega) hn
  clear hXn hYn hm hXs hYs
  go_enter Try.func26, Try.ntmps26
  go_upto_region 6 with fail
  go_cut [5] from 18 to 33 (fun u5 wx => u5 = .pointer (some ⟨w.heap.size + 1, 0, none⟩) ∧ wx = ((w.alloc (.cells #[.int .i64 0, .int .i64 0, .int .i64 0, .string ⟨#[]⟩] 51)).alloc (.cells #[.int .i64 (kindB (bts b)), .int .i64 (idB (bts b)), .int .i64 (sgn (txB (bts b))), .string (bs (bodyB (bts b)))] 51)).drew)
  case first =>
    go_region_held3 (fun _ => True) (exact trivial) (first
      | (go_at_call 27; with_reducible refine (hN1 _).mono ?_; rintro e w1 ⟨rfl, hw1⟩; subst hw1)
      | (go_at_call 27; with_reducible refine (hN2 _).mono ?_; rintro e w2 ⟨rfl, hw2⟩; subst hw2))
    all_goals (go_wp2_with fail; go_meet; exact ⟨rfl, rfl⟩)
  case rest =>
  obtain ⟨rfl, rfl⟩ := hcut
  have R0 : Blk ((w.alloc (.cells #[.int .i64 0, .int .i64 0, .int .i64 0, .string ⟨#[]⟩] 51)).alloc (.cells #[.int .i64 (kindB (bts b)), .int .i64 (idB (bts b)), .int .i64 (sgn (txB (bts b))), .string (bs (bodyB (bts b)))] 51)).drew w.heap.size 51 #[.int .i64 0, .int .i64 0, .int .i64 0, .string ⟨#[]⟩] := ((Blk.new _ _ _).alloc _).drew
  have P0 : Blk ((w.alloc (.cells #[.int .i64 0, .int .i64 0, .int .i64 0, .string ⟨#[]⟩] 51)).alloc (.cells #[.int .i64 (kindB (bts b)), .int .i64 (idB (bts b)), .int .i64 (sgn (txB (bts b))), .string (bs (bodyB (bts b)))] 51)).drew (w.heap.size + 1) 51 #[.int .i64 (kindB (bts b)), .int .i64 (idB (bts b)), .int .i64 (sgn (txB (bts b))), .string (bs (bodyB (bts b)))] := by
    have := (Blk.new (w.alloc (.cells #[.int .i64 0, .int .i64 0, .int .i64 0, .string ⟨#[]⟩] 51)) 51 #[.int .i64 (kindB (bts b)), .int .i64 (idB (bts b)), .int .i64 (sgn (txB (bts b))), .string (bs (bodyB (bts b)))]).drew
    simpa using this
  have B0 : Below w.heap.size w ((w.alloc (.cells #[.int .i64 0, .int .i64 0, .int .i64 0, .string ⟨#[]⟩] 51)).alloc (.cells #[.int .i64 (kindB (bts b)), .int .i64 (idB (bts b)), .int .i64 (sgn (txB (bts b))), .string (bs (bodyB (bts b)))] 51)).drew := (((Below.refl _ _).alloc (Nat.le_refl _) _).alloc (by simp) _).drew
  generalize ((w.alloc (.cells #[.int .i64 0, .int .i64 0, .int .i64 0, .string ⟨#[]⟩] 51)).alloc (.cells #[.int .i64 (kindB (bts b)), .int .i64 (idB (bts b)), .int .i64 (sgn (txB (bts b))), .string (bs (bodyB (bts b)))] 51)).drew = W at R0 P0 B0 ⊢
  have pc0 := P0.cell
  have rc0 := R0.cell
  have rf0 := R0.free
  by_cases hv : (pgB (bts b)).ok
  · have hsg : sgn (txB (bts b)) = (txB (bts b) : Int) := sgn_ok (by have : txB (bts b) ≤ 1099511627776 := hv.2.2.2.1; omega)
    have c0 : ¬ (232 < lenB (bts b) ∨ ¬ (pgB (bts b)).ok) := by simp [hv]; omega
    have hll := layL_len hv
    obtain ⟨A, hA⟩ : ∃ A, A = bs (layL (pgB (bts b))) := ⟨_, rfl⟩
    have f1 : ((A.extract 0 248).toList == (b.extract 0 248).toList) = decide ((layL (pgB (bts b))).take 248 = (bts b).take 248) := by
      rw [str_beq, bts_extract, bts_extract, hA, bts_bs]; rfl
    have f2 : ((A.extract 252 256).toList == (b.extract 252 256).toList) = decide ((layL (pgB (bts b))).drop 252 = (bts b).drop 252) := by
      rw [str_beq, bts_extract, bts_extract, hA, bts_bs, List.take_of_length_le (by omega), List.take_of_length_le (by omega)]
    have f3 : (A.toList == b.toList) = decide (layL (pgB (bts b)) = bts b) := by
      rw [str_beq, hA, bts_bs]
    have HLAY : ∀ w, Calls Try.prog 21 #[pageV (kindB (bts b)) (idB (bts b)) (sgn (txB (bts b))) (bs (bodyB (bts b)))] w fun e w' => e = .returned (.string A) ∧ Below w.heap.size w w' := fun w => by
      rw [hsg, hA]; exact reflay_any _ _ _ _ w hv
    have hAs : A.size = 256 := by rw [hA, bs_size]; exact layL_len hv
    have HSG := Lib.hid hsg
    clear hA hsg
    have HV : ∀ w, Calls Try.prog 39 #[pageV (kindB (bts b)) (idB (bts b)) (sgn (txB (bts b))) (bs (bodyB (bts b)))] w fun e w' => e = .returned (.bool true) ∧ Below w.heap.size w w' := fun w => by
      have := refvalid_any (kindB (bts b)) (idB (bts b)) (sgn (txB (bts b))) (bs (bodyB (bts b))) w (by rw [bs_size]; omega)
      rwa [decide_eq_true ((ok_sgn (txB_lt _)).2 hv)] at this
    clear hv
    by_cases h1' : (layL (pgB (bts b))).take 248 = (bts b).take 248
    · by_cases h2' : (layL (pgB (bts b))).drop 252 = (bts b).drop 252
      · by_cases h3' : layL (pgB (bts b)) = bts b
        · have e : errB (bts b) = 0 := by unfold errB; rw [if_neg c0, if_neg (by simp [h1', h2']), if_neg (by simp [h3'])]
          rw [decide_eq_true h1'] at f1
          rw [decide_eq_true h2'] at f2
          rw [decide_eq_true h3'] at f3
          clear h1' h2' h3'
          clear c0 hll
          have HE := Lib.hid e
          clear e
          go_wp2_with (first
            | (go_at_call 39; refine (HV _).mono ?_; rintro e w8 ⟨rfl, b8⟩; have B8 := below_of b8 B0 B0.size; have R8 := R0.below b8; have P8 := P0.below b8; have pc8 := P8.cell; have rc8 := R8.cell; have rf8 := R8.free)
              | (go_at_call 21; refine (HLAY _).mono ?_; rintro e w9 ⟨rfl, b9⟩; have B9 := below_of b9 B8 B8.size; have R9 := R8.below b9; have P9 := P8.below b9; have pc9 := P9.cell; have rc9 := R9.cell; have rf9 := R9.free))
          go_quiet (fail)
          go_wp2
          refine bodyPost_ret (v := .tuple #[pageV (kindB (bts b)) (idB (bts b)) (sgn (txB (bts b))) (bs (bodyB (bts b))), .int .i64 0]) (by rw [results_cell_tmp rfl]; go_simp) rfl ⟨by unfold readV; rw [HE.out, if_pos rfl, ← HSG.out]; rfl, ?_⟩
          repeat (refine Below.setCell ?_ (by exact Nat.le_refl _) _)
          exact below_drewN B9 _
        · have e : errB (bts b) = 7 := by unfold errB; rw [if_neg c0, if_neg (by simp [h1', h2']), if_pos h3']
          rw [decide_eq_true h1'] at f1
          rw [decide_eq_true h2'] at f2
          rw [decide_eq_false h3'] at f3
          clear h1' h2' h3'
          clear c0 hll
          have HE := Lib.hid e
          clear e
          go_wp2_with (first
            | (go_at_call 39; refine (HV _).mono ?_; rintro e w8 ⟨rfl, b8⟩; have B8 := below_of b8 B0 B0.size; have R8 := R0.below b8; have P8 := P0.below b8; have pc8 := P8.cell; have rc8 := R8.cell; have rf8 := R8.free)
              | (go_at_call 21; refine (HLAY _).mono ?_; rintro e w9 ⟨rfl, b9⟩; have B9 := below_of b9 B8 B8.size; have R9 := R8.below b9; have P9 := P8.below b9; have pc9 := P9.cell; have rc9 := R9.cell; have rf9 := R9.free))
          go_quiet (fail)
          go_wp2
          refine bodyPost_ret (v := .tuple #[noPage, .int .i64 7]) (by rw [results_cell_tmp rfl]; go_simp) rfl ⟨by unfold readV; rw [HE.out, if_neg (by decide)]; rfl, ?_⟩
          repeat (refine Below.setCell ?_ (by exact Nat.le_refl _) _)
          exact below_drewN B9 _
      · have e : errB (bts b) = 6 := by unfold errB; rw [if_neg c0, if_pos (.inr h2')]
        rw [decide_eq_true h1'] at f1
        rw [decide_eq_false h2'] at f2
        clear h1' h2' f3
        clear c0 hll
        have HE := Lib.hid e
        clear e
        go_wp2_with (first
          | (go_at_call 39; refine (HV _).mono ?_; rintro e w8 ⟨rfl, b8⟩; have B8 := below_of b8 B0 B0.size; have R8 := R0.below b8; have P8 := P0.below b8; have pc8 := P8.cell; have rc8 := R8.cell; have rf8 := R8.free)
            | (go_at_call 21; refine (HLAY _).mono ?_; rintro e w9 ⟨rfl, b9⟩; have B9 := below_of b9 B8 B8.size; have R9 := R8.below b9; have P9 := P8.below b9; have pc9 := P9.cell; have rc9 := R9.cell; have rf9 := R9.free))
        go_quiet (fail)
        go_wp2
        refine bodyPost_ret (v := .tuple #[noPage, .int .i64 6]) (by rw [results_cell_tmp rfl]; go_simp) rfl ⟨by unfold readV; rw [HE.out, if_neg (by decide)]; rfl, ?_⟩
        repeat (refine Below.setCell ?_ (by exact Nat.le_refl _) _)
        exact below_drewN B9 _
    · have e : errB (bts b) = 6 := by unfold errB; rw [if_neg c0, if_pos (.inl h1')]
      rw [decide_eq_false h1'] at f1
      clear h1' f2 f3
      clear c0 hll
      have HE := Lib.hid e
      clear e
      go_wp2_with (first
        | (go_at_call 39; refine (HV _).mono ?_; rintro e w8 ⟨rfl, b8⟩; have B8 := below_of b8 B0 B0.size; have R8 := R0.below b8; have P8 := P0.below b8; have pc8 := P8.cell; have rc8 := R8.cell; have rf8 := R8.free)
          | (go_at_call 21; refine (HLAY _).mono ?_; rintro e w9 ⟨rfl, b9⟩; have B9 := below_of b9 B8 B8.size; have R9 := R8.below b9; have P9 := P8.below b9; have pc9 := P9.cell; have rc9 := R9.cell; have rf9 := R9.free))
      go_quiet (fail)
      go_wp2
      refine bodyPost_ret (v := .tuple #[noPage, .int .i64 6]) (by rw [results_cell_tmp rfl]; go_simp) rfl ⟨by unfold readV; rw [HE.out, if_neg (by decide)]; rfl, ?_⟩
      repeat (refine Below.setCell ?_ (by exact Nat.le_refl _) _)
      exact below_drewN B9 _
  · have e : errB (bts b) = 6 := by unfold errB; rw [if_pos (.inr hv)]
    have HE := Lib.hid e
    clear e
    have HV : ∀ w, Calls Try.prog 39 #[pageV (kindB (bts b)) (idB (bts b)) (sgn (txB (bts b))) (bs (bodyB (bts b)))] w fun e w' => e = .returned (.bool false) ∧ Below w.heap.size w w' := fun w => by
      have := refvalid_any (kindB (bts b)) (idB (bts b)) (sgn (txB (bts b))) (bs (bodyB (bts b))) w (by rw [bs_size]; omega)
      rwa [decide_eq_false (fun h => hv ((ok_sgn (txB_lt _)).1 h))] at this
    go_wp2_with (first
      | (go_at_call 39; refine (HV _).mono ?_; rintro e w8 ⟨rfl, b8⟩; have B8 := below_of b8 B0 B0.size; have R8 := R0.below b8; have P8 := P0.below b8; have pc8 := P8.cell; have rc8 := R8.cell; have rf8 := R8.free))
    refine bodyPost_ret (v := .tuple #[noPage, .int .i64 6]) (by rw [results_cell_tmp rfl]; go_simp) rfl ⟨by unfold readV; rw [HE.out, if_neg (by decide)]; rfl, ?_⟩
    repeat (refine Below.setCell ?_ (by exact Nat.le_refl _) _)
    exact B8

theorem refread_any (b : ByteArray) (w : World) (hs : b.size = 256) :
    Calls Try.prog 26 #[.string b] w fun e w' => e = .returned (.tuple #[readV (bts b), .int .i64 (errB (bts b))]) ∧ Below w.heap.size w w' := by
  by_cases hn : 232 < lenB (bts b)
  · have e : errB (bts b) = 6 := by unfold errB; rw [if_pos (.inl hn)]
    unfold readV
    rw [e]
    exact refread_long b w hs hn
  · exact refread_rest b w hs (by omega)
end Go.Proofs.Ytkenhcgdnbgnpaa
