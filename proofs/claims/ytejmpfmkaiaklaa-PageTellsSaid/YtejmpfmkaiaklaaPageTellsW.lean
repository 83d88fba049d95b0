/-
  The walk of the law PageTells: for every input it returns true and changes nothing that was there. Condition: texts no longer than memory holds.
-/
import Derived.Test.YtejmpfmkaiaklaaPageRefRead
namespace Go.Proofs.Ytejmpfmkaiaklaa
open Go Go.RowKit
attribute [local go_sem] cell_set_if

theorem read_all (c : ByteArray) (hz : c.size ≤ 100000) : ∃ (rk ri rt : Int) (rs : ByteArray) (re : Int), (∀ w, Calls Try.prog 29 #[.string c] w fun e w' => e = .returned (.tuple #[pageV rk ri rt rs, .int .i64 re]) ∧ Below w.heap.size w w')
    ∧ (∀ w, Calls Try.prog 30 #[.string c] w fun e w' => e = .returned (.tuple #[pageV rk ri rt rs, .int .i64 re]) ∧ Below w.heap.size w w') := by
  by_cases hs : c.size = 256
  · by_cases he : errB (bts c) = 0
    · refine ⟨kindB (bts c), idB (bts c), txB (bts c), bs (bodyB (bts c)), 0, fun w => ?_, fun w => ?_⟩
      · have := read_any c w hs
        unfold readV at this
        rw [he, if_pos rfl] at this
        exact this
      · have := refread_any c w hs
        unfold readV at this
        rw [he, if_pos rfl] at this
        exact this
    · refine ⟨0, 0, 0, ⟨#[]⟩, (errB (bts c) : Nat), fun w => ?_, fun w => ?_⟩
      · have := read_any c w hs
        unfold readV at this
        rw [if_neg he] at this
        exact this
      · have := refread_any c w hs
        unfold readV at this
        rw [if_neg he] at this
        exact this
  · exact ⟨0, 0, 0, ⟨#[]⟩, 5, fun w => read_len c w hs (by omega), fun w => refread_len c w hs (by omega)⟩

set_option maxRecDepth 100000 in
set_option maxHeartbeats 2000000 in
theorem tells_big (k i t : Int) (bd b : ByteArray) (own : Bool) (w : World) (h : 1000 < bd.size ∨ 1000 < b.size) (hz : bd.size ≤ 9223372036854775807) (hz2 : b.size ≤ 9223372036854775807) :
    Calls Try.prog 5 #[pageV k i t bd, .string b, .bool own] w fun e w' => e = .returned (.bool true) ∧ Below w.heap.size w w' := by
  have hc : (1000 : Int) < bd.size ∨ ((bd.size : Int) ≤ 1000 ∧ (1000 : Int) < b.size) := by omega
  rcases hc with h1 | ⟨h1, h2⟩
  all_goals
    go_enter Try.func5, Try.ntmps5
    go_wp2_with (first
      | (go_at_call 25; refine (alive5_any _).mono ?_; rintro e w1 ⟨rfl, b1⟩))
    go_ret
    exact ⟨rfl, below_of b1 ((Below.refl _ _).alloc (Nat.le_refl _) _) (by simp)⟩

set_option maxRecDepth 100000 in
set_option maxHeartbeats 4000000 in
theorem tells_plain (k i t : Int) (bd b : ByteArray) (w : World) (h1 : bd.size ≤ 1000) (h2 : b.size ≤ 1000) :
    Calls Try.prog 5 #[pageV k i t bd, .string b, .bool false] w fun e w' => e = .returned (.bool true) ∧ Below w.heap.size w w' := by
  have h1' : (bd.size : Int) ≤ 1000 := by omega
  have h2' : (b.size : Int) ≤ 1000 := by omega
  obtain ⟨rk, ri, rt, rs, re, hRd, hRr⟩ := read_all b (by omega)
  have hV := fun w => valid_any k i t bd w (by omega)
  have hVr := fun w => refvalid_any k i t bd w (by omega)
  have hcase : (∃ S : ByteArray, (∀ w, Calls Try.prog 28 #[pageV k i t bd] w fun e w' => e = .returned (.tuple #[.string S, .int .i64 0]) ∧ Below w.heap.size w w')
      ∧ (∀ w, Calls Try.prog 32 #[pageV k i t bd] w fun e w' => e = .returned (.string S) ∧ Below w.heap.size w w')
      ∧ decide (okP k i t bd.size) = true) ∨ ((∀ w, Calls Try.prog 28 #[pageV k i t bd] w fun e w' => e = .returned (.tuple #[.string ⟨#[]⟩, .int .i64 1]) ∧ Below w.heap.size w w') ∧ decide (okP k i t bd.size) = false) := by
    by_cases a : okP k i t bd.size
    · left
      obtain ⟨k, rfl⟩ := Int.eq_ofNat_of_zero_le (show 0 ≤ k by have := a.1; omega)
      obtain ⟨i, rfl⟩ := Int.eq_ofNat_of_zero_le (show 0 ≤ i from a.2.2.1)
      obtain ⟨t, rfl⟩ := Int.eq_ofNat_of_zero_le (show 0 ≤ t from a.2.2.2.2.1)
      exact ⟨_, fun w => lay_ok k i t bd w (okP_ok.1 a), fun w => reflay_any k i t bd w (okP_ok.1 a), decide_eq_true a⟩
    · right
      exact ⟨fun w => lay_no k i t bd w (by omega) a, decide_eq_false a⟩
  have hfront : ((b.size : Int) < 16 ∧ ∀ w, Calls Try.prog 33 #[.string b] w fun e w' => e = .returned (.tuple #[.int .i64 0, .int .i64 0, .int .i64 0]) ∧ Below w.heap.size w w')
      ∨ (∃ h16 : 16 ≤ b.size, (16 : Int) ≤ (b.size : Int) ∧ ∃ X Y : ByteArray, b.extract 2 4 = X ∧ b.extract 8 16 = Y ∧ (∀ w, Calls Try.prog 34 #[.string X] w fun e w' => e = .returned (.int .u64 (idB (bts b))) ∧ w' = w) ∧ (∀ w, Calls Try.prog 34 #[.string Y] w fun e w' => e = .returned (.int .u64 (txB (bts b))) ∧ w' = w)
        ∧ (b[0]'(by omega)).toNat = kindB (bts b) ∧ ∀ w, Calls Try.prog 33 #[.string b] w fun e w' => e = .returned (.tuple #[.int .i64 (kindB (bts b)), .int .i64 (idB (bts b)), .int .i64 (sgn (txB (bts b)))]) ∧ Below w.heap.size w w') := by
    by_cases h : b.size < 16
    · exact .inl ⟨by omega, fun w => (front_short b w h).mono fun e w' ⟨a, c⟩ => ⟨a, by rw [c]; exact Below.refl _ _⟩⟩
    · refine .inr ⟨by omega, by omega, _, _, rfl, rfl, fun w => ?_, fun w => ?_, (byte_num b 0 (by omega)).symm, fun w => front_any b w (by omega) (by omega)⟩
      · have := refnum_any (b.extract 2 4) w (by rw [ByteArray.size_extract]; omega)
        rw [show numL (bts (b.extract 2 4)) = idB (bts b) by rw [bts_extract, List.drop_take]; rfl] at this
        exact this
      · have := refnum_any (b.extract 8 16) w (by rw [ByteArray.size_extract]; omega)
        rw [show numL (bts (b.extract 8 16)) = txB (bts b) by rw [bts_extract, List.drop_take]; rfl] at this
        exact this
  have hit : idB (bts b) < 65536 := num_take _ 2
  have hk0 : kindB (bts b) < 256 := num_take _ 1
  have w2 : IntKind.i64.wrap (txB (bts b) : Int) = sgn (txB (bts b)) := by unfold sgn wrap64; rw [IntKind.wrap_i64]
  have w3 : wrap64 (txB (bts b) : Int) = sgn (txB (bts b)) := rfl
  rcases hcase with ⟨S, hL, hLr, ho⟩ | ⟨hL, ho⟩
  all_goals
    rw [ho] at hV hVr
    rcases hfront with ⟨hlt, hF⟩ | ⟨h16, hge, X, Y, hX, hY, hN1, hN2, hb0, hF⟩
    all_goals
      go_enter Try.func5, Try.ntmps5
      go_wp2_with (first
        | (go_at_call 25; refine (alive5_any _).mono ?_; rintro e w1 ⟨rfl, b1⟩; have M1 := (Pc.new _ _ _ _ _ _).step b1; have B1 := below_of b1 ((Below.refl _ _).alloc (Nat.le_refl _) _) (by simp); have UM1 := M1; unfold Pc at UM1)
        | (go_at_call 28; refine (hL _).mono ?_; rintro e w2 ⟨rfl, b2⟩; have M2 := M1.step b2; have B2 := below_of b2 B1 B1.size; have UM2 := M2; unfold Pc at UM2)
        | (go_at_call 29; refine (hRd _).mono ?_; rintro e w3 ⟨rfl, b3⟩; have M3 := (M2.step b3).alloc (.cells #[.int .i64 rk, .int .i64 ri, .int .i64 rt, .string rs] 29); have N3 := Pc.new w3 rk ri rt rs 29; have B3 := below_of b3 B2 B2.size; have B3a := B3.alloc B3.size (.cells #[.int .i64 rk, .int .i64 ri, .int .i64 rt, .string rs] 29); have UM3 := M3; unfold Pc at UM3)
        | (go_at_call 30; refine (hRr _).mono ?_; rintro e w4 ⟨rfl, b4⟩; have M4 := (M3.step b4).alloc (.cells #[.int .i64 rk, .int .i64 ri, .int .i64 rt, .string rs] 29); have N4 := (N3.step b4).alloc (.cells #[.int .i64 rk, .int .i64 ri, .int .i64 rt, .string rs] 29); have O4 := Pc.new w4 rk ri rt rs 29; have B4 := below_of b4 B3a B3a.size; have B4a := B4.alloc B4.size (.cells #[.int .i64 rk, .int .i64 ri, .int .i64 rt, .string rs] 29); have UM4 := M4; unfold Pc at UM4)
        | (go_at_call 15; refine (hVr _).mono ?_; rintro e w5 ⟨rfl, b5⟩; have M5 := M4.step b5; have N5 := N4.step b5; have O5 := O4.step b5; have B5 := below_of b5 B4a B4a.size; have UM5 := M5; unfold Pc at UM5)
        | (go_at_call 31; refine (hV _).mono ?_; rintro e w6 ⟨rfl, b6⟩; have M6 := M5.step b6; have N6 := N5.step b6; have O6 := O5.step b6; have B6 := below_of b6 B5 B5.size; have UM6 := M6; unfold Pc at UM6)
        | (go_at_call 32; refine (hLr _).mono ?_; rintro e w7 ⟨rfl, b7⟩; have N7 := N6.step b7; have O7 := O6.step b7; have B7 := below_of b7 B6 B6.size)
        | (go_at_call 33; refine (hF _).mono ?_; rintro e w8 ⟨rfl, b8⟩; (first | (have N8 := N7.step b8; have O8 := O7.step b8; have B8 := below_of b8 B7 B7.size) | (have N8 := N6.step b8; have O8 := O6.step b8; have B8 := below_of b8 B6 B6.size)); have UN8 := N8; have UO8 := O8; unfold Pc at UN8 UO8)
        | (go_at_call 34; with_reducible refine (hN1 _).mono ?_; rintro e w9 ⟨rfl, hw9⟩; subst hw9)
        | (go_at_call 34; with_reducible refine (hN2 _).mono ?_; rintro e w9 ⟨rfl, hw9⟩; subst hw9))
      go_ret
      exact ⟨rfl, B8⟩

set_option maxRecDepth 100000 in
set_option maxHeartbeats 4000000 in
theorem tells_own (k i t : Int) (bd b : ByteArray) (w : World) (h1 : bd.size ≤ 1000) (h2 : b.size ≤ 1000) :
    Calls Try.prog 5 #[pageV k i t bd, .string b, .bool true] w fun e w' => e = .returned (.bool true) ∧ Below w.heap.size w w' := by
  have h1' : (bd.size : Int) ≤ 1000 := by omega
  have h2' : (b.size : Int) ≤ 1000 := by omega
  obtain ⟨mz, hmz⟩ : ∃ mz : Nat, mz = 256 - b.size := ⟨_, rfl⟩
  have hmx : max ((256 : Int) - (b.size : Int)) 0 = (mz : Int) := by omega
  obtain ⟨Z, hZ⟩ : ∃ Z, Z = bs (zerosL mz) := ⟨_, rfl⟩
  have az : ∀ w, Calls Try.prog 26 #[.int .i64 mz] w fun e w' => e = .returned (.string Z) ∧ Below w.heap.size w w' := fun w => by rw [hZ]; exact refzeros_any mz w (by omega)
  have sZ : Z.size = mz := by rw [hZ, bs_size]; simp [zerosL]
  obtain ⟨T, hT⟩ : ∃ T, b ++ Z = T := ⟨_, rfl⟩
  have sT : T.size = b.size + mz := by rw [← hT, ByteArray.size_append, sZ]
  obtain ⟨F, hF0⟩ : ∃ F, T.extract 0 248 = F := ⟨_, rfl⟩
  obtain ⟨G, hG0⟩ : ∃ G, T.extract 4 8 = G := ⟨_, rfl⟩
  have sF : F.size = 248 := by rw [← hF0, ByteArray.size_extract]; omega
  have sG : G.size = 4 := by rw [← hG0, ByteArray.size_extract]; omega
  have hsl := fun w => refseal_any F w (by omega)
  obtain ⟨c, hC⟩ : ∃ c, sealB F ++ G = c := ⟨_, rfl⟩
  have sS : (sealB F).size = 252 := by rw [sealB_size]; omega
  have sC : c.size = 256 := by rw [← hC, ByteArray.size_append]; omega
  have r1 : b.size + Z.size ≤ 9223372036854775807 := by omega
  have r2 : ¬ (9223372036854775807 < (sealB F).size + G.size) := by omega
  have t1 : (248 : Int) ≤ (T.size : Int) := by omega
  have t2 : (8 : Int) ≤ (T.size : Int) := by omega
  clear hZ sT hmz
  obtain ⟨rk, ri, rt, rs, re, hRd, hRr⟩ := read_all c (by omega)
  have hV := fun w => valid_any k i t bd w (by omega)
  have hVr := fun w => refvalid_any k i t bd w (by omega)
  have hcase : (∃ S : ByteArray, (∀ w, Calls Try.prog 28 #[pageV k i t bd] w fun e w' => e = .returned (.tuple #[.string S, .int .i64 0]) ∧ Below w.heap.size w w')
      ∧ (∀ w, Calls Try.prog 32 #[pageV k i t bd] w fun e w' => e = .returned (.string S) ∧ Below w.heap.size w w')
      ∧ decide (okP k i t bd.size) = true) ∨ ((∀ w, Calls Try.prog 28 #[pageV k i t bd] w fun e w' => e = .returned (.tuple #[.string ⟨#[]⟩, .int .i64 1]) ∧ Below w.heap.size w w') ∧ decide (okP k i t bd.size) = false) := by
    by_cases a : okP k i t bd.size
    · left
      obtain ⟨k, rfl⟩ := Int.eq_ofNat_of_zero_le (show 0 ≤ k by have := a.1; omega)
      obtain ⟨i, rfl⟩ := Int.eq_ofNat_of_zero_le (show 0 ≤ i from a.2.2.1)
      obtain ⟨t, rfl⟩ := Int.eq_ofNat_of_zero_le (show 0 ≤ t from a.2.2.2.2.1)
      exact ⟨_, fun w => lay_ok k i t bd w (okP_ok.1 a), fun w => reflay_any k i t bd w (okP_ok.1 a), decide_eq_true a⟩
    · right
      exact ⟨fun w => lay_no k i t bd w (by omega) a, decide_eq_false a⟩
  obtain ⟨X, hX⟩ : ∃ X, c.extract 2 4 = X := ⟨_, rfl⟩
  obtain ⟨Y, hY⟩ : ∃ X, c.extract 8 16 = X := ⟨_, rfl⟩
  have hN1 : ∀ w, Calls Try.prog 34 #[.string X] w fun e w' => e = .returned (.int .u64 (idB (bts c))) ∧ w' = w := fun w => by
    have := refnum_any (c.extract 2 4) w (by rw [ByteArray.size_extract]; omega)
    rw [show numL (bts (c.extract 2 4)) = idB (bts c) by rw [bts_extract, List.drop_take]; rfl] at this
    rw [← hX]; exact this
  have hN2 : ∀ w, Calls Try.prog 34 #[.string Y] w fun e w' => e = .returned (.int .u64 (txB (bts c))) ∧ w' = w := fun w => by
    have := refnum_any (c.extract 8 16) w (by rw [ByteArray.size_extract]; omega)
    rw [show numL (bts (c.extract 8 16)) = txB (bts c) by rw [bts_extract, List.drop_take]; rfl] at this
    rw [← hY]; exact this
  have hb0 : (c[0]'(by omega)).toNat = kindB (bts c) := (byte_num c 0 (by omega)).symm
  have hF := fun w => front_any c w (by omega) (by omega)
  have hit : idB (bts c) < 65536 := num_take _ 2
  have hk0 : kindB (bts c) < 256 := num_take _ 1
  have w2 : IntKind.i64.wrap (txB (bts c) : Int) = sgn (txB (bts c)) := by unfold sgn wrap64; rw [IntKind.wrap_i64]
  have w3 : wrap64 (txB (bts c) : Int) = sgn (txB (bts c)) := rfl
  rcases hcase with ⟨S, hL, hLr, ho⟩ | ⟨hL, ho⟩
  all_goals
    rw [ho] at hV hVr
    go_enter Try.func5, Try.ntmps5
    go_wp2_with (first
      | (go_at_call 26; refine (az _).mono ?_; rintro e wz ⟨rfl, bz⟩; have MZ := M1.step bz; have BZ := below_of bz B1 B1.size; have UMZ := MZ; unfold Pc at UMZ)
      | (go_at_call 25; refine (alive5_any _).mono ?_; rintro e w1 ⟨rfl, b1⟩; have M1 := (Pc.new _ _ _ _ _ _).step b1; have B1 := below_of b1 ((Below.refl _ _).alloc (Nat.le_refl _) _) (by simp); have UM1 := M1; unfold Pc at UM1))
    go_region_held3 (fun _ => True) (exact trivial) (first
      | (go_at_call 27; refine (hsl _).mono ?_; rintro e ws ⟨rfl, bs0⟩; have MS := (MZ.below (below_drewN (Below.refl wz.heap.size wz) 1) MZ.lt).step bs0; have BS := below_of bs0 (below_drewN BZ 1) (below_drewN BZ 1).size; have UMS := MS; unfold Pc at UMS))
    go_wp2_with (first
      | (go_at_call 28; refine (hL _).mono ?_; rintro e w2 ⟨rfl, b2⟩; have M2 := MS.step b2; have B2 := below_of b2 BS BS.size; have UM2 := M2; unfold Pc at UM2)
      | (go_at_call 29; refine (hRd _).mono ?_; rintro e w3 ⟨rfl, b3⟩; have M3 := (M2.step b3).alloc (.cells #[.int .i64 rk, .int .i64 ri, .int .i64 rt, .string rs] 29); have N3 := Pc.new w3 rk ri rt rs 29; have B3 := below_of b3 B2 B2.size; have B3a := B3.alloc B3.size (.cells #[.int .i64 rk, .int .i64 ri, .int .i64 rt, .string rs] 29); have UM3 := M3; unfold Pc at UM3)
      | (go_at_call 30; refine (hRr _).mono ?_; rintro e w4 ⟨rfl, b4⟩; have M4 := (M3.step b4).alloc (.cells #[.int .i64 rk, .int .i64 ri, .int .i64 rt, .string rs] 29); have N4 := (N3.step b4).alloc (.cells #[.int .i64 rk, .int .i64 ri, .int .i64 rt, .string rs] 29); have O4 := Pc.new w4 rk ri rt rs 29; have B4 := below_of b4 B3a B3a.size; have B4a := B4.alloc B4.size (.cells #[.int .i64 rk, .int .i64 ri, .int .i64 rt, .string rs] 29); have UM4 := M4; unfold Pc at UM4)
      | (go_at_call 15; refine (hVr _).mono ?_; rintro e w5 ⟨rfl, b5⟩; have M5 := M4.step b5; have N5 := N4.step b5; have O5 := O4.step b5; have B5 := below_of b5 B4a B4a.size; have UM5 := M5; unfold Pc at UM5)
      | (go_at_call 31; refine (hV _).mono ?_; rintro e w6 ⟨rfl, b6⟩; have M6 := M5.step b6; have N6 := N5.step b6; have O6 := O5.step b6; have B6 := below_of b6 B5 B5.size; have UM6 := M6; unfold Pc at UM6)
      | (go_at_call 32; refine (hLr _).mono ?_; rintro e w7 ⟨rfl, b7⟩; have N7 := N6.step b7; have O7 := O6.step b7; have B7 := below_of b7 B6 B6.size)
      | (go_at_call 33; refine (hF _).mono ?_; rintro e w8 ⟨rfl, b8⟩; (first | (have N8 := N7.step b8; have O8 := O7.step b8; have B8 := below_of b8 B7 B7.size) | (have N8 := N6.step b8; have O8 := O6.step b8; have B8 := below_of b8 B6 B6.size)); have UN8 := N8; have UO8 := O8; unfold Pc at UN8 UO8)
      | (go_at_call 34; with_reducible refine (hN1 _).mono ?_; rintro e w9 ⟨rfl, hw9⟩; subst hw9)
      | (go_at_call 34; with_reducible refine (hN2 _).mono ?_; rintro e w9 ⟨rfl, hw9⟩; subst hw9))
    go_ret
    exact ⟨rfl, B8⟩


/-- PageTells, every input. -/
theorem tells_walk (k i t : Int) (bd b : ByteArray) (own : Bool) (w : World) (hz : bd.size ≤ maxLen) (hz2 : b.size ≤ maxLen) :
    Calls Try.prog 5 #[pageV k i t bd, .string b, .bool own] w fun e w' => e = .returned (.bool true) ∧ Below w.heap.size w w' := by
  unfold maxLen at hz hz2
  by_cases h : 1000 < bd.size ∨ 1000 < b.size
  · exact tells_big k i t bd b own w h hz hz2
  · cases own
    · exact tells_plain k i t bd b w (by omega) (by omega)
    · exact tells_own k i t bd b w (by omega) (by omega)
end Go.Proofs.Ytejmpfmkaiaklaa
