/-
  The document's message, laid, or why not. Conditions: entries whose commands memory holds.
-/
import Derived.Test.YtgigkekajdgngaaGreatPostD
import Derived.Test.YtgigkekajdgngaaGreatRefCmdB
namespace Go.Proofs.YtgigkekajdgngaaGreat
open Go Go.RowKit
attribute [local go_sem] cell_set_if

/-- May the first k numbers be? -/
def numsOk (zs : List Int) : Bool := zs.all fun z => decide (0 ≤ z) && decide (z < 2147483648)
def numsW (zs : List Int) : List UInt8 := zs.flatMap fun z => lowB (IntKind.u64.wrap z).toNat 4
theorem wrap_lt (z : Int) : 0 ≤ IntKind.u64.wrap z ∧ IntKind.u64.wrap z < 18446744073709551616 := by
  simp [IntKind.wrap, IntKind.bits, IntKind.signed]; omega
theorem numsW_len (zs : List Int) : (numsW zs).length = zs.length * 4 := by
  induction zs with
  | nil => rfl
  | cons z zs ih => show (lowB _ 4 ++ numsW zs).length = _; rw [List.length_append, ih, lowB_len, List.length_cons]; omega
theorem numsW_take {zs : List Int} {k : Nat} {z : Int} (h : zs[k]? = some z) : numsW (zs.take (k + 1)) = numsW (zs.take k) ++ lowB (IntKind.u64.wrap z).toNat 4 := by
  unfold numsW; rw [List.take_add_one, h, List.flatMap_append]; simp
theorem numsOk_take {zs : List Int} {k : Nat} {z : Int} (h : zs[k]? = some z) : numsOk (zs.take (k + 1)) = (numsOk (zs.take k) && (decide (0 ≤ z) && decide (z < 2147483648))) := by
  unfold numsOk; rw [List.take_add_one, h, List.all_append]; simp
theorem numsW_ok {zs : List Int} (h : numsOk zs = true) : numsW zs = numsB (zs.map Int.toNat) := by
  induction zs with
  | nil => rfl
  | cons z zs ih =>
    unfold numsOk at h
    simp only [List.all_cons, Bool.and_eq_true, decide_eq_true_eq] at h
    show lowB _ 4 ++ numsW zs = lowB z.toNat 4 ++ numsB (zs.map Int.toNat)
    rw [ih (by unfold numsOk; simpa using h.2), show IntKind.u64.wrap z = z by (simp [IntKind.wrap, IntKind.bits, IntKind.signed]; omega)]
/-- The document's first test. -/
def firstOk (m : Ms) : Bool := decide (1 ≤ m.kind) && decide (m.kind ≤ 9) && decide (m.txt.size ≤ 1000) && decide (m.es.length ≤ 4)
theorem bad_ref (m : Ms) : m.bad = !(firstOk m && numsOk m.nums) := by
  rw [Bool.eq_iff_iff]
  unfold Ms.bad firstOk numsOk
  simp only [Bool.or_eq_true, decide_eq_true_eq, List.any_eq_true, Bool.not_eq_true', Bool.and_eq_false_iff, decide_eq_false_iff_not, List.all_eq_false, Bool.and_eq_true, not_and]
  constructor
  · rintro (((((h | h) | h) | h) | ⟨z, hz, h⟩) | ⟨z, hz, h⟩)
    · exact .inl (.inl (.inl (.inl (by omega))))
    · exact .inl (.inl (.inl (.inr (by omega))))
    · exact .inl (.inl (.inr (by omega)))
    · exact .inl (.inr (by omega))
    · exact .inr ⟨z, hz, fun h2 => by omega⟩
    · exact .inr ⟨z, hz, fun h2 => by omega⟩
  · rintro ((((h | h) | h) | h) | ⟨z, hz, h⟩)
    · exact .inl (.inl (.inl (.inl (.inl (by omega)))))
    · exact .inl (.inl (.inl (.inl (.inr (by omega)))))
    · exact .inl (.inl (.inl (.inr (by omega))))
    · exact .inl (.inl (.inr (by omega)))
    · by_cases h0 : z < 0
      · exact .inl (.inr ⟨z, hz, h0⟩)
      · exact .inr ⟨z, hz, by have := h (by omega); omega⟩
theorem rtext_w (t : ByteArray) (h : t.size ≤ 65535) : ∃ K : ByteArray, bts K = textB t ∧ K.size = t.size + 2 ∧ ∀ w, Calls Tryz.prog 34 #[.string t] w fun e w' => e = .returned (.tuple #[.string K, .bool true]) ∧ Below w.heap.size w w' :=
  ⟨bs (textB t), bts_bs _, by rw [bs_size, textB_len], fun w => (rtext_yes t w h).mono fun e w' ⟨⟨T, hT, he⟩, hb⟩ => ⟨by rw [he]; have : T = bs (textB t) := bts_inj (by rw [hT, bts_bs]; rfl); rw [this], hb⟩⟩
set_option maxRecDepth 100000 in
set_option maxHeartbeats 16000000 in
theorem rlayM_any (m : Ms) (A : Option Addr) (n cp : Nat) (w : World) (hR : Rd w A (flatEn m.es)) (hN : m.es.length = n) (hm : n ≤ maxLen) (hz : m.txt.size ≤ maxLen) (hL : ∀ x ∈ m.es, x.lies w) :
    Calls Tryz.prog 9 #[m.v A n cp] w fun e w' => e = .returned (.tuple #[.string (layM m).1, .int .i64 (layM m).2]) ∧ Below w.heap.size w w' := by
  have hni : (n : Int) ≤ 9223372036854775807 := by unfold maxLen at hm; omega
  have hti : (m.txt.size : Int) ≤ 9223372036854775807 := by unfold maxLen at hz; omega
  have hbr := bad_ref m
  obtain ⟨T9, hT9⟩ : ∃ T9, T9 = layM m := ⟨_, rfl⟩
  rw [← hT9]
  have hT92 : T9 = if m.bad || !entsOk m.es then (⟨#[]⟩, 1) else (sealB (bs m.body), 0) := by rw [hT9]; rfl
  have hbody : m.body = headM m.kind.toNat (m.nums.map Int.toNat) m.ok m.txt n ++ entsB m.es := by unfold Ms.body; rw [hN]
  obtain ⟨f0, hf0⟩ : ∃ f0, f0 = firstOk m := ⟨_, rfl⟩
  obtain ⟨kind, a, b, c, d, r, ok, txt, es⟩ := m
  unfold Ms.nums at hbr hbody
  simp only [] at hR hN hz hL hti hT92 hbody hbr
  have hfe : f0 = (decide (1 ≤ kind) && decide (kind ≤ 9) && decide ((txt.size : Int) ≤ 1000) && decide ((n : Int) ≤ 4)) := by
    rw [hf0, Bool.eq_iff_iff]
    unfold firstOk
    simp only [hN, Bool.and_eq_true, decide_eq_true_eq]
    omega
  rw [← hf0] at hbr
  rw [hbr, hbody] at hT92
  obtain ⟨zs, hzs⟩ : ∃ zs, zs = [a, b, c, d, r] := ⟨_, rfl⟩
  have hzl : zs.length = 5 := by rw [hzs]; rfl
  have HER := Lib.hid hR
  have HEN := Lib.hid hN
  have HEL := Lib.hid hL
  have HT9 := Lib.hid hT92
  have HZS := Lib.hid hzs
  have HZL := Lib.hid hzl
  have HFE := Lib.hid hfe
  clear hT9 hT92 hbody hbr hf0 hR hN hm hz hL hzs hzl hfe
  have ba : Below w.heap.size w (w.alloc (.cells #[.int .i64 kind, .int .i64 a, .int .i64 b, .int .i64 c, .int .i64 d, .int .i64 r, .bool ok, .string txt, .slice A n cp] 45)) := (Below.refl _ _).alloc (Nat.le_refl _) _
  have KM := Blk.new w 45 #[.int .i64 kind, .int .i64 a, .int .i64 b, .int .i64 c, .int .i64 d, .int .i64 r, .bool ok, .string txt, .slice A n cp]
  unfold Ms.v msgV
  simp only []
  go_enter Tryz.func9, Tryz.ntmps9
  go_upto_region 1 with fail
  obtain ⟨gm, hgm⟩ : ∃ gm, gm = w.heap.size := ⟨_, rfl⟩
  rw [← hgm] at KM ⊢
  generalize w.alloc (.cells #[.int .i64 kind, .int .i64 a, .int .i64 b, .int .i64 c, .int .i64 d, .int .i64 r, .bool ok, .string txt, .slice A n cp] 45) = W at ba KM ⊢
  clear hgm
  have m1 : W.cell? ⟨gm, 1, none⟩ = some (.int .i64 a) := KM.cell 1
  have m2 : W.cell? ⟨gm, 2, none⟩ = some (.int .i64 b) := KM.cell 2
  have m3 : W.cell? ⟨gm, 3, none⟩ = some (.int .i64 c) := KM.cell 3
  have m4 : W.cell? ⟨gm, 4, none⟩ = some (.int .i64 d) := KM.cell 4
  have m5 : W.cell? ⟨gm, 5, none⟩ = some (.int .i64 r) := KM.cell 5
  go_upto_region 2 with fail
  have ban : Below W.heap.size W (W.alloc (.cells #[.int .i64 a, .int .i64 b, .int .i64 c, .int .i64 d, .int .i64 r] 3)) := (Below.refl _ _).alloc (Nat.le_refl _) _
  have KM2 := KM.below ban
  have RNm : Rd (W.alloc (.cells #[.int .i64 a, .int .i64 b, .int .i64 c, .int .i64 d, .int .i64 r] 3)) (some ⟨W.heap.size, 0, none⟩) (flatZ [a, b, c, d, r]) := Rd.new W #[.int .i64 a, .int .i64 b, .int .i64 c, .int .i64 d, .int .i64 r] 3
  have BW := ba.trans (ban.mono ba.size)
  obtain ⟨gn, hgn⟩ : ∃ gn, gn = W.heap.size := ⟨_, rfl⟩
  rw [← hgn] at RNm ⊢
  generalize W.alloc (.cells #[.int .i64 a, .int .i64 b, .int .i64 c, .int .i64 d, .int .i64 r] 3) = V at KM2 RNm BW ⊢
  clear hgn m1 m2 m3 m4 m5 ba ban KM
  have m0 : V.cell? ⟨gm, 0, none⟩ = some (.int .i64 kind) := KM2.cell 0
  have m7 : V.cell? ⟨gm, 7, none⟩ = some (.string txt) := KM2.cell 7
  have m8 : V.cell? ⟨gm, 8, none⟩ = some (.slice A n cp) := KM2.cell 8
  have HKM := Lib.hid KM2
  have HRN : Hid (Rd V (some ⟨gn, 0, none⟩) (flatZ zs)) := by rw [HZS.out]; exact RNm
  have HBW := Lib.hid BW
  obtain ⟨K0, bK0, zK0, aK0⟩ := low_w (IntKind.u64.wrap kind).toNat 1 (by have := wrap_lt kind; omega) (by omega)
  have hk64 : (((IntKind.u64.wrap kind).toNat : Nat) : Int) = IntKind.u64.wrap kind := Int.toNat_of_nonneg (wrap_lt kind).1
  rw [hk64] at aK0
  have AK0 : Hid (∀ w, Calls Tryz.prog 23 #[.int .u64 (IntKind.u64.wrap kind), .int .i64 1] w fun e w' => e = .returned (.string K0) ∧ Below w.heap.size w w') := aK0
  have BK0 := Lib.hid bK0
  have ZK0 := Lib.hid zK0
  clear KM2 RNm BW aK0 bK0 zK0 hk64
  go_cut [5] from 25 to 44 (fun u5 wv => u5 = .bool f0 ∧ wv = V)
  case first =>
    have hfe := HFE.out
    clear HFE HRN HBW AK0 BK0 ZK0
    by_cases k0 : 1 ≤ kind
    case neg =>
      have d0 : decide (1 ≤ kind) = false := decide_eq_false k0
      rw [d0] at hfe
      simp only [Bool.false_and] at hfe
      subst hfe
      go_wp2_with fail
      all_goals go_meet
      all_goals exact ⟨rfl, rfl⟩
    have d0 : decide (1 ≤ kind) = true := decide_eq_true k0
    rw [d0] at hfe
    by_cases k1 : kind ≤ 9
    case neg =>
      have d1 : decide (kind ≤ 9) = false := decide_eq_false k1
      rw [d1] at hfe
      simp only [Bool.false_and, Bool.and_false] at hfe
      subst hfe
      go_wp2_with fail
      all_goals go_meet
      all_goals exact ⟨rfl, rfl⟩
    have d1 : decide (kind ≤ 9) = true := decide_eq_true k1
    rw [d1] at hfe
    by_cases k2 : (txt.size : Int) ≤ 1000
    case neg =>
      have d2 : decide ((txt.size : Int) ≤ 1000) = false := decide_eq_false k2
      rw [d2] at hfe
      simp only [Bool.false_and, Bool.and_false] at hfe
      subst hfe
      go_wp2_with fail
      all_goals go_meet
      all_goals exact ⟨rfl, rfl⟩
    have d2 : decide ((txt.size : Int) ≤ 1000) = true := decide_eq_true k2
    rw [d2] at hfe
    simp only [Bool.true_and] at hfe
    subst hfe
    go_wp2_with fail
    all_goals go_meet
    all_goals exact ⟨rfl, rfl⟩
  case rest =>
  obtain ⟨rfl, hv5⟩ := hcut
  obtain rfl := hv5.symm
  go_wp2_with (go_at_call 23; (with_reducible refine (AK0.out _).mono ?_); rintro e w2 ⟨rfl, b2⟩)
  have HB2 := Lib.hid b2
  clear b2 AK0
  go_loopw [5, 6, 7] (fun u5 u6 u7 wr => ∃ (k : Nat) (fk : Bool) (S : ByteArray), k ≤ 5 ∧ u5 = .bool fk ∧ u6 = .string S ∧ u7 = .int .i64 k ∧ Hid (fk = (f0 && numsOk (zs.take k))) ∧ Hid (bts S = lowB (IntKind.u64.wrap kind).toNat 1 ++ numsW (zs.take k)) ∧ Hid (Below V.heap.size V wr)) (fun _ _ u7 _ => 5 - (intOf u7).toNat)
  case atStart => exact ⟨0, f0, K0, by omega, rfl, rfl, rfl, by (unfold Hid; simp [numsOk]), by (unfold Hid; rw [BK0.out]; simp [numsW]), HB2.out⟩
  case round =>
    clear HB2
    obtain ⟨k, fk, S, hk5, rfl, rfl, rfl, HF, HS, HB⟩ := hrel
    have hSz : S.size ≤ 21 := by
      have h1 := congrArg List.length HS.out
      rw [bts_len, List.length_append, lowB_len, numsW_len, List.length_take] at h1
      omega
    by_cases hlt : k < 5
    · have hki : (k : Int) < 5 := by omega
      obtain ⟨b1, o1, z, e1, hbl, hx, d0⟩ := HRN.out.num (k := k) (by have := HZL.out; omega)
      injection e1 with e1
      injection e1 with e1 e2
      subst e1 e2
      rw [Nat.zero_add] at d0
      have d1 : wr.cell? ⟨gn, k, none⟩ = some (.int .i64 z) := (HB.out.cell (p := ⟨gn, k, none⟩) hbl).trans d0
      obtain ⟨L1, eL, zL, aL⟩ := low_w (IntKind.u64.wrap z).toNat 4 (by have := wrap_lt z; omega) (by omega)
      have hk64 : (((IntKind.u64.wrap z).toNat : Nat) : Int) = IntKind.u64.wrap z := Int.toNat_of_nonneg (wrap_lt z).1
      rw [hk64] at aL
      have AL : Hid (∀ w, Calls Tryz.prog 23 #[.int .u64 (IntKind.u64.wrap z), .int .i64 4] w fun e w' => e = .returned (.string L1) ∧ Below w.heap.size w w') := aL
      obtain ⟨P1, p1⟩ : ∃ F, S ++ L1 = F := ⟨_, rfl⟩
      have r1 : ¬ (9223372036854775807 < S.size + L1.size) := by omega
      have HNX : Hid (bts P1 = lowB (IntKind.u64.wrap kind).toNat 1 ++ numsW (zs.take (k + 1))) := by
        unfold Hid; rw [← p1, bts_append, HS.out, eL, numsW_take hx, List.append_assoc]
      have HFN := Lib.hid (numsOk_take hx)
      clear hx hbl d0 eL zL aL hk64 hSz
      cases fk
      · have HF2 : Hid (false = (f0 && numsOk (zs.take (k + 1)))) := by
          unfold Hid; rw [HFN.out, ← Bool.and_assoc, ← HF.out, Bool.false_and]
        go_wp2_with (go_at_call 23; (with_reducible refine (AL.out _).mono ?_); rintro e w3 ⟨rfl, b3⟩)
        go_roundw
        case rel => exact ⟨k + 1, false, P1, by omega, rfl, rfl, by go_num, HF2, HNX, HB.out.trans (b3.mono HB.out.size)⟩
        case measure => simp [intOf]; omega
      · by_cases z0 : 0 ≤ z
        · have e0 : decide (0 ≤ z) = true := decide_eq_true z0
          have HF2 : Hid (decide (z < 2147483648) = (f0 && numsOk (zs.take (k + 1)))) := by
            unfold Hid; rw [HFN.out, ← Bool.and_assoc, ← HF.out, e0, Bool.true_and, Bool.true_and]
          cases e9 : decide (z < 2147483648)
          · rw [e9] at HF2
            go_wp2_with (go_at_call 23; (with_reducible refine (AL.out _).mono ?_); rintro e w3 ⟨rfl, b3⟩)
            go_roundw
            case rel => exact ⟨k + 1, false, P1, by omega, rfl, rfl, by go_num, HF2, HNX, HB.out.trans (b3.mono HB.out.size)⟩
            case measure => simp [intOf]; omega
          · rw [e9] at HF2
            go_wp2_with (go_at_call 23; (with_reducible refine (AL.out _).mono ?_); rintro e w3 ⟨rfl, b3⟩)
            go_roundw
            case rel => exact ⟨k + 1, true, P1, by omega, rfl, rfl, by go_num, HF2, HNX, HB.out.trans (b3.mono HB.out.size)⟩
            case measure => simp [intOf]; omega
        · have e0 : decide (0 ≤ z) = false := decide_eq_false z0
          have HF2 : Hid (false = (f0 && numsOk (zs.take (k + 1)))) := by
            unfold Hid; rw [HFN.out, e0]; simp
          go_wp2_with (go_at_call 23; (with_reducible refine (AL.out _).mono ?_); rintro e w3 ⟨rfl, b3⟩)
          go_roundw
          case rel => exact ⟨k + 1, false, P1, by omega, rfl, rfl, by go_num, HF2, HNX, HB.out.trans (b3.mono HB.out.size)⟩
          case measure => simp [intOf]; omega
    · obtain rfl : k = 5 := by omega
      have hzt : zs.take 5 = zs := by rw [← HZL.out, List.take_length]
      have hF := HF.out
      have hS := HS.out
      rw [hzt] at hF hS
      have BB := HBW.out.trans (HB.out.mono HBW.out.size)
      cases fk
      · have hT : T9 = (⟨#[]⟩, 1) := by rw [HT9.out, ← HZS.out, ← hF]; rfl
        subst hT
        clear hF hS hzt
        go_wp2
        go_ret2
        exact ⟨rfl, BB⟩
      have hf0 : f0 = true := by
        cases f0
        · simp at hF
        · rfl
      have hno : numsOk zs = true := by rw [hf0, Bool.true_and] at hF; exact hF.symm
      have hfe := HFE.out
      rw [hf0] at hfe
      have hfe2 := hfe.symm
      simp only [Bool.and_eq_true, decide_eq_true_eq] at hfe2
      obtain ⟨⟨⟨g1, g2⟩, g3⟩, g4⟩ := hfe2
      have hkw : IntKind.u64.wrap kind = kind := by simp [IntKind.wrap, IntKind.bits, IntKind.signed]; omega
      rw [hkw, numsW_ok hno] at hS
      have hT9 := HT9.out
      rw [← HZS.out, ← hF] at hT9
      simp only [Bool.not_true, Bool.false_or] at hT9
      have HT := Lib.hid hT9
      have HS5 := Lib.hid hS
      have hgm := HKM.out.below HB.out
      have HKW := Lib.hid hgm
      have n6 : wr.cell? ⟨gm, 6, none⟩ = some (.bool ok) := hgm.cell 6
      have n7 : wr.cell? ⟨gm, 7, none⟩ = some (.string txt) := hgm.cell 7
      have n8 : wr.cell? ⟨gm, 8, none⟩ = some (.slice A n cp) := hgm.cell 8
      have HBB := Lib.hid BB
      have hn4 : n ≤ 4 := by omega
      obtain ⟨KT, eT, zT, aT⟩ := rtext_w txt (by omega)
      have AT := Lib.hid aT
      clear aT hfe hF hT9 hS hgm BB HF HS HT9 HFE hzt hno hkw hf0 m0 m7 m8
      cases ok
      · obtain ⟨L1, e1, z1, a1⟩ := low_w 0 1 (by omega) (by omega)
        obtain ⟨L2, e2, z2, a2⟩ := low_w n 1 (by omega) (by omega)
        obtain ⟨P1, p1⟩ : ∃ F, S ++ L1 = F := ⟨_, rfl⟩
        obtain ⟨P2, p2⟩ : ∃ F, P1 ++ KT = F := ⟨_, rfl⟩
        obtain ⟨P3, p3⟩ : ∃ F, P2 ++ L2 = F := ⟨_, rfl⟩
        have y1 : P1.size = S.size + 1 := by rw [← p1, ByteArray.size_append]; omega
        have y2 : P2.size = P1.size + (txt.size + 2) := by rw [← p2, ByteArray.size_append]; omega
        have y3 : P3.size = P2.size + 1 := by rw [← p3, ByteArray.size_append]; omega
        have r1 : ¬ (9223372036854775807 < S.size + L1.size) := by omega
        have r2 : ¬ (9223372036854775807 < P1.size + KT.size) := by omega
        have r3 : ¬ (9223372036854775807 < P2.size + L2.size) := by omega
        have hP3 : bts P3 = headM kind.toNat (zs.map Int.toNat) false txt n := by
          rw [← p3, ← p2, ← p1, bts_append, bts_append, bts_append, e1, e2, eT, HS5.out]
          unfold headM
          rfl
        have HP3 := Lib.hid hP3
        have hP3z : P3.size ≤ 1100 := by omega
        have A1 : Hid (∀ w, Calls Tryz.prog 23 #[.int .u64 0, .int .i64 1] w fun e w' => e = .returned (.string L1) ∧ Below w.heap.size w w') := a1
        have A2 : Hid (∀ w, Calls Tryz.prog 23 #[.int .u64 n, .int .i64 1] w fun e w' => e = .returned (.string L2) ∧ Below w.heap.size w w') := a2
        have u2 := wrap_nat n (by omega)
        have h4i : (n : Int) ≤ 4 := by omega
        clear e1 z1 a1 e2 z2 a2 y1 y2 y3 hP3
        go_upto_region 15 with (go_at_call 34; (with_reducible refine (AT.out _).mono ?_); rintro e w4 ⟨rfl, b4⟩)
        have HB4 := Lib.hid (HB.out.trans (b4.mono HB.out.size))
        have q8 : w4.cell? ⟨gm, 8, none⟩ = some (.slice A n cp) := (HKW.out.below b4).cell 8
        have q8 := NewM.cell q8
        clear n6 n7 n8 b4 HKW
        refine wp_region_quiet_new (by kernel_rfl) (by kernel_rfl) ?_
        repeat (go_big_quiet_step (first
          | (go_at_call 23; with_reducible exact NewM.call (A1.out _))
          | (go_at_call 23; with_reducible exact NewM.call (A2.out _))))
        refine wpQuiet_nil ?_
        rintro _ ⟨rr, rfl⟩
        have HB5 := Lib.hid (HB4.out.trans (rr.h.mono HB4.out.size))
        clear q8 A1 A2
        go_wp2
        go_loopw [2, 3, 6, 11, 12, 13] (fun u2 u3 u6 u11 _ _ wl => ∃ (j : Nat) (S : ByteArray), j ≤ n ∧ u2 = .string ⟨#[]⟩ ∧ u3 = .int .i64 0 ∧ u6 = .string S ∧ u11 = .int .i64 j ∧ Hid (∀ x ∈ es.take j, (layE x).2 = 0) ∧ Hid (bts S = headM kind.toNat (zs.map Int.toNat) false txt n ++ entsB (es.take j)) ∧ Hid (Below V.heap.size V wl)) (fun _ _ _ u11 _ _ _ => n - (intOf u11).toNat)
        case atStart => exact ⟨0, P3, by omega, rfl, rfl, rfl, rfl, fun x hx => absurd hx (by simp), by (unfold Hid; rw [HP3.out]; simp [entsB]), HB5.out⟩
        case round =>
          clear HB5 rr
          obtain ⟨j, Sj, hjn, rfl, rfl, rfl, rfl, HOK, HSJ, HBE⟩ := hrel
          have v8 : wr.cell? ⟨gm, 8, none⟩ = some (.slice A n cp) := (HKM.out.below HBE.out).cell 8
          have hSJz : Sj.size ≤ 1100 + 4 * 8010 := by
            have h1 := congrArg List.length HSJ.out
            have h2 := entsB_len (l := es.take j) HOK.out
            have h3 := congrArg List.length HP3.out
            rw [List.length_take] at h2
            rw [bts_len, List.length_append, ← h3, bts_len] at h1
            omega
          by_cases hjl : j < n
          · have hji : (j : Int) < (n : Int) := by omega
            have hBall : Below w.heap.size w wr := HBW.out.trans (HBE.out.mono HBW.out.size)
            obtain ⟨b1, o1, x, rfl, hbl, hx, d0, d1, d2, d3, d4⟩ := (HER.out.below hBall).en (k := j) (by have := HEN.out; omega)
            have hxl := (HEL.out x (List.mem_of_getElem? hx)).below hBall
            have hen := rentry_any x wr hxl.1 hxl.2.1 hxl.2.2.1 hxl.2.2.2
            have HSX := Lib.hid (entsB_take es j x hx)
            have HX := Lib.hid hx
            unfold En.v at hen
            obtain ⟨T, hT⟩ : ∃ T, T = (layE x).1 := ⟨_, rfl⟩
            obtain ⟨q, hq⟩ : ∃ q, q = (layE x).2 := ⟨_, rfl⟩
            rw [← hT, ← hq] at hen
            have HTX := Lib.hid hT
            have HQX := Lib.hid hq
            have HEN2 := Lib.hid hen
            clear hx hbl hBall hxl hT hq hen
            by_cases hq0 : q = 0
            · subst hq0
              have hsz : T.size ≤ 8008 := by rw [HTX.out]; exact layE_size HQX.out.symm
              obtain ⟨KE, eE, zE, aE⟩ := rtext_w T (by omega)
              obtain ⟨P5, p5⟩ : ∃ F, Sj ++ KE = F := ⟨_, rfl⟩
              have r5 : ¬ (9223372036854775807 < Sj.size + KE.size) := by omega
              have HNX : Hid (bts P5 = headM kind.toNat (zs.map Int.toNat) false txt n ++ entsB (es.take (j + 1))) := by
                unfold Hid; rw [← p5, bts_append, HSJ.out, eE, HSX.out, HTX.out, List.append_assoc]
              have HOK2 : Hid (∀ y ∈ es.take (j + 1), (layE y).2 = 0) := fun y hy => by
                rw [List.take_add_one, HX.out] at hy
                rcases List.mem_append.1 hy with h | h
                · exact HOK.out y h
                · have h' : y = x := by simpa using h
                  rw [h']; exact HQX.out.symm
              have AE := Lib.hid aE
              clear aE eE zE
              go_wp2_with (first
                | (go_at_call 35; (with_reducible refine HEN2.out.mono ?_); rintro e w8 ⟨rfl, b8⟩)
                | (go_at_call 34; (with_reducible refine (AE.out _).mono ?_); rintro e w9 ⟨rfl, b9⟩))
              go_roundw
              case rel => exact ⟨j + 1, P5, by omega, rfl, rfl, rfl, by go_num, HOK2, HNX, (HBE.out.trans (b8.mono HBE.out.size)).trans (b9.mono (by have := HBE.out.size; have := b8.size; omega))⟩
              case measure => simp [intOf]; omega
            · have hbq : (q != 0) = true := by simpa using hq0
              have hno : entsOk es = false := entsOk_bad HX.out (by rw [← HQX.out]; exact hq0)
              have hT9 : T9 = (⟨#[]⟩, 1) := by rw [HT.out, hno]; rfl
              subst hT9
              clear hno
              go_wp2_with (go_at_call 35; (with_reducible refine HEN2.out.mono ?_); rintro e w8 ⟨rfl, b8⟩)
              go_ret2
              have B8 := HBE.out.trans (b8.mono HBE.out.size)
              exact ⟨rfl, HBW.out.trans (B8.mono HBW.out.size)⟩
          · obtain rfl : j = n := by omega
            have hes : es.take j = es := by rw [← HEN.out, List.take_length]
            have hSJ := HSJ.out
            have hOK := HOK.out
            rw [hes] at hSJ hOK
            have hseal := refseal_any Sj wr (by omega)
            have hST : bs (headM kind.toNat (zs.map Int.toNat) false txt j ++ entsB es) = Sj := by rw [← hSJ, bs_bts]
            have hT9 : T9 = (sealB Sj, 0) := by rw [HT.out, entsOk_iff.2 hOK, hST]; rfl
            subst hT9
            have HSE := Lib.hid hseal
            clear hes hSJ hOK hseal hST
            go_wp2_with (go_at_call 6; (with_reducible refine HSE.out.mono ?_); rintro e w7 ⟨rfl, b7⟩)
            go_ret2
            have BV := HBW.out.trans (HBE.out.mono HBW.out.size)
            exact ⟨rfl, BV.trans (b7.mono BV.size)⟩
      · obtain ⟨L1, e1, z1, a1⟩ := low_w 1 1 (by omega) (by omega)
        obtain ⟨L2, e2, z2, a2⟩ := low_w n 1 (by omega) (by omega)
        obtain ⟨P1, p1⟩ : ∃ F, S ++ L1 = F := ⟨_, rfl⟩
        obtain ⟨P2, p2⟩ : ∃ F, P1 ++ KT = F := ⟨_, rfl⟩
        obtain ⟨P3, p3⟩ : ∃ F, P2 ++ L2 = F := ⟨_, rfl⟩
        have y1 : P1.size = S.size + 1 := by rw [← p1, ByteArray.size_append]; omega
        have y2 : P2.size = P1.size + (txt.size + 2) := by rw [← p2, ByteArray.size_append]; omega
        have y3 : P3.size = P2.size + 1 := by rw [← p3, ByteArray.size_append]; omega
        have r1 : ¬ (9223372036854775807 < S.size + L1.size) := by omega
        have r2 : ¬ (9223372036854775807 < P1.size + KT.size) := by omega
        have r3 : ¬ (9223372036854775807 < P2.size + L2.size) := by omega
        have hP3 : bts P3 = headM kind.toNat (zs.map Int.toNat) true txt n := by
          rw [← p3, ← p2, ← p1, bts_append, bts_append, bts_append, e1, e2, eT, HS5.out]
          unfold headM
          rfl
        have HP3 := Lib.hid hP3
        have hP3z : P3.size ≤ 1100 := by omega
        have A1 : Hid (∀ w, Calls Tryz.prog 23 #[.int .u64 1, .int .i64 1] w fun e w' => e = .returned (.string L1) ∧ Below w.heap.size w w') := a1
        have A2 : Hid (∀ w, Calls Tryz.prog 23 #[.int .u64 n, .int .i64 1] w fun e w' => e = .returned (.string L2) ∧ Below w.heap.size w w') := a2
        have u2 := wrap_nat n (by omega)
        have h4i : (n : Int) ≤ 4 := by omega
        clear e1 z1 a1 e2 z2 a2 y1 y2 y3 hP3
        go_upto_region 15 with (go_at_call 34; (with_reducible refine (AT.out _).mono ?_); rintro e w4 ⟨rfl, b4⟩)
        have HB4 := Lib.hid (HB.out.trans (b4.mono HB.out.size))
        have q8 : w4.cell? ⟨gm, 8, none⟩ = some (.slice A n cp) := (HKW.out.below b4).cell 8
        have q8 := NewM.cell q8
        clear n6 n7 n8 b4 HKW
        refine wp_region_quiet_new (by kernel_rfl) (by kernel_rfl) ?_
        repeat (go_big_quiet_step (first
          | (go_at_call 23; with_reducible exact NewM.call (A1.out _))
          | (go_at_call 23; with_reducible exact NewM.call (A2.out _))))
        refine wpQuiet_nil ?_
        rintro _ ⟨rr, rfl⟩
        have HB5 := Lib.hid (HB4.out.trans (rr.h.mono HB4.out.size))
        clear q8 A1 A2
        go_wp2
        go_loopw [2, 3, 6, 11, 12, 13] (fun u2 u3 u6 u11 _ _ wl => ∃ (j : Nat) (S : ByteArray), j ≤ n ∧ u2 = .string ⟨#[]⟩ ∧ u3 = .int .i64 0 ∧ u6 = .string S ∧ u11 = .int .i64 j ∧ Hid (∀ x ∈ es.take j, (layE x).2 = 0) ∧ Hid (bts S = headM kind.toNat (zs.map Int.toNat) true txt n ++ entsB (es.take j)) ∧ Hid (Below V.heap.size V wl)) (fun _ _ _ u11 _ _ _ => n - (intOf u11).toNat)
        case atStart => exact ⟨0, P3, by omega, rfl, rfl, rfl, rfl, fun x hx => absurd hx (by simp), by (unfold Hid; rw [HP3.out]; simp [entsB]), HB5.out⟩
        case round =>
          clear HB5 rr
          obtain ⟨j, Sj, hjn, rfl, rfl, rfl, rfl, HOK, HSJ, HBE⟩ := hrel
          have v8 : wr.cell? ⟨gm, 8, none⟩ = some (.slice A n cp) := (HKM.out.below HBE.out).cell 8
          have hSJz : Sj.size ≤ 1100 + 4 * 8010 := by
            have h1 := congrArg List.length HSJ.out
            have h2 := entsB_len (l := es.take j) HOK.out
            have h3 := congrArg List.length HP3.out
            rw [List.length_take] at h2
            rw [bts_len, List.length_append, ← h3, bts_len] at h1
            omega
          by_cases hjl : j < n
          · have hji : (j : Int) < (n : Int) := by omega
            have hBall : Below w.heap.size w wr := HBW.out.trans (HBE.out.mono HBW.out.size)
            obtain ⟨b1, o1, x, rfl, hbl, hx, d0, d1, d2, d3, d4⟩ := (HER.out.below hBall).en (k := j) (by have := HEN.out; omega)
            have hxl := (HEL.out x (List.mem_of_getElem? hx)).below hBall
            have hen := rentry_any x wr hxl.1 hxl.2.1 hxl.2.2.1 hxl.2.2.2
            have HSX := Lib.hid (entsB_take es j x hx)
            have HX := Lib.hid hx
            unfold En.v at hen
            obtain ⟨T, hT⟩ : ∃ T, T = (layE x).1 := ⟨_, rfl⟩
            obtain ⟨q, hq⟩ : ∃ q, q = (layE x).2 := ⟨_, rfl⟩
            rw [← hT, ← hq] at hen
            have HTX := Lib.hid hT
            have HQX := Lib.hid hq
            have HEN2 := Lib.hid hen
            clear hx hbl hBall hxl hT hq hen
            by_cases hq0 : q = 0
            · subst hq0
              have hsz : T.size ≤ 8008 := by rw [HTX.out]; exact layE_size HQX.out.symm
              obtain ⟨KE, eE, zE, aE⟩ := rtext_w T (by omega)
              obtain ⟨P5, p5⟩ : ∃ F, Sj ++ KE = F := ⟨_, rfl⟩
              have r5 : ¬ (9223372036854775807 < Sj.size + KE.size) := by omega
              have HNX : Hid (bts P5 = headM kind.toNat (zs.map Int.toNat) true txt n ++ entsB (es.take (j + 1))) := by
                unfold Hid; rw [← p5, bts_append, HSJ.out, eE, HSX.out, HTX.out, List.append_assoc]
              have HOK2 : Hid (∀ y ∈ es.take (j + 1), (layE y).2 = 0) := fun y hy => by
                rw [List.take_add_one, HX.out] at hy
                rcases List.mem_append.1 hy with h | h
                · exact HOK.out y h
                · have h' : y = x := by simpa using h
                  rw [h']; exact HQX.out.symm
              have AE := Lib.hid aE
              clear aE eE zE
              go_wp2_with (first
                | (go_at_call 35; (with_reducible refine HEN2.out.mono ?_); rintro e w8 ⟨rfl, b8⟩)
                | (go_at_call 34; (with_reducible refine (AE.out _).mono ?_); rintro e w9 ⟨rfl, b9⟩))
              go_roundw
              case rel => exact ⟨j + 1, P5, by omega, rfl, rfl, rfl, by go_num, HOK2, HNX, (HBE.out.trans (b8.mono HBE.out.size)).trans (b9.mono (by have := HBE.out.size; have := b8.size; omega))⟩
              case measure => simp [intOf]; omega
            · have hbq : (q != 0) = true := by simpa using hq0
              have hno : entsOk es = false := entsOk_bad HX.out (by rw [← HQX.out]; exact hq0)
              have hT9 : T9 = (⟨#[]⟩, 1) := by rw [HT.out, hno]; rfl
              subst hT9
              clear hno
              go_wp2_with (go_at_call 35; (with_reducible refine HEN2.out.mono ?_); rintro e w8 ⟨rfl, b8⟩)
              go_ret2
              have B8 := HBE.out.trans (b8.mono HBE.out.size)
              exact ⟨rfl, HBW.out.trans (B8.mono HBW.out.size)⟩
          · obtain rfl : j = n := by omega
            have hes : es.take j = es := by rw [← HEN.out, List.take_length]
            have hSJ := HSJ.out
            have hOK := HOK.out
            rw [hes] at hSJ hOK
            have hseal := refseal_any Sj wr (by omega)
            have hST : bs (headM kind.toNat (zs.map Int.toNat) true txt j ++ entsB es) = Sj := by rw [← hSJ, bs_bts]
            have hT9 : T9 = (sealB Sj, 0) := by rw [HT.out, entsOk_iff.2 hOK, hST]; rfl
            subst hT9
            have HSE := Lib.hid hseal
            clear hes hSJ hOK hseal hST
            go_wp2_with (go_at_call 6; (with_reducible refine HSE.out.mono ?_); rintro e w7 ⟨rfl, b7⟩)
            go_ret2
            have BV := HBW.out.trans (HBE.out.mono HBW.out.size)
            exact ⟨rfl, BV.trans (b7.mono BV.size)⟩
end Go.Proofs.YtgigkekajdgngaaGreat
