/-
  A message laid, or why not. Conditions: entries whose commands memory holds.
-/
import Derived.Test.YtgigkekajdgngaaGreatMsgQ
import Derived.Test.YtgigkekajdgngaaGreatCmdD
namespace Go.Proofs.YtgigkekajdgngaaGreat
open Go Go.RowKit
attribute [local go_sem] cell_set_if

/-- An entry whose commands lie in memory. -/
def En.lies (w : World) (x : En) : Prop := Rd w x.A (flatCm x.cmds) ∧ x.cmds.length = x.n ∧ x.n ≤ maxLen ∧ ∀ y ∈ x.cmds, y.short
theorem En.lies.below {w w' : World} {x : En} (h : x.lies w) (b : Below w.heap.size w w') : x.lies w' := ⟨h.1.below b, h.2⟩
def Ms.v (m : Ms) (A : Option Addr) (n c : Nat) : Value := msgV m.kind m.a m.b m.c m.d m.r m.ok m.txt (.slice A n c)
theorem badM_snd {m : Ms} (h : m.bad = true) : layM m = (⟨#[]⟩, 1) := by unfold layM; rw [h]; rfl
set_option maxRecDepth 100000 in
set_option maxHeartbeats 8000000 in
theorem laybad_any (kind a b c d r : Int) (ok : Bool) (txt : ByteArray) (A : Option Addr) (n cp : Nat) (es : List En) (w : World) (hn : es.length = n) (hm : n ≤ maxLen) (hz : txt.size ≤ maxLen) (hbad : (⟨kind, a, b, c, d, r, ok, txt, es⟩ : Ms).bad = true) :
    Calls Tryz.prog 8 #[msgV kind a b c d r ok txt (.slice A n cp)] w fun e w' => e = .returned (.tuple #[.string ⟨#[]⟩, .int .i64 1]) ∧ Below w.heap.size w w' := by
  have hni : (n : Int) ≤ 9223372036854775807 := by unfold maxLen at hm; omega
  have hti : (txt.size : Int) ≤ 9223372036854775807 := by unfold maxLen at hz; omega
  have ba : Below w.heap.size w (w.alloc (.cells #[.int .i64 kind, .int .i64 a, .int .i64 b, .int .i64 c, .int .i64 d, .int .i64 r, .bool ok, .string txt, .slice A n cp] 24)) := (Below.refl _ _).alloc (Nat.le_refl _) _
  have KM := Blk.new w 24 #[.int .i64 kind, .int .i64 a, .int .i64 b, .int .i64 c, .int .i64 d, .int .i64 r, .bool ok, .string txt, .slice A n cp]
  unfold Ms.bad Ms.nums at hbad
  simp only [hn] at hbad
  clear hm hz hn
  have HBD := Lib.hid hbad
  clear hbad
  unfold msgV
  go_enter Tryz.func8, Tryz.ntmps8
  go_upto_region 1 with fail
  obtain ⟨gm, hgm⟩ : ∃ gm, gm = w.heap.size := ⟨_, rfl⟩
  rw [← hgm] at KM ⊢
  generalize w.alloc (.cells #[.int .i64 kind, .int .i64 a, .int .i64 b, .int .i64 c, .int .i64 d, .int .i64 r, .bool ok, .string txt, .slice A n cp] 24) = W at ba KM ⊢
  have HGM := Lib.hid hgm
  clear hgm
  have m1 : W.cell? ⟨gm, 1, none⟩ = some (.int .i64 a) := KM.cell 1
  have m2 : W.cell? ⟨gm, 2, none⟩ = some (.int .i64 b) := KM.cell 2
  have m3 : W.cell? ⟨gm, 3, none⟩ = some (.int .i64 c) := KM.cell 3
  have m4 : W.cell? ⟨gm, 4, none⟩ = some (.int .i64 d) := KM.cell 4
  have m5 : W.cell? ⟨gm, 5, none⟩ = some (.int .i64 r) := KM.cell 5
  go_upto_region 2 with fail
  have KN := Blk.new W 3 #[.int .i64 a, .int .i64 b, .int .i64 c, .int .i64 d, .int .i64 r]
  have ban : Below W.heap.size W (W.alloc (.cells #[.int .i64 a, .int .i64 b, .int .i64 c, .int .i64 d, .int .i64 r] 3)) := (Below.refl _ _).alloc (Nat.le_refl _) _
  have KM2 := KM.below ban
  have RNm : Rd (W.alloc (.cells #[.int .i64 a, .int .i64 b, .int .i64 c, .int .i64 d, .int .i64 r] 3)) (some ⟨W.heap.size, 0, none⟩) (flatZ [a, b, c, d, r]) := Rd.new W #[.int .i64 a, .int .i64 b, .int .i64 c, .int .i64 d, .int .i64 r] 3
  have BW := ba.trans (ban.mono ba.size)
  obtain ⟨gn, hgn⟩ : ∃ gn, gn = W.heap.size := ⟨_, rfl⟩
  rw [← hgn] at KN RNm ⊢
  generalize W.alloc (.cells #[.int .i64 a, .int .i64 b, .int .i64 c, .int .i64 d, .int .i64 r] 3) = V at KN KM2 RNm BW ⊢
  have HGN := Lib.hid hgn
  clear hgn m1 m2 m3 m4 m5 ba ban KM
  have m0 : V.cell? ⟨gm, 0, none⟩ = some (.int .i64 kind) := KM2.cell 0
  have m7 : V.cell? ⟨gm, 7, none⟩ = some (.string txt) := KM2.cell 7
  have m8 : V.cell? ⟨gm, 8, none⟩ = some (.slice A n cp) := KM2.cell 8
  have HMI := Lib.hid (smin_any gn 5 5 [a, b, c, d, r] V RNm rfl (by omega) (by omega))
  have HMA := Lib.hid (smax_any gn 5 5 [a, b, c, d, r] V RNm rfl (by omega) (by omega))
  clear KN KM2 RNm
  by_cases k1 : kind < 1
  · have d1 : decide (kind < 1) = true := decide_eq_true k1
    go_wp2
    go_ret2
    exact ⟨rfl, BW⟩
  have d1 : decide (kind < 1) = false := decide_eq_false k1
  by_cases k2 : 9 < kind
  · have d2 : decide (9 < kind) = true := decide_eq_true k2
    go_wp2
    go_ret2
    exact ⟨rfl, BW⟩
  have d2 : decide (9 < kind) = false := decide_eq_false k2
  by_cases k3 : 1000 < txt.size
  · have d3 : decide (1000 < (txt.size : Int)) = true := decide_eq_true (by omega)
    go_wp2
    go_ret2
    exact ⟨rfl, BW⟩
  have d3 : decide (1000 < (txt.size : Int)) = false := decide_eq_false (by omega)
  by_cases k4 : 4 < n
  · have d4 : decide (4 < (n : Int)) = true := decide_eq_true (by omega)
    go_wp2
    go_ret2
    exact ⟨rfl, BW⟩
  have d4 : decide (4 < (n : Int)) = false := decide_eq_false (by omega)
  have hb2 : ([a, b, c, d, r].any (fun z => decide (z < 0)) || [a, b, c, d, r].any (fun z => decide (2147483647 < z))) = true := by
    have := HBD.out
    rw [d1, d2, decide_eq_false k3, decide_eq_false k4] at this
    simpa only [Bool.false_or] using this
  have HB2 := Lib.hid hb2
  clear HBD hb2
  by_cases k5 : ∃ z ∈ [a, b, c, d, r], z < 0
  · have HMN : Hid (∀ m : Int, m ∈ [a, b, c, d, r] → (∀ x ∈ [a, b, c, d, r], m ≤ x) → decide (m < 0) = true) := fun m _ h => by
      obtain ⟨z, hz, h0⟩ := k5
      have := h z hz
      exact decide_eq_true (by omega)
    clear k5
    go_wp2_with (go_at_call 26; refine HMI.out.mono ?_; rintro e w1 ⟨⟨mn, rfl, hmm, hmx⟩, hw1⟩; obtain rfl := hw1.symm; have d5 := HMN.out mn hmm hmx)
    go_ret2
    exact ⟨rfl, BW⟩
  · have hk6 : ∃ z ∈ [a, b, c, d, r], 2147483647 < z := by
      have h := HB2.out
      rw [Bool.or_eq_true, List.any_eq_true, List.any_eq_true] at h
      rcases h with ⟨z, hz, h0⟩ | ⟨z, hz, h0⟩
      · exact absurd ⟨z, hz, of_decide_eq_true h0⟩ k5
      · exact ⟨z, hz, of_decide_eq_true h0⟩
    have HMN : Hid (∀ m : Int, m ∈ [a, b, c, d, r] → decide (m < 0) = false) := fun m hm => decide_eq_false fun h => k5 ⟨m, hm, h⟩
    have HMX : Hid (∀ m : Int, (∀ x ∈ [a, b, c, d, r], x ≤ m) → decide (2147483647 < m) = true) := fun m h => by
      obtain ⟨z, hz, h0⟩ := hk6
      have := h z hz
      exact decide_eq_true (by omega)
    clear k5 hk6
    go_wp2_with (first
      | (go_at_call 26; refine HMI.out.mono ?_; rintro e w1 ⟨⟨mn, rfl, hmm, _⟩, hw1⟩; obtain rfl := hw1.symm; have d5 := HMN.out mn hmm)
      | (go_at_call 27; refine HMA.out.mono ?_; rintro e w1 ⟨⟨mx, rfl, _, hmm⟩, hw1⟩; obtain rfl := hw1.symm; have d6 := HMX.out mx hmm))
    go_ret2
    exact ⟨rfl, BW⟩
set_option maxRecDepth 100000 in
set_option maxHeartbeats 8000000 in
theorem laygood_any (kind a b c d r : Nat) (ok : Bool) (txt : ByteArray) (A : Option Addr) (n cp : Nat) (es : List En) (w : World) (hk : 1 ≤ kind ∧ kind ≤ 9) (ha : a ≤ 2147483647) (hb : b ≤ 2147483647) (hc : c ≤ 2147483647) (hd : d ≤ 2147483647) (hr : r ≤ 2147483647) (ht : txt.size ≤ 1000) (hR : Rd w A (flatEn es)) (hN : es.length = n) (h4 : n ≤ 4) (hL : ∀ x ∈ es, x.lies w) :
    Calls Tryz.prog 8 #[msgV kind a b c d r ok txt (.slice A n cp)] w fun e w' => e = .returned (.tuple #[.string (if entsOk es then (sealB (bs (headM kind [a, b, c, d, r] ok txt n ++ entsB es)), (0 : Int)) else (⟨#[]⟩, 1)).1, .int .i64 (if entsOk es then (sealB (bs (headM kind [a, b, c, d, r] ok txt n ++ entsB es)), (0 : Int)) else (⟨#[]⟩, 1)).2]) ∧ Below w.heap.size w w' := by
  have HER := Lib.hid hR
  have HEN := Lib.hid hN
  have HEL := Lib.hid hL
  have h4i : (n : Int) ≤ 4 := by omega
  clear hR hN hL
  obtain ⟨ns, hns⟩ : ∃ ns, ns = [a, b, c, d, r] := ⟨_, rfl⟩
  have hz : ([(a : Int), b, c, d, r] : List Int) = ns.map (fun v : Nat => (v : Int)) := by rw [hns]; rfl
  have hnl : ns.length = 5 := by rw [hns]; rfl
  have hall : ∀ v ∈ ns, v ≤ 2147483647 := fun v hv => by
    rw [hns] at hv; simp at hv
    rcases hv with rfl | rfl | rfl | rfl | rfl <;> assumption
  have hmn : ∀ m : Int, m ∈ ([(a : Int), b, c, d, r] : List Int) → 0 ≤ m ∧ m ≤ 2147483647 := fun m hm => by
    rw [hz] at hm
    obtain ⟨v, hv, rfl⟩ := List.mem_map.1 hm
    have := hall v hv
    omega
  have HMN := Lib.hid hmn
  have HALL := Lib.hid hall
  have HNL := Lib.hid hnl
  have HZ := Lib.hid hz
  have hts : (txt.size : Int) ≤ 1000 := by omega
  have hk1 : 1 ≤ (kind : Int) := by omega
  have hk9 : (kind : Int) ≤ 9 := by omega
  rw [← hns]
  obtain ⟨S, hS⟩ : ∃ S, S = headM kind ns ok txt n := ⟨_, rfl⟩
  rw [← hS]
  obtain ⟨T9, hT9⟩ : ∃ T : ByteArray × Int, T = if entsOk es then (sealB (bs (S ++ entsB es)), 0) else (⟨#[]⟩, 1) := ⟨_, rfl⟩
  rw [← hT9]
  have HT9 := Lib.hid hT9
  clear hT9
  have HS := Lib.hid hS
  have hSl : S.length ≤ 2000 := by
    rw [hS]; unfold headM
    simp only [List.length_append, numsB_len, lowB_len, bts_len, hnl]; omega
  have HSL := Lib.hid hSl
  clear hmn hall hz hns hS hSl hnl
  have ba : Below w.heap.size w (w.alloc (.cells #[.int .i64 kind, .int .i64 a, .int .i64 b, .int .i64 c, .int .i64 d, .int .i64 r, .bool ok, .string txt, .slice A n cp] 24)) := (Below.refl _ _).alloc (Nat.le_refl _) _
  have KM := Blk.new w 24 #[.int .i64 kind, .int .i64 a, .int .i64 b, .int .i64 c, .int .i64 d, .int .i64 r, .bool ok, .string txt, .slice A n cp]
  unfold msgV
  go_enter Tryz.func8, Tryz.ntmps8
  go_upto_region 1 with fail
  obtain ⟨gm, hgm⟩ : ∃ gm, gm = w.heap.size := ⟨_, rfl⟩
  rw [← hgm] at KM ⊢
  generalize w.alloc (.cells #[.int .i64 kind, .int .i64 a, .int .i64 b, .int .i64 c, .int .i64 d, .int .i64 r, .bool ok, .string txt, .slice A n cp] 24) = W at ba KM ⊢
  have HGM := Lib.hid hgm
  clear hgm
  have m0 : W.cell? ⟨gm, 0, none⟩ = some (.int .i64 kind) := KM.cell 0
  have m1 : W.cell? ⟨gm, 1, none⟩ = some (.int .i64 a) := KM.cell 1
  have m2 : W.cell? ⟨gm, 2, none⟩ = some (.int .i64 b) := KM.cell 2
  have m3 : W.cell? ⟨gm, 3, none⟩ = some (.int .i64 c) := KM.cell 3
  have m4 : W.cell? ⟨gm, 4, none⟩ = some (.int .i64 d) := KM.cell 4
  have m5 : W.cell? ⟨gm, 5, none⟩ = some (.int .i64 r) := KM.cell 5
  go_upto_region 2 with fail
  have KN := Blk.new W 3 #[.int .i64 a, .int .i64 b, .int .i64 c, .int .i64 d, .int .i64 r]
  have ban : Below W.heap.size W (W.alloc (.cells #[.int .i64 a, .int .i64 b, .int .i64 c, .int .i64 d, .int .i64 r] 3)) := (Below.refl _ _).alloc (Nat.le_refl _) _
  have KM2 := KM.below ban
  have RNm : Rd (W.alloc (.cells #[.int .i64 a, .int .i64 b, .int .i64 c, .int .i64 d, .int .i64 r] 3)) (some ⟨W.heap.size, 0, none⟩) (flatZ [(a : Int), b, c, d, r]) := Rd.new W #[.int .i64 a, .int .i64 b, .int .i64 c, .int .i64 d, .int .i64 r] 3
  have BW := ba.trans (ban.mono ba.size)
  obtain ⟨gn, hgn⟩ : ∃ gn, gn = W.heap.size := ⟨_, rfl⟩
  rw [← hgn] at KN RNm ⊢
  generalize W.alloc (.cells #[.int .i64 a, .int .i64 b, .int .i64 c, .int .i64 d, .int .i64 r] 3) = V at KN KM2 RNm BW ⊢
  have HGN := Lib.hid hgn
  clear hgn
  clear m0 m1 m2 m3 m4 m5 ba ban KM
  have m0 : V.cell? ⟨gm, 0, none⟩ = some (.int .i64 kind) := KM2.cell 0
  have m7 : V.cell? ⟨gm, 7, none⟩ = some (.string txt) := KM2.cell 7
  have m8 : V.cell? ⟨gm, 8, none⟩ = some (.slice A n cp) := KM2.cell 8
  have HMI := Lib.hid (smin_any gn 5 5 [(a : Int), b, c, d, r] V RNm rfl (by omega) (by omega))
  have HMA := Lib.hid (smax_any gn 5 5 [(a : Int), b, c, d, r] V RNm rfl (by omega) (by omega))
  go_upto_region 4 with (first
    | (go_at_call 26; refine HMI.out.mono ?_; rintro e w1 ⟨⟨mn, rfl, hmm, _⟩, hw1⟩; obtain rfl := hw1.symm; have hmn0 := (HMN.out mn hmm).1)
    | (go_at_call 27; refine HMA.out.mono ?_; rintro e w1 ⟨⟨mx, rfl, hmm, _⟩, hw1⟩; obtain rfl := hw1.symm; have hmx0 := (HMN.out mx hmm).2))
  have hgmV := KM2.lt
  have HKM := Lib.hid KM2
  have HRN := Lib.hid RNm
  have HBW := Lib.hid BW
  have bap : Below V.heap.size V (V.alloc (.cells #[.slice none 0 0, .int .i64 0] 79)) := (Below.refl _ _).alloc (Nat.le_refl _) _
  have P0 : PutAt V.heap.size (V.alloc (.cells #[.slice none 0 0, .int .i64 0] 79)) V.heap.size [] := ⟨Nat.le_refl _, _, Blk.new _ _ _, World.ownsRow_nil _ _ _ _⟩
  have HPB := Lib.hid (pbyte_any V.heap.size V.heap.size [] kind _ P0 (by omega) (by simp))
  have HBP := Lib.hid bap
  clear KM2 RNm BW KN HMI HMA P0 bap m7 m8
  go_wp2_with (go_at_call 28; refine HPB.out.mono ?_; rintro e w2 ⟨rfl, P2, b2⟩)
  obtain ⟨gp, hgp⟩ : ∃ gp, gp = V.heap.size := ⟨_, rfl⟩
  have B2 : Below V.heap.size V w2 := HBP.out.trans b2
  rw [← hgp] at P2 B2 ⊢
  have HGP := Lib.hid hgp
  have HP2 := Lib.hid P2
  have HB2 := Lib.hid B2
  clear hgp P2 B2 b2 HPB HBP
  go_loopw [7, 63] (fun _ u63 wr => ∃ k : Nat, k ≤ 5 ∧ u63 = .int .i64 k ∧ Hid (PutAt gp wr gp (lowB kind 1 ++ numsB (ns.take k))) ∧ Hid (Below gp V wr)) (fun _ u63 _ => 5 - (intOf u63).toNat)
  case atStart => exact ⟨0, by omega, rfl, by (have e : numsB (ns.take 0) = [] := by simp [numsB]); rw [e, List.append_nil]; exact HP2.out, HB2.out⟩
  case round =>
    clear HP2 HB2
    obtain ⟨k, hk5, rfl, HP, HB⟩ := hrel
    by_cases hlt : k < 5
    · have hki : (k : Int) < 5 := by omega
      obtain ⟨b1, o1, x, e1, hbl, hx, d0⟩ := HRN.out.num (k := k) hlt
      injection e1 with e1
      injection e1 with e1 e2
      subst e1 e2
      rw [Nat.zero_add] at d0
      have d1 : wr.cell? ⟨gn, k, none⟩ = some (.int .i64 x) := (HB.out.cell (p := ⟨gn, k, none⟩) (by have := HGP.out; show gn < gp; omega)).trans d0
      rw [HZ.out, List.getElem?_map] at hx
      obtain ⟨v, hv⟩ : ∃ v, ns[k]? = some v := ⟨_, List.getElem?_eq_getElem (by have := HNL.out; omega)⟩
      rw [hv] at hx
      have hxv : x = (v : Int) := (Option.some.inj hx).symm
      subst hxv
      have hv2 := HALL.out v (List.mem_of_getElem? hv)
      have HW := Lib.hid (pword_any gp gp _ v wr HP.out (by omega) (by
        simp only [List.length_append, numsB_len, lowB_len, List.length_take]; omega))
      have HV := Lib.hid (numsB_take hv)
      clear hx hv hbl d0
      go_wp2_with (go_at_call 29; with_reducible refine HW.out.mono ?_; rintro e w3 ⟨rfl, P3, b3⟩; have HP3 := Lib.hid P3; have HB3 := Lib.hid (HB.out.trans b3))
      go_roundw
      case rel => exact ⟨k + 1, by omega, by go_num, by rw [HV.out, ← List.append_assoc]; exact HP3.out, HB3.out⟩
      case measure => simp [intOf]; omega
    · obtain rfl : k = 5 := by omega
      have ht5 : ns.take 5 = ns := by rw [← HNL.out, List.take_length]
      have hP := HP.out
      rw [ht5] at hP
      have HP := Lib.hid hP
      have hc : ∀ i, wr.cell? ⟨gm, i, none⟩ = V.cell? ⟨gm, i, none⟩ := fun i => HB.out.cell (p := ⟨gm, i, none⟩) (by have := HGP.out; have := HKM.out.lt; show gm < gp; omega)
      have m6 : wr.cell? ⟨gm, 6, none⟩ = some (.bool ok) := (hc 6).trans (HKM.out.cell 6)
      have m7 : wr.cell? ⟨gm, 7, none⟩ = some (.string txt) := (hc 7).trans (HKM.out.cell 7)
      have m8 : wr.cell? ⟨gm, 8, none⟩ = some (.slice A n cp) := (hc 8).trans (HKM.out.cell 8)
      have hmp : gm < gp := by have := HGP.out; have := HKM.out.lt; omega
      clear ht5 hP hlt hk5 m0 hc
      cases ok
      · have hP1 : PutAt gp wr.drew gp (lowB kind 1 ++ numsB ns) := HP.out.below (Below.refl _ _).drew
        have hC1 : Calls Tryz.prog 28 #[ptr gp, .int .i64 0] wr.drew fun e w' => e = .returned (ptr gp) ∧ PutAt gp w' gp (lowB kind 1 ++ numsB ns ++ lowB 0 1) ∧ Below gp wr.drew w' := pbyte_any gp gp _ 0 wr.drew hP1 (by omega) (by simp only [List.length_append, numsB_len, lowB_len, HNL.out]; omega)
        have HC1 := Lib.hid hC1
        have HBD : Hid (Below gp V wr.drew) := HB.out.drew
        clear hC1 hP1
        go_wp2
        go_region_held3 (fun W => W.cell? ⟨gm, 7, none⟩ = some (.string txt) ∧ W.cell? ⟨gm, 8, none⟩ = some (.slice A n cp)) (first | exact ⟨m7, m8⟩ | with_reducible assumption)
          (first
            | (go_at_call 28; with_reducible refine HC3.out.mono ?_; rintro e w5 ⟨rfl, P5, b5⟩
               have HP5 := Lib.hid P5
               have HB5 := Lib.hid (HB4.out.trans b5)
               have S5 : w5.cell? ⟨gm, 7, none⟩ = some (.string txt) ∧ w5.cell? ⟨gm, 8, none⟩ = some (.slice A n cp) := ⟨(b5.cell (p := ⟨gm, 7, none⟩) hmp).trans S4.1, (b5.cell (p := ⟨gm, 8, none⟩) hmp).trans S4.2⟩)
            | (go_at_call 30; with_reducible refine HC2.out.mono ?_; rintro e w4 ⟨rfl, P4, b4⟩
               have HB4 := Lib.hid (HB3.out.trans b4)
               have S4 : w4.cell? ⟨gm, 7, none⟩ = some (.string txt) ∧ w4.cell? ⟨gm, 8, none⟩ = some (.slice A n cp) := ⟨(b4.cell (p := ⟨gm, 7, none⟩) hmp).trans S3.1, (b4.cell (p := ⟨gm, 8, none⟩) hmp).trans S3.2⟩
               have hC3 : Calls Tryz.prog 28 #[ptr gp, .int .i64 n] w4 fun e w' => e = .returned (ptr gp) ∧ PutAt gp w' gp (lowB kind 1 ++ numsB ns ++ lowB 0 1 ++ (lowB txt.size 2 ++ bts txt) ++ lowB n 1) ∧ Below gp w4 w' := pbyte_any gp gp _ n w4 P4 (by omega) (by simp only [List.length_append, numsB_len, lowB_len, bts_len, HNL.out]; omega)
               have HC3 := Lib.hid hC3
               clear hC3)
            | (go_at_call 28; with_reducible refine HC1.out.mono ?_; rintro e w3 ⟨rfl, P3, b3⟩
               have HB3 := Lib.hid (HBD.out.trans b3)
               have S3 : w3.cell? ⟨gm, 7, none⟩ = some (.string txt) ∧ w3.cell? ⟨gm, 8, none⟩ = some (.slice A n cp) := ⟨(b3.cell (p := ⟨gm, 7, none⟩) hmp).trans m7, (b3.cell (p := ⟨gm, 8, none⟩) hmp).trans m8⟩
               have HC2 := Lib.hid (ptext_ok gp gp _ txt w3 P3 (by omega) (by simp only [List.length_append, numsB_len, lowB_len, HNL.out]; omega))))
        have s8 := S5.2
        have HSE : Hid (lowB kind 1 ++ numsB ns ++ lowB 0 1 ++ (lowB txt.size 2 ++ bts txt) ++ lowB n 1 = S) := HS.out.symm
        have hP5 := HP5.out
        rw [HSE.out] at hP5
        have HP6 := Lib.hid hP5
        have hgmV : gm < V.heap.size := HKM.out.lt
        have HGV : Hid (gp = V.heap.size) := HGP.out
        clear m6 m7 m8 hP5 S5 HP5
        go_wp2
        go_loopw [2, 3, 10, 11, 12, 86] (fun u2 u3 _ _ _ u86 wl => ∃ j : Nat, j ≤ n ∧ u2 = .string ⟨#[]⟩ ∧ u3 = .int .i64 0 ∧ u86 = .int .i64 j ∧ Hid (∀ x ∈ es.take j, (layE x).2 = 0) ∧ Hid (PutAt gp wl gp (S ++ entsB (es.take j))) ∧ Hid (Below gp V wl)) (fun _ _ _ _ _ u86 _ => n - (intOf u86).toNat)
        case atStart => exact ⟨0, by omega, rfl, rfl, rfl, fun x hx => absurd hx (by simp), by (have e : entsB (es.take 0) = [] := by simp [entsB]); rw [e, List.append_nil]; exact HP6.out, HB5.out⟩
        case round =>
          clear HP6 HB5
          obtain ⟨j, hjn, rfl, rfl, rfl, HOK, HPE, HBE⟩ := hrel
          by_cases hjl : j < n
          · have hji : (j : Int) < (n : Int) := by omega
            have hBV : Below V.heap.size V wr := by rw [← HGV.out]; exact HBE.out
            have hBall : Below w.heap.size w wr := HBW.out.trans (hBV.mono HBW.out.size)
            obtain ⟨b1, o1, x, rfl, hbl, hx, d0, d1, d2, d3, d4⟩ := (HER.out.below hBall).en (k := j) (by have := HEN.out; omega)
            have hxl := HEL.out x (List.mem_of_getElem? hx)
            have HSX := Lib.hid (entsB_take es j x hx)
            have HX := Lib.hid hx
            have bx : Below wr.heap.size wr (wr.alloc (.cells #[.int .i64 x.index, .int .i64 x.term, .int .i64 x.client, .int .i64 x.seq, .slice x.A x.n x.c] 61)) := (Below.refl _ _).alloc (Nat.le_refl _) _
            have X0 := Blk.new wr 61 #[.int .i64 x.index, .int .i64 x.term, .int .i64 x.client, .int .i64 x.seq, .slice x.A x.n x.c]
            have hxl2 := hxl.below (hBall.trans (bx.mono hBall.size))
            have hen := entry_any x _ hxl2.1 hxl2.2.1 hxl2.2.2.1 hxl2.2.2.2
            have PX := HPE.out.below bx
            have BX : Below gp V (wr.alloc (.cells #[.int .i64 x.index, .int .i64 x.term, .int .i64 x.client, .int .i64 x.seq, .slice x.A x.n x.c] 61)) := HBE.out.trans (bx.mono (by have := HPE.out.lt; omega))
            unfold En.v at hen
            obtain ⟨T, hT⟩ : ∃ T, T = (layE x).1 := ⟨_, rfl⟩
            obtain ⟨q, hq⟩ : ∃ q, q = (layE x).2 := ⟨_, rfl⟩
            rw [← hT, ← hq] at hen
            have HTX := Lib.hid hT
            have HQX := Lib.hid hq
            have HEN2 := Lib.hid hen
            clear hx hbl hBV hBall hxl hxl2 hT hq hen
            go_upto_region 17 with fail
            have x0 := X0.cell 0
            have x1 := X0.cell 1
            have x2 := X0.cell 2
            have x3 := X0.cell 3
            have x4 := X0.cell 4
            generalize wr.alloc (.cells #[.int .i64 x.index, .int .i64 x.term, .int .i64 x.client, .int .i64 x.seq, .slice x.A x.n x.c] 61) = Wx at bx X0 PX BX HEN2 x0 x1 x2 x3 x4 ⊢
            have HPX := Lib.hid PX
            have HBX := Lib.hid BX
            clear bx X0 PX BX HPE HBE
            by_cases hq0 : q = 0
            · subst hq0
              have hsz : T.size ≤ 8008 := by rw [HTX.out]; exact layE_size HQX.out.symm
              have hlen : (S ++ entsB (es.take j)).length ≤ 60000 := by
                have h1 := entsB_len (l := es.take j) HOK.out
                have h2 := HSL.out
                rw [List.length_take] at h1
                rw [List.length_append]; omega
              obtain ⟨Lj, hLj⟩ : ∃ L, L = S ++ entsB (es.take j) := ⟨_, rfl⟩
              rw [← hLj] at hlen HPX
              have HLJ := Lib.hid hLj
              clear hLj
              go_wp2_with (first
                | (go_at_call 31; (with_reducible refine HEN2.out.mono ?_); rintro e w8 ⟨rfl, b8⟩
                   have P8 := HPX.out.below b8
                   have B8 := HBX.out.trans (b8.mono (by have := HPX.out.lt; omega))
                   have HTE := Lib.hid (ptext_kk gp gp _ T w8 P8 (by omega) (by omega)))
                | (go_at_call 30; (with_reducible refine HTE.out.mono ?_); rintro e w9 ⟨rfl, P9, b9⟩
                   have HP9 := Lib.hid P9
                   have HB9 := Lib.hid (B8.trans b9.1)))
              have HEQ : Hid (Lj ++ textB T = S ++ entsB (es.take (j + 1))) := by
                unfold Hid; rw [HSX.out, HLJ.out, HTX.out, List.append_assoc]
              have HOK2 : Hid (∀ y ∈ es.take (j + 1), (layE y).2 = 0) := fun y hy => by
                rw [List.take_add_one, HX.out] at hy
                rcases List.mem_append.1 hy with h | h
                · exact HOK.out y h
                · have h' : y = x := by simpa using h
                  rw [h']; exact HQX.out.symm
              go_roundw
              case rel => exact ⟨j + 1, by omega, rfl, rfl, by go_num, HOK2, by rw [← HEQ.out]; exact HP9.out, HB9.out⟩
              case measure => simp [intOf]; omega
            · have hbq : (q != 0) = true := by simpa using hq0
              have hno : entsOk es = false := entsOk_bad HX.out (by rw [← HQX.out]; exact hq0)
              have hT9 : T9 = (⟨#[]⟩, 1) := by rw [HT9.out, hno]; rfl
              subst hT9
              clear hno
              go_wp2_with (go_at_call 31; (with_reducible refine HEN2.out.mono ?_); rintro e w8 ⟨rfl, b8⟩
                           have B8 := HBX.out.trans (b8.mono (by have := HPX.out.lt; omega)))
              go_ret2
              exact ⟨rfl, HBW.out.trans (B8.mono (by have := HGV.out; have := HBW.out.size; omega))⟩
          · obtain rfl : j = n := by omega
            have hes : es.take j = es := by rw [← HEN.out, List.take_length]
            have hPE := HPE.out
            have hOK := HOK.out
            rw [hes] at hPE hOK
            have hel := entsB_len hOK
            have hsz : (S ++ entsB es).length ≤ 60000 := by
              have h2 := HSL.out
              have h3 := HEN.out
              rw [List.length_append]; omega
            have HE := Lib.hid (pend_any gp gp _ wr hPE)
            have HSL2 := Lib.hid (seal_any (bs (S ++ entsB es)) wr (by rw [bs_size]; omega))
            have hT9 : T9 = (sealB (bs (S ++ entsB es)), 0) := by rw [HT9.out, entsOk_iff.2 hOK]; rfl
            subst hT9
            obtain ⟨L9, hL9⟩ : ∃ L, L = S ++ entsB es := ⟨_, rfl⟩
            rw [← hL9] at HE HSL2
            have HL9 := Lib.hid hL9
            clear hPE hOK hes hel hsz hL9
            go_wp2_with (first
              | (go_at_call 32; with_reducible refine HE.out.mono ?_; rintro e w6 ⟨rfl, hw6⟩; obtain rfl := hw6.symm)
              | (go_at_call 33; with_reducible refine HSL2.out.mono ?_; rintro e w7 ⟨rfl, b7⟩))
            go_ret2
            have BV := HBW.out.trans (HBE.out.mono (by have := HGV.out; have := HBW.out.size; omega))
            exact ⟨by (rw [← HL9.out]) <;> rfl, BV.trans (b7.mono BV.size)⟩
      · have hP1 : PutAt gp wr.drew gp (lowB kind 1 ++ numsB ns) := HP.out.below (Below.refl _ _).drew
        have hC1 : Calls Tryz.prog 28 #[ptr gp, .int .i64 1] wr.drew fun e w' => e = .returned (ptr gp) ∧ PutAt gp w' gp (lowB kind 1 ++ numsB ns ++ lowB 1 1) ∧ Below gp wr.drew w' := pbyte_any gp gp _ 1 wr.drew hP1 (by omega) (by simp only [List.length_append, numsB_len, lowB_len, HNL.out]; omega)
        have HC1 := Lib.hid hC1
        have HBD : Hid (Below gp V wr.drew) := HB.out.drew
        clear hC1 hP1
        go_wp2
        go_region_held3 (fun W => W.cell? ⟨gm, 7, none⟩ = some (.string txt) ∧ W.cell? ⟨gm, 8, none⟩ = some (.slice A n cp)) (first | exact ⟨m7, m8⟩ | with_reducible assumption)
          (first
            | (go_at_call 28; with_reducible refine HC3.out.mono ?_; rintro e w5 ⟨rfl, P5, b5⟩
               have HP5 := Lib.hid P5
               have HB5 := Lib.hid (HB4.out.trans b5)
               have S5 : w5.cell? ⟨gm, 7, none⟩ = some (.string txt) ∧ w5.cell? ⟨gm, 8, none⟩ = some (.slice A n cp) := ⟨(b5.cell (p := ⟨gm, 7, none⟩) hmp).trans S4.1, (b5.cell (p := ⟨gm, 8, none⟩) hmp).trans S4.2⟩)
            | (go_at_call 30; with_reducible refine HC2.out.mono ?_; rintro e w4 ⟨rfl, P4, b4⟩
               have HB4 := Lib.hid (HB3.out.trans b4)
               have S4 : w4.cell? ⟨gm, 7, none⟩ = some (.string txt) ∧ w4.cell? ⟨gm, 8, none⟩ = some (.slice A n cp) := ⟨(b4.cell (p := ⟨gm, 7, none⟩) hmp).trans S3.1, (b4.cell (p := ⟨gm, 8, none⟩) hmp).trans S3.2⟩
               have hC3 : Calls Tryz.prog 28 #[ptr gp, .int .i64 n] w4 fun e w' => e = .returned (ptr gp) ∧ PutAt gp w' gp (lowB kind 1 ++ numsB ns ++ lowB 1 1 ++ (lowB txt.size 2 ++ bts txt) ++ lowB n 1) ∧ Below gp w4 w' := pbyte_any gp gp _ n w4 P4 (by omega) (by simp only [List.length_append, numsB_len, lowB_len, bts_len, HNL.out]; omega)
               have HC3 := Lib.hid hC3
               clear hC3)
            | (go_at_call 28; with_reducible refine HC1.out.mono ?_; rintro e w3 ⟨rfl, P3, b3⟩
               have HB3 := Lib.hid (HBD.out.trans b3)
               have S3 : w3.cell? ⟨gm, 7, none⟩ = some (.string txt) ∧ w3.cell? ⟨gm, 8, none⟩ = some (.slice A n cp) := ⟨(b3.cell (p := ⟨gm, 7, none⟩) hmp).trans m7, (b3.cell (p := ⟨gm, 8, none⟩) hmp).trans m8⟩
               have HC2 := Lib.hid (ptext_ok gp gp _ txt w3 P3 (by omega) (by simp only [List.length_append, numsB_len, lowB_len, HNL.out]; omega))))
        have s8 := S5.2
        have HSE : Hid (lowB kind 1 ++ numsB ns ++ lowB 1 1 ++ (lowB txt.size 2 ++ bts txt) ++ lowB n 1 = S) := HS.out.symm
        have hP5 := HP5.out
        rw [HSE.out] at hP5
        have HP6 := Lib.hid hP5
        have hgmV : gm < V.heap.size := HKM.out.lt
        have HGV : Hid (gp = V.heap.size) := HGP.out
        clear m6 m7 m8 hP5 S5 HP5
        go_wp2
        go_loopw [2, 3, 10, 11, 12, 86] (fun u2 u3 _ _ _ u86 wl => ∃ j : Nat, j ≤ n ∧ u2 = .string ⟨#[]⟩ ∧ u3 = .int .i64 0 ∧ u86 = .int .i64 j ∧ Hid (∀ x ∈ es.take j, (layE x).2 = 0) ∧ Hid (PutAt gp wl gp (S ++ entsB (es.take j))) ∧ Hid (Below gp V wl)) (fun _ _ _ _ _ u86 _ => n - (intOf u86).toNat)
        case atStart => exact ⟨0, by omega, rfl, rfl, rfl, fun x hx => absurd hx (by simp), by (have e : entsB (es.take 0) = [] := by simp [entsB]); rw [e, List.append_nil]; exact HP6.out, HB5.out⟩
        case round =>
          clear HP6 HB5
          obtain ⟨j, hjn, rfl, rfl, rfl, HOK, HPE, HBE⟩ := hrel
          by_cases hjl : j < n
          · have hji : (j : Int) < (n : Int) := by omega
            have hBV : Below V.heap.size V wr := by rw [← HGV.out]; exact HBE.out
            have hBall : Below w.heap.size w wr := HBW.out.trans (hBV.mono HBW.out.size)
            obtain ⟨b1, o1, x, rfl, hbl, hx, d0, d1, d2, d3, d4⟩ := (HER.out.below hBall).en (k := j) (by have := HEN.out; omega)
            have hxl := HEL.out x (List.mem_of_getElem? hx)
            have HSX := Lib.hid (entsB_take es j x hx)
            have HX := Lib.hid hx
            have bx : Below wr.heap.size wr (wr.alloc (.cells #[.int .i64 x.index, .int .i64 x.term, .int .i64 x.client, .int .i64 x.seq, .slice x.A x.n x.c] 61)) := (Below.refl _ _).alloc (Nat.le_refl _) _
            have X0 := Blk.new wr 61 #[.int .i64 x.index, .int .i64 x.term, .int .i64 x.client, .int .i64 x.seq, .slice x.A x.n x.c]
            have hxl2 := hxl.below (hBall.trans (bx.mono hBall.size))
            have hen := entry_any x _ hxl2.1 hxl2.2.1 hxl2.2.2.1 hxl2.2.2.2
            have PX := HPE.out.below bx
            have BX : Below gp V (wr.alloc (.cells #[.int .i64 x.index, .int .i64 x.term, .int .i64 x.client, .int .i64 x.seq, .slice x.A x.n x.c] 61)) := HBE.out.trans (bx.mono (by have := HPE.out.lt; omega))
            unfold En.v at hen
            obtain ⟨T, hT⟩ : ∃ T, T = (layE x).1 := ⟨_, rfl⟩
            obtain ⟨q, hq⟩ : ∃ q, q = (layE x).2 := ⟨_, rfl⟩
            rw [← hT, ← hq] at hen
            have HTX := Lib.hid hT
            have HQX := Lib.hid hq
            have HEN2 := Lib.hid hen
            clear hx hbl hBV hBall hxl hxl2 hT hq hen
            go_upto_region 17 with fail
            have x0 := X0.cell 0
            have x1 := X0.cell 1
            have x2 := X0.cell 2
            have x3 := X0.cell 3
            have x4 := X0.cell 4
            generalize wr.alloc (.cells #[.int .i64 x.index, .int .i64 x.term, .int .i64 x.client, .int .i64 x.seq, .slice x.A x.n x.c] 61) = Wx at bx X0 PX BX HEN2 x0 x1 x2 x3 x4 ⊢
            have HPX := Lib.hid PX
            have HBX := Lib.hid BX
            clear bx X0 PX BX HPE HBE
            by_cases hq0 : q = 0
            · subst hq0
              have hsz : T.size ≤ 8008 := by rw [HTX.out]; exact layE_size HQX.out.symm
              have hlen : (S ++ entsB (es.take j)).length ≤ 60000 := by
                have h1 := entsB_len (l := es.take j) HOK.out
                have h2 := HSL.out
                rw [List.length_take] at h1
                rw [List.length_append]; omega
              obtain ⟨Lj, hLj⟩ : ∃ L, L = S ++ entsB (es.take j) := ⟨_, rfl⟩
              rw [← hLj] at hlen HPX
              have HLJ := Lib.hid hLj
              clear hLj
              go_wp2_with (first
                | (go_at_call 31; (with_reducible refine HEN2.out.mono ?_); rintro e w8 ⟨rfl, b8⟩
                   have P8 := HPX.out.below b8
                   have B8 := HBX.out.trans (b8.mono (by have := HPX.out.lt; omega))
                   have HTE := Lib.hid (ptext_kk gp gp _ T w8 P8 (by omega) (by omega)))
                | (go_at_call 30; (with_reducible refine HTE.out.mono ?_); rintro e w9 ⟨rfl, P9, b9⟩
                   have HP9 := Lib.hid P9
                   have HB9 := Lib.hid (B8.trans b9.1)))
              have HEQ : Hid (Lj ++ textB T = S ++ entsB (es.take (j + 1))) := by
                unfold Hid; rw [HSX.out, HLJ.out, HTX.out, List.append_assoc]
              have HOK2 : Hid (∀ y ∈ es.take (j + 1), (layE y).2 = 0) := fun y hy => by
                rw [List.take_add_one, HX.out] at hy
                rcases List.mem_append.1 hy with h | h
                · exact HOK.out y h
                · have h' : y = x := by simpa using h
                  rw [h']; exact HQX.out.symm
              go_roundw
              case rel => exact ⟨j + 1, by omega, rfl, rfl, by go_num, HOK2, by rw [← HEQ.out]; exact HP9.out, HB9.out⟩
              case measure => simp [intOf]; omega
            · have hbq : (q != 0) = true := by simpa using hq0
              have hno : entsOk es = false := entsOk_bad HX.out (by rw [← HQX.out]; exact hq0)
              have hT9 : T9 = (⟨#[]⟩, 1) := by rw [HT9.out, hno]; rfl
              subst hT9
              clear hno
              go_wp2_with (go_at_call 31; (with_reducible refine HEN2.out.mono ?_); rintro e w8 ⟨rfl, b8⟩
                           have B8 := HBX.out.trans (b8.mono (by have := HPX.out.lt; omega)))
              go_ret2
              exact ⟨rfl, HBW.out.trans (B8.mono (by have := HGV.out; have := HBW.out.size; omega))⟩
          · obtain rfl : j = n := by omega
            have hes : es.take j = es := by rw [← HEN.out, List.take_length]
            have hPE := HPE.out
            have hOK := HOK.out
            rw [hes] at hPE hOK
            have hel := entsB_len hOK
            have hsz : (S ++ entsB es).length ≤ 60000 := by
              have h2 := HSL.out
              have h3 := HEN.out
              rw [List.length_append]; omega
            have HE := Lib.hid (pend_any gp gp _ wr hPE)
            have HSL2 := Lib.hid (seal_any (bs (S ++ entsB es)) wr (by rw [bs_size]; omega))
            have hT9 : T9 = (sealB (bs (S ++ entsB es)), 0) := by rw [HT9.out, entsOk_iff.2 hOK]; rfl
            subst hT9
            obtain ⟨L9, hL9⟩ : ∃ L, L = S ++ entsB es := ⟨_, rfl⟩
            rw [← hL9] at HE HSL2
            have HL9 := Lib.hid hL9
            clear hPE hOK hes hel hsz hL9
            go_wp2_with (first
              | (go_at_call 32; with_reducible refine HE.out.mono ?_; rintro e w6 ⟨rfl, hw6⟩; obtain rfl := hw6.symm)
              | (go_at_call 33; with_reducible refine HSL2.out.mono ?_; rintro e w7 ⟨rfl, b7⟩))
            go_ret2
            have BV := HBW.out.trans (HBE.out.mono (by have := HGV.out; have := HBW.out.size; omega))
            exact ⟨by (rw [← HL9.out]) <;> rfl, BV.trans (b7.mono BV.size)⟩
theorem layM_any (m : Ms) (A : Option Addr) (n cp : Nat) (w : World) (hR : Rd w A (flatEn m.es)) (hN : m.es.length = n) (hm : n ≤ maxLen) (hz : m.txt.size ≤ maxLen) (hL : ∀ x ∈ m.es, x.lies w) :
    Calls Tryz.prog 8 #[m.v A n cp] w fun e w' => e = .returned (.tuple #[.string (layM m).1, .int .i64 (layM m).2]) ∧ Below w.heap.size w w' := by
  cases hb : m.bad
  · obtain ⟨⟨g1, g2⟩, g3, g4, g5⟩ := Ms.good hb
    obtain ⟨kind, a, b, c, d, r, ok, txt, es⟩ := m
    unfold Ms.nums at g5
    simp only [] at g1 g2 g3 g4 g5 hR hN hz hL
    have ga := g5 a (by simp)
    have gb := g5 b (by simp)
    have gc := g5 c (by simp)
    have gd := g5 d (by simp)
    have gr := g5 r (by simp)
    obtain ⟨k', rfl⟩ : ∃ k : Nat, kind = (k : Int) := ⟨kind.toNat, by omega⟩
    obtain ⟨a', rfl⟩ : ∃ k : Nat, a = (k : Int) := ⟨a.toNat, by omega⟩
    obtain ⟨b', rfl⟩ : ∃ k : Nat, b = (k : Int) := ⟨b.toNat, by omega⟩
    obtain ⟨c', rfl⟩ : ∃ k : Nat, c = (k : Int) := ⟨c.toNat, by omega⟩
    obtain ⟨d', rfl⟩ : ∃ k : Nat, d = (k : Int) := ⟨d.toNat, by omega⟩
    obtain ⟨r', rfl⟩ : ∃ k : Nat, r = (k : Int) := ⟨r.toNat, by omega⟩
    have h := laygood_any k' a' b' c' d' r' ok txt A n cp es w (by omega) (by omega) (by omega) (by omega) (by omega) (by omega) g3 hR hN (by omega) hL
    have e : layM ⟨k', a', b', c', d', r', ok, txt, es⟩ = (if entsOk es then (sealB (bs (headM k' [a', b', c', d', r'] ok txt n ++ entsB es)), (0 : Int)) else (⟨#[]⟩, 1)) := by
      unfold layM Ms.body Ms.nums
      rw [hb]
      simp only [Bool.false_or, hN, Int.toNat_natCast, List.map_cons, List.map_nil]
      cases entsOk es <;> rfl
    rw [e]
    exact h
  · rw [badM_snd hb]
    exact laybad_any m.kind m.a m.b m.c m.d m.r m.ok m.txt A n cp m.es w hN hm hz hb
end Go.Proofs.YtgigkekajdgngaaGreat
