/-
  A request laid. Conditions: commands that can be, numbers that fit.
-/
import Derived.Test.YtgigkekajdgngaaGreatCmdA
import Derived.Test.YtgigkekajdgngaaGreatMtOne
namespace Go.Proofs.YtgigkekajdgngaaGreat
open Go Go.RowKit
attribute [local go_sem] cell_set_if

theorem validC_kind {x : Cm} (h : validC x = true) : ∃ k : Nat, x.kind = (k : Int) ∧ k < 256 ∧ x.kind.toNat = k := by
  obtain ⟨h1, _⟩ := validC_iff.1 h
  exact ⟨x.kind.toNat, by omega, by omega, rfl⟩
theorem c3_below {w w' : World} {G g : Nat} {a b c : Value} (hb : Below G w w') (h : g < G) (k : w.cell? ⟨g, 0, none⟩ = some a ∧ w.cell? ⟨g, 1, none⟩ = some b ∧ w.cell? ⟨g, 2, none⟩ = some c) : w'.cell? ⟨g, 0, none⟩ = some a ∧ w'.cell? ⟨g, 1, none⟩ = some b ∧ w'.cell? ⟨g, 2, none⟩ = some c :=
  ⟨(hb.cell (p := ⟨g, 0, none⟩) h).trans k.1, (hb.cell (p := ⟨g, 1, none⟩) h).trans k.2.1, (hb.cell (p := ⟨g, 2, none⟩) h).trans k.2.2⟩
theorem c5_blk {w : World} {g : Nat} {t : TypeId} {a b c d e : Value} (h : Blk w g t #[a, b, c, d, e]) : w.cell? ⟨g, 0, none⟩ = some a ∧ w.cell? ⟨g, 1, none⟩ = some b ∧ w.cell? ⟨g, 2, none⟩ = some c ∧ w.cell? ⟨g, 3, none⟩ = some d ∧ w.cell? ⟨g, 4, none⟩ = some e :=
  ⟨h.cell 0, h.cell 1, h.cell 2, h.cell 3, h.cell 4⟩
theorem pbyte_kk (base g : Nat) (l : List UInt8) (v : Nat) (w : World) (h : PutAt base w g l) (hv : v < 256) (hl : l.length ≤ 140737488351000) :
    Calls Tryz.prog 28 #[ptr g, .int .i64 v] w fun e w' => e = .returned (ptr g) ∧ PutAt base w' g (l ++ lowB v 1) ∧ BK base w w' := by
  refine (pbyte_k base g (l, 0) v w h.s hl).mono fun e w' ⟨h1, h2, h3⟩ => ⟨h1, ?_, h3⟩
  have e1 : putSmall 1 v (l, 0) = (l ++ lowB v 1, 0) := by
    unfold putSmall
    rw [if_pos rfl, if_neg (by omega), Int.toNat_natCast]
  rw [e1] at h2
  exact h2.at0
theorem ptext_kk (base g : Nat) (l : List UInt8) (t : ByteArray) (w : World) (h : PutAt base w g l) (ht : t.size ≤ 65535) (hl : l.length + t.size ≤ 140737488350000) :
    Calls Tryz.prog 30 #[ptr g, .string t] w fun e w' => e = .returned (ptr g) ∧ PutAt base w' g (l ++ textB t) ∧ BK base w w' := by
  refine (ptext_k base g (l, 0) t w h.s hl).mono fun e w' ⟨h1, h2, h3⟩ => ⟨h1, ?_, h3⟩
  have e1 : putText (bts t) (l, 0) = (l ++ textB t, 0) := by
    unfold putText textB
    rw [if_pos rfl, bts_len, if_neg (by omega)]
    show (l ++ lowB t.size 2 ++ bts t, (0 : Int)) = _
    rw [List.append_assoc]
  rw [e1] at h2
  exact h2.at0
set_option maxRecDepth 100000 in
set_option maxHeartbeats 8000000 in
theorem clay_any (client seq : Nat) (A : Option Addr) (n c : Nat) (l : List Cm) (w : World) (hr : Rd w A (flatCm l)) (hn : l.length = n) (hc : client ≤ 1099511627776) (hs : seq ≤ 1099511627776) (h6 : n ≤ 6) (hv : ∀ x ∈ l, validC x = true) :
    Calls Tryz.prog 130 #[.agg #[.int .i64 client, .int .i64 seq, .slice A n c]] w fun e w' => e = .returned (.tuple #[.string (bs (reqB client seq l)), .int .i64 0]) ∧ Below w.heap.size w w' := by
  have ba : Below w.heap.size w (w.alloc (.cells #[.int .i64 client, .int .i64 seq, .slice A n c] 59)) := (Below.refl _ _).alloc (Nat.le_refl _) _
  have KM := Blk.new w 59 #[.int .i64 client, .int .i64 seq, .slice A n c]
  have HR := Lib.hid (hr.below ba)
  have HN := Lib.hid hn
  have HV := Lib.hid hv
  have hni : (n : Int) ≤ 6 := by omega
  obtain ⟨S9, hS9⟩ : ∃ S9, S9 = bs (reqB client seq l) := ⟨_, rfl⟩
  rw [← hS9]
  have HS9 := Lib.hid hS9
  clear hr hn hv hS9
  go_enter Tryz.func130, Tryz.ntmps130
  go_upto_region 1 with fail
  obtain ⟨gm, hgm⟩ : ∃ gm, gm = w.heap.size := ⟨_, rfl⟩
  rw [← hgm] at KM ⊢
  generalize w.alloc (.cells #[.int .i64 client, .int .i64 seq, .slice A n c] 59) = W at ba KM HR ⊢
  have HGM := Lib.hid hgm
  clear hgm
  have m0 : W.cell? ⟨gm, 0, none⟩ = some (.int .i64 client) := KM.cell 0
  have m1 : W.cell? ⟨gm, 1, none⟩ = some (.int .i64 seq) := KM.cell 1
  have m2 : W.cell? ⟨gm, 2, none⟩ = some (.slice A n c) := KM.cell 2
  have hgmW := KM.lt
  have HBA := Lib.hid ba
  have bap : Below W.heap.size W (W.alloc (.cells #[.slice none 0 0, .int .i64 0] 79)).drew := ((Below.refl _ W).alloc (Nat.le_refl _) _).drew
  have P00 : PutAt W.heap.size (W.alloc (.cells #[.slice none 0 0, .int .i64 0] 79)) W.heap.size [] := ⟨Nat.le_refl _, _, Blk.new W 79 _, World.ownsRow_nil _ _ _ _⟩
  have P0 : PutAt W.heap.size (W.alloc (.cells #[.slice none 0 0, .int .i64 0] 79)).drew W.heap.size [] := P00.below (Below.refl _ _).drew
  have HP1 := Lib.hid (pint_any W.heap.size W.heap.size [] client _ P0 (by omega) (by simp))
  have HBP := Lib.hid bap
  have SM : W.cell? ⟨gm, 0, none⟩ = some (.int .i64 client) ∧ W.cell? ⟨gm, 1, none⟩ = some (.int .i64 seq) ∧ W.cell? ⟨gm, 2, none⟩ = some (.slice A n c) := ⟨m0, m1, m2⟩
  have SP : (W.alloc (.cells #[.slice none 0 0, .int .i64 0] 79)).drew.cell? ⟨gm, 0, none⟩ = some (.int .i64 client) ∧ (W.alloc (.cells #[.slice none 0 0, .int .i64 0] 79)).drew.cell? ⟨gm, 1, none⟩ = some (.int .i64 seq) ∧ (W.alloc (.cells #[.slice none 0 0, .int .i64 0] 79)).drew.cell? ⟨gm, 2, none⟩ = some (.slice A n c) := c3_below bap hgmW SM
  clear P0 P00 bap ba m0 m1 m2
  go_region_held3 (fun W => W.cell? ⟨gm, 0, none⟩ = some (.int .i64 client) ∧ W.cell? ⟨gm, 1, none⟩ = some (.int .i64 seq) ∧ W.cell? ⟨gm, 2, none⟩ = some (.slice A n c)) (first | exact SM | exact SP | with_reducible assumption)
    (first
      | (go_at_call 28; with_reducible refine HP3.out.mono ?_; rintro e w4 ⟨rfl, P4, b4⟩
         have HP4 := Lib.hid P4
         have HB4 := Lib.hid (HB3.out.trans b4)
         have S4 := c3_below b4 hgmW S3)
      | (go_at_call 140; with_reducible refine HP2.out.mono ?_; rintro e w3 ⟨rfl, P3, b3⟩
         have HB3 := Lib.hid (HB2.out.trans b3)
         have S3 := c3_below b3 hgmW S2
         have HP3 := Lib.hid (pbyte_any W.heap.size W.heap.size _ n w3 P3 (by omega) (by simp only [List.length_append, lowB_len, List.length_nil]; omega)))
      | (go_at_call 140; with_reducible refine HP1.out.mono ?_; rintro e w2 ⟨rfl, P2, b2⟩
         have HB2 := Lib.hid (HBP.out.trans b2)
         have S2 := c3_below b2 hgmW SP
         have HP2 := Lib.hid (pint_any W.heap.size W.heap.size _ seq w2 P2 (by omega) (by simp only [List.length_append, lowB_len, List.length_nil]; omega))))
  have m2 := S4.2.2
  obtain ⟨gp, hgp⟩ : ∃ gp, gp = W.heap.size := ⟨_, rfl⟩
  have HGP := Lib.hid hgp
  rw [← hgp] at HP4 HB4 ⊢
  obtain ⟨Hd, hHd⟩ : ∃ Hd, Hd = lowB client 8 ++ lowB seq 8 ++ lowB n 1 := ⟨_, rfl⟩
  have HP5 : Hid (PutAt gp w4 gp Hd) := by
    unfold Hid; rw [hHd]; simpa using HP4.out
  have hHl : Hd.length = 17 := by rw [hHd]; simp only [List.length_append, lowB_len]
  have HHD := Lib.hid hHd
  clear HP4 hHd hgp SM SP HP1 HBP HP2 HP3 HB2 HB3 S2 S3 S4 P2 P3 P4 b2 b3 b4 KM
  go_wp2
  go_loopw [6, 22] (fun _ u22 wr => ∃ k : Nat, k ≤ n ∧ u22 = .int .i64 k ∧ Hid (PutAt gp wr gp (Hd ++ cmsB (l.take k))) ∧ Hid (Below gp W wr)) (fun _ u22 _ => n - (intOf u22).toNat)
  case atStart => exact ⟨0, by omega, rfl, by (have e : cmsB (l.take 0) = [] := by simp [cmsB]); rw [e, List.append_nil]; exact HP5.out, HB4.out⟩
  case round =>
    clear HP5 HB4
    obtain ⟨k, hkn, rfl, HP, HB⟩ := hrel
    by_cases hlt : k < n
    · have hki : (k : Int) < (n : Int) := by omega
      have hB' : Below W.heap.size W wr := by rw [← HGP.out]; exact HB.out
      obtain ⟨b1, o1, x, rfl, hbl, hx, d0, d1, d2, d3, d4⟩ := (HR.out.below hB').cm (k := k) (by have := HN.out; omega)
      have hvx := HV.out x (List.mem_of_getElem? hx)
      obtain ⟨kk, hkk, hk256, hkt⟩ := validC_kind hvx
      obtain ⟨_, v1, v2, v3, v4⟩ := validC_iff.1 hvx
      rw [hkk] at d0
      have hcl : (cmsB (l.take k)).length ≤ 60000 := by
        have h1 := cmsB_len (l := l.take k) (fun y hy => HV.out y (List.mem_of_mem_take hy))
        rw [List.length_take] at h1
        have := HN.out
        omega
      have HSX := Lib.hid (cmsB_take l k x hx)
      have HKT := Lib.hid hkt
      clear hkk hkt hvx hx hbl
      have bx : Below gp W (wr.alloc (.cells #[.int .i64 kk, .string x.path, .string x.key, .string x.val, .string x.old] 117)) := HB.out.alloc (by have := hB'.size; have := HGP.out; omega) _
      have X0 := Blk.new wr 117 #[.int .i64 kk, .string x.path, .string x.key, .string x.val, .string x.old]
      have PX := HP.out.below (((Below.refl _ wr).alloc (Nat.le_refl _) (.cells #[.int .i64 kk, .string x.path, .string x.key, .string x.val, .string x.old] 117)))
      have hgpw : gp < wr.heap.size := HP.out.lt
      go_upto_region 5 with fail
      obtain ⟨gx, hgxe⟩ : ∃ gx, gx = wr.heap.size := ⟨_, rfl⟩
      rw [← hgxe] at X0 hgpw ⊢
      generalize wr.alloc (.cells #[.int .i64 kk, .string x.path, .string x.key, .string x.val, .string x.old] 117) = V at bx X0 PX ⊢
      have SV : V.cell? ⟨gx, 0, none⟩ = some (.int .i64 kk) ∧ V.cell? ⟨gx, 1, none⟩ = some (.string x.path) ∧ V.cell? ⟨gx, 2, none⟩ = some (.string x.key) ∧ V.cell? ⟨gx, 3, none⟩ = some (.string x.val) ∧ V.cell? ⟨gx, 4, none⟩ = some (.string x.old) := c5_blk X0
      have SD : V.drew.cell? ⟨gx, 0, none⟩ = some (.int .i64 kk) ∧ V.drew.cell? ⟨gx, 1, none⟩ = some (.string x.path) ∧ V.drew.cell? ⟨gx, 2, none⟩ = some (.string x.key) ∧ V.drew.cell? ⟨gx, 3, none⟩ = some (.string x.val) ∧ V.drew.cell? ⟨gx, 4, none⟩ = some (.string x.old) := SV
      have XD : Blk V.drew gx 117 #[.int .i64 kk, .string x.path, .string x.key, .string x.val, .string x.old] := X0.below (Below.refl _ _).drew
      have PV : PutAt gp V.drew gp (Hd ++ cmsB (l.take k)) := PX.below (Below.refl _ _).drew
      have HBV : Hid (Below gp W V.drew) := bx.drew
      have hLl : (Hd ++ cmsB (l.take k)).length ≤ 60017 := by rw [List.length_append]; omega
      obtain ⟨Lk, hLk⟩ : ∃ Lk, Lk = Hd ++ cmsB (l.take k) := ⟨_, rfl⟩
      rw [← hLk] at PV hLl
      have HLK := Lib.hid hLk
      have HX1 := Lib.hid (pbyte_kk gp gp _ kk V.drew PV (by omega) (by omega))
      clear hLk PX bx X0 PV hcl HP hgxe
      go_region_held3 (fun W => W.cell? ⟨gx, 0, none⟩ = some (.int .i64 kk) ∧ W.cell? ⟨gx, 1, none⟩ = some (.string x.path) ∧ W.cell? ⟨gx, 2, none⟩ = some (.string x.key) ∧ W.cell? ⟨gx, 3, none⟩ = some (.string x.val) ∧ W.cell? ⟨gx, 4, none⟩ = some (.string x.old)) (first | exact SV | with_reducible assumption)
        (first
          | (go_at_call 30; with_reducible refine HX5.out.mono ?_; rintro e v5 ⟨rfl, Q5, c5⟩
             have HD5 := Lib.hid (HD4.out.trans c5.1)
             have X5 := c5.2 _ _ _ X4 (by decide) (by decide)
             have T5 := c5_blk X5
             have HQ5 := Lib.hid Q5)
          | (go_at_call 30; with_reducible refine HX4.out.mono ?_; rintro e v4 ⟨rfl, Q4, c4⟩
             have HD4 := Lib.hid (HD3.out.trans c4.1)
             have X4 := c4.2 _ _ _ X3 (by decide) (by decide)
             have T4 := c5_blk X4
             have HX5 := Lib.hid (ptext_kk gp gp _ x.old v4 Q4 (by omega) (by simp only [List.length_append, lowB_len, textB_len]; omega)))
          | (go_at_call 30; with_reducible refine HX3.out.mono ?_; rintro e v3 ⟨rfl, Q3, c3⟩
             have HD3 := Lib.hid (HD2.out.trans c3.1)
             have X3 := c3.2 _ _ _ X2 (by decide) (by decide)
             have T3 := c5_blk X3
             have HX4 := Lib.hid (ptext_kk gp gp _ x.val v3 Q3 (by omega) (by simp only [List.length_append, lowB_len, textB_len]; omega)))
          | (go_at_call 30; with_reducible refine HX2.out.mono ?_; rintro e v2 ⟨rfl, Q2, c2⟩
             have HD2 := Lib.hid (HD1.out.trans c2.1)
             have X2 := c2.2 _ _ _ X1 (by decide) (by decide)
             have T2 := c5_blk X2
             have HX3 := Lib.hid (ptext_kk gp gp _ x.key v2 Q2 (by omega) (by simp only [List.length_append, lowB_len, textB_len]; omega)))
          | (go_at_call 28; with_reducible refine HX1.out.mono ?_; rintro e v1 ⟨rfl, Q1, c1⟩
             have HD1 := Lib.hid (HBV.out.trans c1.1)
             have X1 := c1.2 _ _ _ XD (by decide) (by decide)
             have T1 := c5_blk X1
             have HX2 := Lib.hid (ptext_kk gp gp _ x.path v1 Q1 (by omega) (by simp only [List.length_append, lowB_len]; omega))))
      have HEQ : Hid (Lk ++ lowB kk 1 ++ textB x.path ++ textB x.key ++ textB x.val ++ textB x.old = Hd ++ cmsB (l.take (k + 1))) := by
        unfold Hid
        rw [HSX.out, HLK.out]
        unfold cmB
        rw [HKT.out]
        simp only [List.append_assoc]
      go_wp2
      go_roundw
      case rel => exact ⟨k + 1, by omega, by go_num, by rw [← HEQ.out]; exact HQ5.out, HD5.out⟩
      case measure => simp [intOf]; omega
    · obtain rfl : n = k := by omega
      have hl9 : l.take n = l := by rw [← HN.out, List.take_length]
      have hP := HP.out
      have hS : Hd ++ cmsB l = reqB client seq l := by rw [HHD.out]; unfold reqB; rw [HN.out]
      rw [hl9, hS] at hP
      have hE : Calls Tryz.prog 32 #[ptr gp] wr fun e w' => e = .returned (.tuple #[.string S9, .int .i64 0]) ∧ w' = wr := by
        rw [HS9.out]; exact pend_any gp gp (reqB client seq l) wr hP
      have HE := Lib.hid hE
      clear hP hS hl9 hE
      go_wp2_with (go_at_call 32; with_reducible refine HE.out.mono ?_; rintro e w6 ⟨rfl, hw6⟩; obtain rfl := hw6.symm)
      go_ret2
      exact ⟨rfl, HBA.out.trans (HB.out.mono (by have := HGP.out; have := HBA.out.size; omega))⟩
end Go.Proofs.YtgigkekajdgngaaGreat
