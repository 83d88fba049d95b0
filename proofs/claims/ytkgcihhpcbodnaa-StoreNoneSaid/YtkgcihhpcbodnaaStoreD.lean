/-
  A file of pages in memory: Put. Conditions: as the disk's own calls have them; not too many writes.
-/
import Derived.Test.YtkgcihhpcbodnaaStoreC
namespace Go.Proofs.Ytkgcihhpcbodnaa
open Go Go.RowKit
attribute [local go_sem] cell_set_if

section
variable {w w' : World} {base gs g n : Nat} {s : ByteArray} {d d' : Ds}
theorem Rd.kp {A : Option Addr} {xs : List Value} (h : Rd w A xs) {t : TypeId} {Ts : List TypeId} (hA : 0 < xs.length → ∀ a, A = some a → a.block < base ∨ TyAt w a.block t) (hb : Below base w w') (k : Kp Ts w w') (ht : t ∉ Ts) : Rd w' A xs := fun j x hx => by
  obtain ⟨ad, e, hc⟩ := h j x hx
  refine ⟨ad, e, ?_⟩
  rcases hA (by have := (List.getElem?_eq_some_iff.1 hx).1; omega) ad e with h1 | h1
  · rw [hb.cell (by rw [add_block]; exact h1)]; exact hc
  · rw [World.cell?_of_block (w := w) (k.2 _ t (by rw [add_block]; exact h1) ht)]; exact hc
/-- How far a Put has come. -/
structure Putting (d : Ds) (s : ByteArray) (l : List Pv) (M k : Nat) (d1 : Ds) : Prop where
  eq : putL s l d = putL s (l.drop k) d1
  fine : d1.fine
  ws : d1.ws.length ≤ d.ws.length + k * (M + 1)
theorem drop_at {α : Type} {l : List α} {k : Nat} {x : α} (h : l[k]? = some x) : l.drop k = x :: l.drop (k + 1) := by
  obtain ⟨hl, e⟩ := List.getElem?_eq_some_iff.1 h
  rw [List.drop_eq_getElem_cons hl, e]
set_option maxRecDepth 100000 in
set_option maxHeartbeats 4000000 in
theorem stput_any (A : Option Addr) (m c : Nat) (l : List Pv) (M : Nat) (w : World) (h : SBlk w gs g s n) (L : LiveAt w base d g) (hf : d.fine) (hr : Rd w A (flatPv l)) (hm : l.length = m) (hm6 : m ≤ 100000)
    (hA : 0 < m → ∀ a, A = some a → a.block < base ∨ TyAt w a.block 23) (hbd : ∀ p ∈ l, p.bd.size ≤ 9223372036854775807) (hM : ∀ p ∈ l, p.put = true → p.i.toNat ≤ M) (hws : d.ws.length + m * (M + 1) ≤ 900000) :
    Calls Try.prog 11 #[.pointer (some ⟨gs, 0, none⟩), .slice A m c] w fun e w' => e = .returned (.int .i64 (putS d s l).1) ∧ LiveAt w' base (putS d s l).2 g ∧ SBlk w' gs g s n ∧ Below base w w' ∧ Kp dTys w w' := by
  have hmi : (m : Int) ≤ 100000 := by omega
  have hA' : 0 < (flatPv l).length → ∀ a, A = some a → a.block < base ∨ TyAt w a.block 23 := fun h => hA (by rw [flatPv_len] at h; omega)
  have HR := Lib.hid hr
  have HN := Lib.hid hm
  have HA := Lib.hid hA'
  have HL := Lib.hid L
  have HSB := Lib.hid h
  have HBD := Lib.hid hbd
  have HM := Lib.hid hM
  have HW := Lib.hid hws
  have HF := Lib.hid hf
  clear hr hA hA' h L hbd hM hws hf hm
  go_enter Try.func11, Try.ntmps11
  go_wp2
  go_loopw [17] (fun u17 wr => ∃ k : Nat, k ≤ m ∧ u17 = .int .i64 k ∧ Hid (∀ (j : Nat) p, j < k → l[j]? = some p → p.put = true) ∧ Hid (Below w.heap.size w wr)) (fun u17 _ => m - (intOf u17).toNat)
  case atStart => exact ⟨0, by omega, rfl, fun j x hj => by omega, Below.refl _ _⟩
  case round =>
    obtain ⟨k, hk, rfl, HK, HBr⟩ := hrel
    by_cases hlt : k < m
    · obtain ⟨⟨pk, pi, pt, pbd⟩, hx⟩ : ∃ x, l[k]? = some x := ⟨l[k]'(by have := HN.out; omega), List.getElem?_eq_getElem _⟩
      obtain ⟨bA, oA, hA1, hb1, hc⟩ := (HR.out.below HBr.out).flat (by rw [flatPv_len]; have := HN.out; omega)
      subst hA1
      have d0 : _ = some (Value.int .i64 pk) := hc _ _ (flatPv_at l k _ hx 0 _ rfl)
      have d1 : _ = some (Value.int .i64 pi) := hc _ _ (flatPv_at l k _ hx 1 _ rfl)
      have d2 : _ = some (Value.int .i64 pt) := hc _ _ (flatPv_at l k _ hx 2 _ rfl)
      have d3 : _ = some (Value.string pbd) := hc _ _ (flatPv_at l k _ hx 3 _ rfl)
      rw [Nat.add_zero] at d0
      rw [← Nat.add_assoc] at d1 d2 d3
      have hki : (k : Int) < (m : Int) := by omega
      have HX := Lib.hid hx
      have hbs := HBD.out _ (List.mem_of_getElem? hx)
      have hv := fun w => valid_any pk pi pt pbd w hbs
      have hput : (⟨pk, pi, pt, pbd⟩ : Pv).put = (decide (okP pk pi pt pbd.size) && decide (pk ≠ 1) && decide (2 ≤ pi)) := rfl
      have HP := Lib.hid hput
      have HBS := Lib.hid hbs
      clear hc hx hput hbs hb1
      by_cases hok : okP pk pi pt pbd.size
      · rw [decide_eq_true hok] at hv
        by_cases h1 : pk = 1
        · have hb1 : (pk == 1) = true := by simp [h1]
          have h1' := Lib.hid h1
          have HV : Hid (putS d s l = (1, d)) := by
            unfold Hid putS
            rw [if_neg]
            intro h
            have := List.all_eq_true.1 h _ (List.mem_of_getElem? HX.out)
            rw [HP.out] at this
            simp [h1] at this
          clear h1
          go_wp2_with (go_at_call 29; (refine (hv _).mono ?_); rintro e w1 ⟨rfl, b1⟩; have K1 := (Blk.new wr 23 #[.int .i64 pk, .int .i64 pi, .int .i64 pt, .string pbd]).below b1; obtain ⟨⟨q0, q1, q2, q3⟩, _⟩ := K1.four)
          go_ret
          rw [HV.out]
          have B1 := below_of b1 (HBr.out.alloc HBr.out.size _) (HBr.out.alloc HBr.out.size _).size
          exact ⟨rfl, HL.out.below B1, HSB.out.below B1, B1.mono HL.out.1, Kp.of_below B1⟩
        · have hb1 : (pk == 1) = false := by simp [h1]
          by_cases h2 : pi < 2
          · have HV : Hid (putS d s l = (1, d)) := by
              unfold Hid putS
              rw [if_neg]
              intro h
              have := List.all_eq_true.1 h _ (List.mem_of_getElem? HX.out)
              rw [HP.out] at this
              simp at this; omega
            skip
            go_wp2_with (go_at_call 29; (refine (hv _).mono ?_); rintro e w1 ⟨rfl, b1⟩; have K1 := (Blk.new wr 23 #[.int .i64 pk, .int .i64 pi, .int .i64 pt, .string pbd]).below b1; obtain ⟨⟨q0, q1, q2, q3⟩, _⟩ := K1.four)
            go_ret
            rw [HV.out]
            have B1 := below_of b1 (HBr.out.alloc HBr.out.size _) (HBr.out.alloc HBr.out.size _).size
            exact ⟨rfl, HL.out.below B1, HSB.out.below B1, B1.mono HL.out.1, Kp.of_below B1⟩
          · have HV : Hid ((⟨pk, pi, pt, pbd⟩ : Pv).put = true) := by
              unfold Hid; rw [HP.out, decide_eq_true hok, decide_eq_true h1, decide_eq_true (by omega)]; rfl
            have HK1 : Hid (∀ (j : Nat) p, j < k + 1 → l[j]? = some p → p.put = true) := fun j p hj hp => by
              by_cases e : j = k
              · subst e
                have := HX.out
                rw [hp] at this; injection this with this; rw [this]; exact HV.out
              · exact HK.out j p (by omega) hp
            clear h1
            go_wp2_with (go_at_call 29; (refine (hv _).mono ?_); rintro e w1 ⟨rfl, b1⟩; have K1 := (Blk.new wr 23 #[.int .i64 pk, .int .i64 pi, .int .i64 pt, .string pbd]).below b1; obtain ⟨⟨q0, q1, q2, q3⟩, _⟩ := K1.four)
            have HB1 := Lib.hid (below_of b1 (HBr.out.alloc HBr.out.size _) (HBr.out.alloc HBr.out.size _).size)
            clear b1 K1 q0 q1 q2 q3 hv
            go_roundw
            case rel => exact ⟨k + 1, by omega, by go_num, HK1, HB1⟩
            case measure => simp [intOf]; omega
      · rw [decide_eq_false hok] at hv
        have HV : Hid (putS d s l = (1, d)) := by
          unfold Hid putS
          rw [if_neg]
          intro h
          have := List.all_eq_true.1 h _ (List.mem_of_getElem? HX.out)
          rw [HP.out] at this
          simp [hok] at this
        skip
        go_wp2_with (go_at_call 29; (refine (hv _).mono ?_); rintro e w1 ⟨rfl, b1⟩; have K1 := (Blk.new wr 23 #[.int .i64 pk, .int .i64 pi, .int .i64 pt, .string pbd]).below b1; obtain ⟨⟨q0, q1, q2, q3⟩, _⟩ := K1.four)
        go_ret
        rw [HV.out]
        have B1 := below_of b1 (HBr.out.alloc HBr.out.size _) (HBr.out.alloc HBr.out.size _).size
        exact ⟨rfl, HL.out.below B1, HSB.out.below B1, B1.mono HL.out.1, Kp.of_below B1⟩
    · have hall : l.all Pv.put = true := List.all_eq_true.2 fun p hp => by
        obtain ⟨j, hj⟩ := List.getElem?_of_mem hp
        exact HK.out j p (by have := (List.getElem?_eq_some_iff.1 hj).1; have := HN.out; omega) hj
      have HE : Hid (putS d s l = putL s l d) := by unfold Hid putS; rw [if_pos hall]
      have HAL := Lib.hid hall
      have HLr := Lib.hid (HL.out.below HBr.out)
      have HSr := Lib.hid (HSB.out.below HBr.out)
      have HRr := Lib.hid (HR.out.below HBr.out)
      have HAr : Hid (0 < (flatPv l).length → ∀ a, A = some a → a.block < base ∨ TyAt wr a.block 23) := fun h a ha => by
        rcases HA.out h a ha with h1 | h1
        · exact .inl h1
        · exact .inr (h1.below HBr.out)
      have HBb : Hid (Below base w wr) := HBr.out.mono HL.out.1
      have HKb : Hid (Kp dTys w wr) := Kp.of_below HBr.out
      have HPU : Hid (Putting d s l M 0 d) := ⟨rfl, HF.out, by omega⟩
      clear hall
      go_wp2
      go_loopw [37] (fun u37 wx => ∃ (k : Nat) (d1 : Ds), k ≤ m ∧ u37 = .int .i64 k ∧ Hid (Putting d s l M k d1) ∧ Hid (LiveAt wx base d1 g) ∧ Hid (SBlk wx gs g s n) ∧ Hid (Rd wx A (flatPv l)) ∧ Hid (0 < (flatPv l).length → ∀ a, A = some a → a.block < base ∨ TyAt wx a.block 23) ∧ Hid (Below base w wx) ∧ Hid (Kp dTys w wx)) (fun u37 _ => m - (intOf u37).toNat)
      case atStart => exact ⟨0, d, by omega, rfl, HPU, HLr, HSr, HRr, HAr, HBb, HKb⟩
      case round =>
        obtain ⟨k, d1, hk, rfl, HPK, HLk, HSk, HRk, HAk, HBk, HKk⟩ := hrel
        by_cases hlt : k < m
        · obtain ⟨⟨pk, pi, pt, pbd⟩, hx⟩ : ∃ x, l[k]? = some x := ⟨l[k]'(by have := HN.out; omega), List.getElem?_eq_getElem _⟩
          obtain ⟨bA, oA, hA1, hb1, hc⟩ := HRk.out.flat (by rw [flatPv_len]; have := HN.out; omega)
          subst hA1
          have d0 : _ = some (Value.int .i64 pk) := hc _ _ (flatPv_at l k _ hx 0 _ rfl)
          have d1' : _ = some (Value.int .i64 pi) := hc _ _ (flatPv_at l k _ hx 1 _ rfl)
          have d2' : _ = some (Value.int .i64 pt) := hc _ _ (flatPv_at l k _ hx 2 _ rfl)
          have d3' : _ = some (Value.string pbd) := hc _ _ (flatPv_at l k _ hx 3 _ rfl)
          rw [Nat.add_zero] at d0
          rw [← Nat.add_assoc] at d1' d2' d3'
          have hki : (k : Int) < (m : Int) := by omega
          have hput := List.all_eq_true.1 HAL.out _ (List.mem_of_getElem? hx)
          have hiM := HM.out _ (List.mem_of_getElem? hx) hput
          have hok := (Pv.put_ok hput).1
          obtain ⟨S, hS⟩ : ∃ S, S = (⟨pk, pi, pt, pbd⟩ : Pv).sec := ⟨_, rfl⟩
          have hS6 : S.size = 256 := by rw [hS]; exact hok.size
          have HLAY : Hid (∀ w, Calls Try.prog 30 #[pageV pk pi pt pbd] w fun e w' => e = .returned (.tuple #[.string S, .int .i64 0]) ∧ Below w.heap.size w w') := fun w => by
            have h1 := lay_ok pk.toNat pi.toNat pt.toNat pbd w hok.pg
            obtain ⟨n1, n2, n3⟩ := hok.nats
            simp only at n1 n2 n3
            rw [← n1, ← n2, ← n3] at h1
            rw [hS]; exact h1
          have hpi : 0 ≤ pi ∧ pi < 4000 := by unfold Pv.ok okP at hok; simp only at hok; omega
          have hmul : (k + 1) * (M + 1) ≤ m * (M + 1) := Nat.mul_le_mul_right _ (by omega)
          have hmul2 : (k + 1) * (M + 1) = k * (M + 1) + (M + 1) := by rw [Nat.add_mul, Nat.one_mul]
          have hwsk : d1.ws.length + pi.toNat + 1 ≤ 900000 := by
            have := HPK.out.ws; have := HW.out
            simp only at hiM
            omega
          have hff := fillT_fine HPK.out.fine s pi (by omega)
          obtain ⟨e1, d2, hfe⟩ : ∃ e1 d2, fillT d1 s pi = (e1, d2) := ⟨_, _, rfl⟩
          rw [hfe] at hff
          have hwf := write_fine hff.1 (by have := hff.2; simp only at this ⊢; omega) s pi S
          obtain ⟨e2, d3, hwe⟩ : ∃ e2 d3, writeD d2 s pi S = (e2, d3) := ⟨_, _, rfl⟩
          simp only at hff
          rw [hwe] at hwf
          simp only at hwf
          have hp1 : put1 d1 s ⟨pk, pi, pt, pbd⟩ = if e1 = 0 then (e2, d3) else (e1, d2) := by
            unfold put1
            simp only [hfe]
            rw [← hS, hwe]
          have hstep : putS d s l = if (put1 d1 s ⟨pk, pi, pt, pbd⟩).1 = 0 then putL s (l.drop (k + 1)) (put1 d1 s ⟨pk, pi, pt, pbd⟩).2 else put1 d1 s ⟨pk, pi, pt, pbd⟩ := by
            rw [HE.out, HPK.out.eq, drop_at hx]; rfl
          have hstep2 : putL s l d = putS d s l := HE.out.symm
          rw [hp1] at hstep
          have HST := Lib.hid hstep
          have HST2 := Lib.hid hstep2
          have HFF := Lib.hid hff
          have HWF := Lib.hid hwf
          have HMU : Hid (d3.ws.length ≤ d.ws.length + (k + 1) * (M + 1)) := by
            unfold Hid
            have := HPK.out.ws; have := hwf.2; have := hff.2
            simp only at hiM this
            omega
          have HS6 : Hid (S.size ≤ 281474976710656) := by unfold Hid; omega
          have HFC : Hid (∀ w2, Below wr.heap.size (wr.alloc (.cells #[.int .i64 pk, .int .i64 pi, .int .i64 pt, .string pbd] 23)) w2 → Calls Try.prog 31 #[.pointer (some ⟨gs, 0, none⟩), .int .i64 pi] w2 fun e w' => e = .returned (.int .i64 e1) ∧ LiveAt w' base d2 g ∧ SBlk w' gs g s n ∧ Below base w2 w' ∧ Kp dTys w2 w') := fun w2 hb => by
            have ba : Below wr.heap.size wr w2 := ((Below.refl _ _).alloc (Nat.le_refl _) _).trans hb
            have := stfill_any pi w2 (HSk.out.below ba) (HLk.out.below ba) HPK.out.fine (by omega) (by omega)
            rw [hfe] at this
            exact this
          have HWC : Hid (∀ w3 w4, LiveAt w3 base d2 g → Below w3.heap.size w3 w4 → Calls Try.prog 32 #[.pointer (some ⟨g, 0, none⟩), .string s, .int .i64 pi, .string S] w4 fun e w' => e = .returned (.int .i64 e2) ∧ LiveAt w' base d3 g ∧ Below base w3 w' ∧ Kp dTys w3 w') := fun w3 w4 L3 hb =>
            (kwrite (L3.below hb) HFF.out.1 HS6.out hwe).mono fun e w' ⟨h1, h2, h3, h4⟩ => ⟨h1, h2, (hb.mono L3.1).trans h3, (Kp.of_below hb).trans h4⟩
          clear hc hx hput hiM hok hS hS6 hmul hmul2 hwsk hff hfe hwf hwe hp1 hstep hstep2 hb1
          go_upto_region 14 with (first
            | (go_at_call 30; (refine (HLAY.out _).mono ?_); rintro e w2 ⟨rfl, b2⟩; have b2x := b2.mono (show wr.heap.size ≤ (wr.alloc (.cells #[.int .i64 pk, .int .i64 pi, .int .i64 pt, .string pbd] 23)).heap.size by simp); have KP2 := (Blk.new wr 23 #[.int .i64 pk, .int .i64 pi, .int .i64 pt, .string pbd]).below b2; obtain ⟨⟨q0, q1, q2, q3⟩, _⟩ := KP2.four; have HKP2 := Lib.hid KP2; clear KP2)
            | (go_at_call 31; (refine (HFC.out _ b2x).mono ?_); rintro e w3 ⟨rfl, L3, S3, B3, K3⟩))
          have HKP3 := Lib.hid (Blk.kp HKP2.out K3 (by decide))
          have ba : Below wr.heap.size wr w2 := ((Below.refl _ _).alloc (Nat.le_refl _) _).trans b2x
          have HB3 := Lib.hid ((HBk.out.trans (ba.mono HLk.out.1)).trans B3)
          have HK3 := Lib.hid (HKk.out.trans ((Kp.of_below ba).trans K3))
          have HR3 := Lib.hid ((HRk.out.below ba).kp (t := 23) (Ts := dTys) (fun h a ha => (HAk.out h a ha).imp id fun h => h.below ba) B3 K3 (by decide))
          have HA3 : Hid (0 < (flatPv l).length → ∀ a, some (⟨bA, oA, none⟩ : Addr) = some a → a.block < base ∨ TyAt w3 a.block 23) := fun h a ha => (HAk.out h a ha).imp id fun h => (h.below ba).kp K3 (by decide)
          have HL3 := Lib.hid L3
          have HS3 := Lib.hid S3
          clear q0 q1 q2 q3 b2 b2x ba L3 S3 B3 K3 HKP2
          by_cases he : e1 = 0
          · subst he
            have c0 : w3.drew.cell? ⟨gs, 0, none⟩ = some (.pointer (some ⟨g, 0, none⟩)) := HS3.out.c0
            have c1 : w3.drew.cell? ⟨gs, 1, none⟩ = some (.string s) := HS3.out.c1
            have c2 : w3.drew.cell? ⟨wr.heap.size, 1, none⟩ = some (.int .i64 pi) := HKP3.out.cell 1
            have qw := HWC.out w3 w3.drew HL3.out (Below.refl _ _).drew
            have HQ : Hid (∀ w', Kp dTys w3 w' → w'.cell? ⟨gs, 0, none⟩ = some (.pointer (some ⟨g, 0, none⟩)) ∧ w'.cell? ⟨gs, 1, none⟩ = some (.string s) ∧ w'.cell? ⟨wr.heap.size, 1, none⟩ = some (.int .i64 pi)) := fun w' k => ⟨(HS3.out.kp k).c0, (HS3.out.kp k).c1, (Blk.kp HKP3.out k (by decide)).cell 1⟩
            go_upto_region 16 with (fail)
            go_region_held3 (fun w' => w'.cell? ⟨gs, 0, none⟩ = some (.pointer (some ⟨g, 0, none⟩)) ∧ w'.cell? ⟨gs, 1, none⟩ = some (.string s) ∧ w'.cell? ⟨wr.heap.size, 1, none⟩ = some (.int .i64 pi))
              (first | with_reducible exact ⟨c0, c1, c2⟩ | with_reducible exact f0)
              ((go_at_call 32; (with_reducible refine qw.mono ?_); rintro e w4 ⟨rfl, L4, B4, K4⟩; have f0 := HQ.out w4 K4))
            have hst := HST.out
            simp only [↓reduceIte] at hst
            have HS4 := Lib.hid (HS3.out.kp K4)
            have HR4 := Lib.hid (HR3.out.kp (t := 23) (Ts := dTys) HA3.out B4 K4 (by decide))
            have HA4 : Hid (0 < (flatPv l).length → ∀ a, some (⟨bA, oA, none⟩ : Addr) = some a → a.block < base ∨ TyAt w4 a.block 23) := fun h a ha => (HA3.out h a ha).imp id fun h => h.kp K4 (by decide)
            have HB4 := Lib.hid (HB3.out.trans B4)
            have HK4 := Lib.hid (HK3.out.trans K4)
            have HL4 := Lib.hid L4
            clear L4 B4 K4 f0 qw c0 c1 c2 HQ
            by_cases he : e2 = 0
            · subst he
              simp only [↓reduceIte] at hst
              have HP4 : Hid (Putting d s l M (k + 1) d3) := ⟨by rw [HST2.out]; exact hst, HWF.out.1, HMU.out⟩
              clear hst
              go_wp2
              go_roundw
              case rel => exact ⟨k + 1, d3, by omega, by go_num, HP4, HL4, HS4, HR4, HA4, HB4, HK4⟩
              case measure => simp [intOf]; omega
            · simp only [he, ↓reduceIte] at hst
              have HV := Lib.hid hst
              clear hst
              go_wp2
              go_ret
              rw [HV.out]
              exact ⟨rfl, HL4.out, HS4.out, HB4.out, HK4.out⟩
          · have hst := HST.out
            simp only [he, ↓reduceIte] at hst
            have HV := Lib.hid hst
            clear hst
            go_wp2
            go_ret
            rw [HV.out]
            exact ⟨rfl, HL3.out, HS3.out, HB3.out, HK3.out⟩
        · have hz : putS d s l = (0, d1) := by
            rw [HE.out, HPK.out.eq, List.drop_eq_nil_of_le (by have := HN.out; omega)]; rfl
          have HV := Lib.hid hz
          clear hz
          go_wp2
          go_ret
          rw [HV.out]
          exact ⟨rfl, HLk.out, HSk.out, HBk.out, HKk.out⟩
end
end Go.Proofs.Ytkgcihhpcbodnaa
