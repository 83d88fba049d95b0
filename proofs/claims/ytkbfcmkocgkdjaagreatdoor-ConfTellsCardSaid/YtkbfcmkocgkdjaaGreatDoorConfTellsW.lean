/-
  The walk of the law ConfTells: for every input it returns true and changes nothing that was there. Conditions: the library's own variables are as told.
-/
import Derived.Test.YtkbfcmkocgkdjaaGreatDoorConfRef
import Derived.Test.YtkbfcmkocgkdjaaGreatDoorConfAlive
import Derived.Test.YtkbfcmkocgkdjaaGreatDoorBookIntsE
import Derived.Test.YtkbfcmkocgkdjaaGreatDoorBookIntsL
import Derived.Test.YtkbfcmkocgkdjaaGreatDoorTyAt
namespace Go.Proofs.YtkbfcmkocgkdjaaGreatDoor
open Go Go.RowKit
attribute [local go_sem] cell_set_if

theorem own_below {w w' : World} {base n s : Nat} {e : TypeId} {v : Value} {xs : List Value} (h : w.ownsRow base e s v n xs) (b : Below w.heap.size w w') : w'.ownsRow base e s v n xs := own_frm h (Frm.of_below (S := no) b) (fun _ _ => id)
theorem bookS_ty {base g N : Nat} {w : World} {f : Nat → List Int} {v1 v2 : Value} {V W : List Value} (h : BookZ base w g N f v1 v2 V W) : TyS w (bookS g v1 v2) [35, 22] := fun q _ hs => by
  rcases hs with rfl | hs | hs
  · exact ⟨_, by simp, h.B.ty⟩
  · exact ⟨_, by simp, own_ty h.r1 hs⟩
  · exact ⟨_, by simp, own_ty h.r2 hs⟩
theorem own_book {base base' g N n : Nat} {w w' : World} {f : Nat → List Int} {v1 v2 v : Value} {V W : List Value} {xs : List Value} (h : BookZ base w g N f v1 v2 V W) (k : Frm (bookS g v1 v2) w w') (o : w.ownsRow base' 3 1 v n xs) : w'.ownsRow base' 3 1 v n xs :=
  own_frm_ty o k (bookS_ty h) (by decide)
/-- The blocks of kept lists are below this number. -/
def VLt (V : List Value) (B : Nat) : Prop := ∀ (i : Nat) (x : Value) (b : Nat), V[i]? = some x → x.ownBlock = some b → b < B
theorem VLt.mono {V : List Value} {B B' : Nat} (h : VLt V B) (hB : B ≤ B') : VLt V B' := fun i x b h1 h2 => Nat.lt_of_lt_of_le (h i x b h1 h2) hB
theorem VLt.snoc {V : List Value} {B : Nat} {v : Value} (h : VLt V B) (hv : ∀ b, v.ownBlock = some b → b < B) : VLt (V ++ [v]) B := fun i x b h1 h2 => by
  by_cases hl : i < V.length
  · rw [List.getElem?_append_left hl] at h1; exact h i x b h1 h2
  · have hlt := (List.getElem?_eq_some_iff.1 h1).1
    simp at hlt
    obtain rfl : i = V.length := by omega
    simp at h1
    subst h1
    exact hv b h2
theorem VLt.fresh {V : List Value} {B base n : Nat} {w : World} {v : Value} {xs : List Value} (h : VLt V B) (o : w.ownsRow base 3 1 v n xs) (hB : B ≤ base) : ∀ (i : Nat) (x : Value) (b : Nat), V[i]? = some x → x.ownBlock = some b → v.ownBlock ≠ some b := fun i x b h1 h2 e => by
  have := h i x b h1 h2
  have := (o.lt b e).1
  omega
theorem readV_len (s : List UInt8) : (readV s).1.length ≤ s.length := by
  unfold readV
  split
  · show (evens s).length ≤ _
    rw [evens_len]; omega
  · simp
theorem addV_len (l : List Int) (id : Int) : (addV l id).1.length ≤ l.length + 1 := by
  unfold addV
  split
  · split
    · simp
    · show (sortZ _).length ≤ _; rw [sortZ_len]; simp
  · simp
theorem dropV_len (l : List Int) (id : Int) : (dropV l id).1.length ≤ l.length := by
  unfold dropV
  split
  · split
    · split
      · simp
      · exact List.length_filter_le _ _
    · simp
  · simp
theorem textV_size (l : List Int) : True := trivial
theorem mem_next {l : List Int} {k : Nat} {x id : Int} (h : l[k]? = some x) : decide (id ∈ l.take (k + 1)) = (decide (id ∈ l.take k) || (x == id)) := by
  rw [List.take_add_one, h, Bool.eq_iff_iff]
  simp
  constructor
  · rintro (h | h)
    · exact .inl h
    · exact .inr h.symm
  · rintro (h | h)
    · exact .inl h
    · exact .inr h.symm

set_option maxRecDepth 100000 in
set_option maxHeartbeats 2000000 in
theorem conftells_bad (A0 A1 A2 : Option Addr) (n0 c0 n1 c1 n2 c2 : Nat) (s : ByteArray) (id : Int) (w : World) (hp : PowIs w) (hm : MaxIs w) (hbad : 30 < n0 ∨ 30 < n1 ∨ 30 < n2 ∨ 60 < s.size) :
    Calls Tryz.prog 3 #[.slice A0 n0 c0, .slice A1 n1 c1, .slice A2 n2 c2, .string s, .int .i64 id] w fun e w' => e = .returned (.bool true) ∧ Below w.heap.size w w' := by
  have HA := Lib.hid (alive22_any w hp hm)
  have hc : (30 : Int) < (n0 : Int) ∨ ((n0 : Int) ≤ 30 ∧ (30 : Int) < (n1 : Int)) ∨ ((n0 : Int) ≤ 30 ∧ (n1 : Int) ≤ 30 ∧ (30 : Int) < (n2 : Int)) ∨ ((n0 : Int) ≤ 30 ∧ (n1 : Int) ≤ 30 ∧ (n2 : Int) ≤ 30 ∧ (60 : Int) < (s.size : Int)) := by omega
  clear hp hm hbad
  rcases hc with h1 | ⟨h1, h2⟩ | ⟨h1, h2, h3⟩ | ⟨h1, h2, h3, h4⟩
  all_goals
    go_enter Tryz.func3, Tryz.ntmps3
    dsimp only [List.append]
    go_wp2_with (go_at_call 4; refine HA.out.mono ?_; rintro e w1 ⟨rfl, b1⟩)
    go_ret
    exact ⟨rfl, b1⟩

set_option maxRecDepth 100000 in
set_option maxHeartbeats 8000000 in
theorem conftells_walk (A0 A1 A2 : Option Addr) (n0 c0 n1 c1 n2 c2 : Nat) (l0 l1 l2 : List Int) (s : ByteArray) (id : Int) (w : World) (hp : PowIs w) (hm : MaxIs w)
    (r0 : Rd w A0 (flatZ l0)) (e0 : l0.length = n0) (hc0 : n0 ≤ c0) (r1 : Rd w A1 (flatZ l1)) (e1 : l1.length = n1) (r2 : Rd w A2 (flatZ l2)) (e2 : l2.length = n2) (h0 : n0 ≤ 30) (h1 : n1 ≤ 30) (h2 : n2 ≤ 30) (hs : s.size ≤ 60) :
    Calls Tryz.prog 3 #[.slice A0 n0 c0, .slice A1 n1 c1, .slice A2 n2 c2, .string s, .int .i64 id] w fun e w' => e = .returned (.bool true) ∧ Below w.heap.size w w' := by
  have HA := Lib.hid (alive22_any w hp hm)
  have R0 := Lib.hid r0
  have R1 := Lib.hid r1
  have R2 := Lib.hid r2
  have E0 := Lib.hid e0
  have E1 := Lib.hid e1
  have E2 := Lib.hid e2
  have HP := Lib.hid hp
  have HM := Lib.hid hm
  have hn0 : (n0 : Int) ≤ 30 := by omega
  have hn1 : (n1 : Int) ≤ 30 := by omega
  have hn2 : (n2 : Int) ≤ 30 := by omega
  have hsi : (s.size : Int) ≤ 60 := by omega
  have d0 : decide ((30 : Int) < (n0 : Int)) = false := decide_eq_false (by omega)
  have d1 : decide ((30 : Int) < (n1 : Int)) = false := decide_eq_false (by omega)
  have d2 : decide ((30 : Int) < (n2 : Int)) = false := decide_eq_false (by omega)
  have d3 : decide ((60 : Int) < (s.size : Int)) = false := decide_eq_false (by omega)
  obtain ⟨T, hT⟩ : ∃ T, T = bs (textV l0).1 := ⟨_, rfl⟩
  obtain ⟨t, ht⟩ : ∃ t, t = (textV l0).2 := ⟨_, rfl⟩
  obtain ⟨RV, hRV⟩ : ∃ RV, RV = readV (bts s) := ⟨_, rfl⟩
  obtain ⟨AV, hAV⟩ : ∃ AV, AV = addV l0 id := ⟨_, rfl⟩
  obtain ⟨DV, hDV⟩ : ∃ DV, DV = dropV l0 id := ⟨_, rfl⟩
  have hRl : RV.1.length ≤ 60 := by rw [hRV]; have := readV_len (bts s); rw [bts_len] at this; omega
  have hAl : AV.1.length ≤ 31 := by rw [hAV]; have := addV_len l0 id; omega
  have hDl : DV.1.length ≤ 30 := by rw [hDV]; have := dropV_len l0 id; omega
  have HT1 : Hid (∀ W A c, PowIs W → Rd W A (flatZ l0) → Calls Tryz.prog 6 #[.slice A n0 c] W fun e w' => e = .returned (.tuple #[.string T, .int .i64 t]) ∧ Below W.heap.size W w') := fun W A c hW hr => by
    rw [hT, ht]; exact ctext_any A n0 c l0 W hr E0.out (by omega) hW
  have HT2 : Hid (∀ W, Below w.heap.size w W → Calls Tryz.prog 7 #[.slice A0 n0 c0] W fun e w' => e = .returned (.tuple #[.string T, .int .i64 t]) ∧ Below W.heap.size W w') := fun W h => by
    rw [hT, ht]; exact rtext_any A0 n0 c0 l0 W (R0.out.below h) E0.out (by omega)
  have HR1 : Hid (∀ W, MaxIs W → Calls Tryz.prog 8 #[.string s] W fun e w' => OwnR W.heap.size RV e w' ∧ Below W.heap.size W w') := fun W hW => by
    rw [hRV]; exact cread_any s W (by omega) hW
  have HR2 : Hid (∀ W, Calls Tryz.prog 9 #[.string s] W fun e w' => OwnR W.heap.size RV e w' ∧ Below W.heap.size W w') := fun W => by
    rw [hRV]; exact rread_any s W (by omega)
  have HA1 : Hid (∀ W A c, Rd W A (flatZ l0) → Calls Tryz.prog 10 #[.slice A n0 c, .int .i64 id] W fun e w' => OwnR W.heap.size AV e w' ∧ Below W.heap.size W w') := fun W A c hr => by
    rw [hAV]; exact cadd_any A n0 c l0 id W hr E0.out (by omega)
  have HA2 : Hid (∀ W, Below w.heap.size w W → Calls Tryz.prog 11 #[.slice A0 n0 c0, .int .i64 id] W fun e w' => OwnR W.heap.size AV e w' ∧ Below W.heap.size W w') := fun W h => by
    rw [hAV]; exact radd_any A0 n0 c0 l0 id W (R0.out.below h) E0.out hc0 (by omega)
  have HD1 : Hid (∀ W A c, Rd W A (flatZ l0) → Calls Tryz.prog 12 #[.slice A n0 c, .int .i64 id] W fun e w' => OwnR W.heap.size DV e w' ∧ Below W.heap.size W w') := fun W A c hr => by
    rw [hDV]; exact cdrop_any A n0 c l0 id W hr E0.out (by omega)
  have HD2 : Hid (∀ W, Below w.heap.size w W → Calls Tryz.prog 13 #[.slice A0 n0 c0, .int .i64 id] W fun e w' => OwnR W.heap.size DV e w' ∧ Below W.heap.size W w') := fun W h => by
    rw [hDV]; exact rdrop_any A0 n0 c0 l0 id W (R0.out.below h) E0.out (by omega)
  clear hp hm r0 r1 r2 e0 e1 e2 hT ht hRV hAV hDV
  go_enter Tryz.func3, Tryz.ntmps3
  dsimp only [List.append]
  go_wp2_with (go_at_call 4; refine HA.out.mono ?_; rintro e w1 ⟨rfl, b1⟩)
  have hK0 := BookZ.start w.heap.size w1 b1.size (fun _ => [])
  unfold bookZ at hK0
  have B1 : Below w.heap.size w (w1.alloc (.cells (bookZ (.slice none 0 0) (.slice none 0 0)) 35)) := b1.alloc b1.size _
  unfold bookZ at B1
  have hgs := b1.size
  generalize w1.heap.size = g at *
  clear b1
  go_loopw [12] (fun u12 wr => ∃ k : Nat, k ≤ 2 ∧ u12 = .int .i64 k ∧ (∃ N f v1 v2 V W, BookZ w.heap.size wr g N f v1 v2 V W ∧ N ≤ 3 * k ∧ ∀ i, (f i).length ≤ 100) ∧ Below w.heap.size w wr) (fun u12 _ => 2 - (intOf u12).toNat)
  case atStart => exact ⟨0, by omega, rfl, ⟨0, fun _ => [], _, _, _, _, hK0, by omega, fun i => by simp⟩, B1⟩
  case round =>
    obtain ⟨k, hk, rfl, ⟨N, f, v1, v2, V, W, H0, hN, hfl⟩, B0⟩ := hrel
    clear hK0 B1
    obtain ⟨wo, rfl⟩ : ∃ wo : World, wo = wr := ⟨_, rfl⟩
    by_cases hlt : k < 2
    · have hki : (k : Int) < 2 := by omega
      have HFL := Lib.hid hfl
      have HV0 : Hid (VLt V wo.heap.size) := fun i x b x1 x2 => (H0.rV.lt i x b x1 x2).2
      have HH0 := Lib.hid H0
      clear hfl H0
      go_upto_region 16 with (first
        | (go_at_call 5; ((with_reducible refine (lentZ_any A0 n0 c0 l0 _ (R0.out.below B0) E0.out (by omega)).mono ?_); rintro e w1 ⟨⟨gx, nx, cx, hnx, hcx, rfl, ox⟩, b1⟩); have B1 := below_of b1 B0 B0.size; obtain rfl : n0 = nx := E0.out.symm.trans hnx; have Lx1 := Lib.hid ox; have Rx1 := (Rd.of_own ox); rw [flatZ_app] at Rx1; have Rx1 := Rx1.pre; clear hnx ox)
        | (go_at_call 5; ((with_reducible refine (lentZ_any A1 n1 c1 l1 _ (R1.out.below B1) E1.out (by omega)).mono ?_); rintro e w2 ⟨⟨gy, ny, cy, hny, hcy, rfl, oy⟩, b2⟩); have B2 := below_of b2 B1 B1.size; obtain rfl : n1 = ny := E1.out.symm.trans hny; have Ly2 := Lib.hid oy; clear hny oy; have Rx2 := Rx1.below b2)
        | (go_at_call 5; ((with_reducible refine (lentZ_any A2 n2 c2 l2 _ (R2.out.below B2) E2.out (by omega)).mono ?_); rintro e w3 ⟨⟨gz, nz, cz, hnz, hcz, rfl, oz⟩, b3⟩); have B3 := below_of b3 B2 B2.size; obtain rfl : n2 = nz := E2.out.symm.trans hnz; have Lz3 := Lib.hid oz; clear hnz oz; have Rx3 := Rx2.below b3)
        | (go_at_call 6; ((with_reducible refine (HT1.out _ _ _ (powIs_below HP.out B3) Rx3).mono ?_); rintro e w4 ⟨rfl, b4⟩); have B4 := below_of b4 B3 B3.size; have Rx4 := Rx3.below b4)
        | (go_at_call 7; ((with_reducible refine (HT2.out _ B4).mono ?_); rintro e w5 ⟨rfl, b5⟩); have B5 := below_of b5 B4 B4.size; have Rx5 := Rx4.below b5)
        | (go_at_call 8; ((with_reducible refine (HR1.out _ (maxIs_below HM.out B5)).mono ?_); rintro e w6 ⟨⟨Bc, mc, dc, rfl, hmc, oc⟩, b6⟩); have B6 := below_of b6 B5 B5.size; have Lc6 := Lib.hid oc; have HMc := Lib.hid hmc; clear oc hmc; have Rx6 := Rx5.below b6)
        | (go_at_call 9; ((with_reducible refine (HR2.out _).mono ?_); rintro e w7 ⟨⟨Bd, md, dd, rfl, hmd, od⟩, b7⟩); have B7 := below_of b7 B6 B6.size; obtain rfl : mc = md := HMc.out.symm.trans hmd; have Ld7 := Lib.hid od; clear od hmd; have Rx7 := Rx6.below b7)
        | (go_at_call 10; ((with_reducible refine (HA1.out _ _ _ Rx7).mono ?_); rintro e w8 ⟨⟨Bo, mo, do_, rfl, hmo, oo⟩, b8⟩); have B8 := below_of b8 B7 B7.size; have Lo8 := Lib.hid oo; have HMo := Lib.hid hmo; clear oo hmo; have Rx8 := Rx7.below b8)
        | (go_at_call 11; ((with_reducible refine (HA2.out _ B8).mono ?_); rintro e w9 ⟨⟨Bp, mp, dp, rfl, hmp, op⟩, b9⟩); have B9 := below_of b9 B8 B8.size; obtain rfl : mo = mp := HMo.out.symm.trans hmp; have Lp9 := Lib.hid op; clear op hmp; have Rx9 := Rx8.below b9)
        | (go_at_call 12; ((with_reducible refine (HD1.out _ _ _ Rx9).mono ?_); rintro e w10 ⟨⟨Bq, mq, dq, rfl, hmq, oq⟩, b10⟩); have B10 := below_of b10 B9 B9.size; have Lq10 := Lib.hid oq; have HMq := Lib.hid hmq; clear oq hmq; have Rx10 := Rx9.below b10)
        | (go_at_call 13; ((with_reducible refine (HD2.out _ B10).mono ?_); rintro e w11 ⟨⟨Br, mr, dr, rfl, hmr, orr⟩, b11⟩); have B11 := below_of b11 B10 B10.size; obtain rfl : mq = mr := HMq.out.symm.trans hmr; have Lr11 := Lib.hid orr; clear orr hmr))
      have a11 : Below w11.heap.size w11 w11 := Below.refl _ _
      have a10 : Below w10.heap.size w10 w11 := below_of a11 b11 b11.size
      have a9 : Below w9.heap.size w9 w11 := below_of a10 b10 b10.size
      have a8 : Below w8.heap.size w8 w11 := below_of a9 b9 b9.size
      have a7 : Below w7.heap.size w7 w11 := below_of a8 b8 b8.size
      have a6 : Below w6.heap.size w6 w11 := below_of a7 b7 b7.size
      have a5 : Below w5.heap.size w5 w11 := below_of a6 b6 b6.size
      have a4 : Below w4.heap.size w4 w11 := below_of a5 b5 b5.size
      have a3 : Below w3.heap.size w3 w11 := below_of a4 b4 b4.size
      have a2 : Below w2.heap.size w2 w11 := below_of a3 b3 b3.size
      have a1 : Below w1.heap.size w1 w11 := below_of a2 b2 b2.size
      have a0 : Below wo.heap.size wo w11 := below_of a1 b1 b1.size
      have Sx := Lib.hid (own_below Lx1.out a1)
      have Sy := Lib.hid (own_below Ly2.out a2)
      have Sz := Lib.hid (own_below Lz3.out a3)
      have Sc := Lib.hid (own_below Lc6.out a6)
      have Sd := Lib.hid (own_below Ld7.out a7)
      have So := Lib.hid (own_below Lo8.out a8)
      have Sp := Lib.hid (own_below Lp9.out a9)
      have Sq := Lib.hid (own_below Lq10.out a10)
      have Sr := Lib.hid (own_below Lr11.out a11)
      have z5 : wo.heap.size ≤ w5.heap.size := by have := b1.size; have := b2.size; have := b3.size; have := b4.size; have := b5.size; omega
      have z7 : w6.heap.size ≤ w7.heap.size := b7.size
      have z9 : w8.heap.size ≤ w9.heap.size := b9.size
      have z8 : w7.heap.size ≤ w8.heap.size := b8.size
      have zz : w9.heap.size ≤ w10.heap.size := b10.size
      have zw : w10.heap.size ≤ w11.heap.size := b11.size
      have zv : w5.heap.size ≤ w6.heap.size := b6.size
      have tc : ∀ b, (Value.slice Bc mc dc).ownBlock = some b → b < w6.heap.size := fun b hb => (Lc6.out.lt b hb).2
      have to_ : ∀ b, (Value.slice Bo mo do_).ownBlock = some b → b < w8.heap.size := fun b hb => (Lo8.out.lt b hb).2
      have VLc := Lib.hid ((HV0.out.mono z5).mono zv |>.snoc tc)
      have VLo := Lib.hid ((VLc.out.mono z7).mono z8 |>.snoc to_)
      have K0 := HH0.out.below a0
      have Fc := Lib.hid ((HV0.out.mono z5).fresh Lc6.out (Nat.le_refl _))
      have Fo := Lib.hid ((VLc.out.mono z7).fresh Lo8.out (Nat.le_refl _))
      have Fq := Lib.hid ((VLo.out.mono z9).fresh Lq10.out (Nat.le_refl _))
      have hwc : w.heap.size ≤ w5.heap.size := Nat.le_trans B0.size z5
      have hwo : w.heap.size ≤ w7.heap.size := by omega
      have hwq : w.heap.size ≤ w9.heap.size := by omega
      have hmc60 : mc ≤ 60 := by have := HMc.out; omega
      have hmo31 : mo ≤ 31 := by have := HMo.out; omega
      have hmq30 : mq ≤ 30 := by have := HMq.out; omega
      have B11s := B11.size
      clear a0 a1 a2 a3 a4 a5 a6 a7 a8 a9 a10 a11 b1 b2 b3 b4 b5 b6 b7 b8 b9 b10 b11 Rx1 Rx2 Rx3 Rx4 Rx5 Rx6 Rx7 Rx8 Rx9 Rx10 B1 B2 B3 B4 B5 B6 B7 B8 B9 B10 Lx1 Ly2 Lz3 Lc6 Ld7 Lo8 Lp9 Lq10 Lr11 tc to_ z5 z7 z9 z8 zz zv HV0 HH0 VLc VLo
      go_wp2_with fail
      have C0 := Lib.hid B11
      refine (addZ_any w.heap.size g _ _ _ _ _ _ Bc mc dc RV.1 _ K0 (by omega) C0.out.size HMc.out (by omega) (own_base Sc.out hwc) Fc.out).mono ?_
      rintro e k1 ⟨rfl, ⟨y1, z1, U1, X1, _, _⟩, F1⟩
      have Sx1 := Lib.hid (own_book K0 F1 Sx.out)
      have Sy1 := Lib.hid (own_book K0 F1 Sy.out)
      have Sz1 := Lib.hid (own_book K0 F1 Sz.out)
      have Sc1 := Lib.hid (own_book K0 F1 Sc.out)
      have Sd1 := Lib.hid (own_book K0 F1 Sd.out)
      have So1 := Lib.hid (own_book K0 F1 So.out)
      have Sp1 := Lib.hid (own_book K0 F1 Sp.out)
      have Sq1 := Lib.hid (own_book K0 F1 Sq.out)
      have Sr1 := Lib.hid (own_book K0 F1 Sr.out)
      have C1 := Lib.hid (below_frm C0.out F1 (Nat.le_refl _) (fun i hi => by rcases hi with rfl | hi | hi; exact K0.lo; exact (K0.r1.lt i hi).1; exact (K0.r2.lt i hi).1))
      clear F1
      go_wp2_with fail
      refine (addZ_any w.heap.size g _ _ _ _ _ _ Bo mo do_ AV.1 _ X1 (by omega) C1.out.size HMo.out (by omega) (own_base So1.out hwo) Fo.out).mono ?_
      rintro e k2 ⟨rfl, ⟨y2, z2, U2, X2, _, _⟩, F2⟩
      have Sx2 := Lib.hid (own_book X1 F2 Sx1.out)
      have Sy2 := Lib.hid (own_book X1 F2 Sy1.out)
      have Sz2 := Lib.hid (own_book X1 F2 Sz1.out)
      have Sc2 := Lib.hid (own_book X1 F2 Sc1.out)
      have Sd2 := Lib.hid (own_book X1 F2 Sd1.out)
      have So2 := Lib.hid (own_book X1 F2 So1.out)
      have Sp2 := Lib.hid (own_book X1 F2 Sp1.out)
      have Sq2 := Lib.hid (own_book X1 F2 Sq1.out)
      have Sr2 := Lib.hid (own_book X1 F2 Sr1.out)
      have C2 := Lib.hid (below_frm C1.out F2 (Nat.le_refl _) (fun i hi => by rcases hi with rfl | hi | hi; exact X1.lo; exact (X1.r1.lt i hi).1; exact (X1.r2.lt i hi).1))
      clear F2
      go_wp2_with fail
      refine (addZ_any w.heap.size g _ _ _ _ _ _ Bq mq dq DV.1 _ X2 (by omega) C2.out.size HMq.out (by omega) (own_base Sq2.out hwq) Fq.out).mono ?_
      rintro e k3 ⟨rfl, ⟨y3, z3, U3, X3, _, _⟩, F3⟩
      have Sx3 := Lib.hid (own_book X2 F3 Sx2.out)
      have Sy3 := Lib.hid (own_book X2 F3 Sy2.out)
      have Sz3 := Lib.hid (own_book X2 F3 Sz2.out)
      have Sc3 := Lib.hid (own_book X2 F3 Sc2.out)
      have Sd3 := Lib.hid (own_book X2 F3 Sd2.out)
      have So3 := Lib.hid (own_book X2 F3 So2.out)
      have Sp3 := Lib.hid (own_book X2 F3 Sp2.out)
      have Sq3 := Lib.hid (own_book X2 F3 Sq2.out)
      have Sr3 := Lib.hid (own_book X2 F3 Sr2.out)
      have C3 := Lib.hid (below_frm C2.out F3 (Nat.le_refl _) (fun i hi => by rcases hi with rfl | hi | hi; exact X2.lo; exact (X2.r1.lt i hi).1; exact (X2.r2.lt i hi).1))
      clear F3
      have HX := Lib.hid X3
      have HFL3 : Hid (∀ i, ((fun j => if j = N + 1 + 1 then DV.1 else if j = N + 1 then AV.1 else if j = N then RV.1 else f j) i).length ≤ 100) := fun i => by
        show (if i = N + 1 + 1 then DV.1 else if i = N + 1 then AV.1 else if i = N then RV.1 else f i).length ≤ 100
        split
        · omega
        · split
          · omega
          · split
            · omega
            · exact HFL.out i
      clear K0 X1 X2 X3
      go_wp2_with fail
      go_loopw [32, 33] (fun u32 u33 wr => ∃ j : Nat, j ≤ n0 ∧ u33 = .int .i64 j ∧ u32 = .bool (decide (id ∈ l0.take j)) ∧ wr = k3) (fun _ u33 _ => n0 - (intOf u33).toNat)
      case atStart => exact ⟨0, by omega, rfl, by simp, rfl⟩
      case round =>
        obtain ⟨j, hj, rfl, rfl, hwk⟩ := hrel
        obtain rfl : k3 = wr := hwk.symm
        by_cases hjn : j < n0
        · obtain ⟨b4, o4, x, rfl, _, hx, q0⟩ := (R0.out.below C3.out).num (k := j) (by have := E0.out; omega)
          have hji : (j : Int) < (n0 : Int) := by omega
          have HMN := Lib.hid (mem_next (id := id) hx)
          obtain ⟨m0, hm0⟩ : ∃ m0, m0 = decide (id ∈ l0.take j) := ⟨_, rfl⟩
          rw [← hm0]
          rw [← hm0] at HMN
          clear hx hm0
          cases m0
          · go_wp2
            go_roundw
            case rel => exact ⟨j + 1, by omega, by go_num, by rw [HMN.out]; rfl, by first | rfl | trivial⟩
            case measure => simp [intOf]; omega
          · go_wp2
            go_roundw
            case rel => exact ⟨j + 1, by omega, by go_num, by rw [HMN.out]; rfl, by first | rfl | trivial⟩
            case measure => simp [intOf]; omega
        · obtain rfl : n0 = j := by omega
          have hall : l0.take n0 = l0 := List.take_of_length_le (by have := E0.out; omega)
          rw [hall]
          clear hall
          obtain ⟨hm, hhm⟩ : ∃ hm, hm = decide (id ∈ l0) := ⟨_, rfl⟩
          rw [← hhm]
          have HSm : Hid (∀ W A B n c d (xs : List Int), Rd W A (flatZ xs) → Rd W B (flatZ xs) → xs.length = n → n ≤ 100 → Calls Tryz.prog 15 #[.slice A n c, .slice B n d] W fun e w' => e = .returned (.bool true) ∧ Below W.heap.size W w') := fun W A B n c d xs ha hb hn hl =>
            (sameZ_yes A B n c d xs W ha hb hn (by omega)).mono fun e w' ⟨x1, x2⟩ => ⟨x1, Qt.below x2 _⟩
          have Rx : Hid (Rd k3 (some ⟨gx, 0, none⟩) (flatZ l0)) := by
            have := Rd.of_own Sx3.out; rw [flatZ_app] at this; exact this.pre
          have Ry : Hid (Rd k3 (some ⟨gy, 0, none⟩) (flatZ l1)) := by
            have := Rd.of_own Sy3.out; rw [flatZ_app] at this; exact this.pre
          have Rz : Hid (Rd k3 (some ⟨gz, 0, none⟩) (flatZ l2)) := by
            have := Rd.of_own Sz3.out; rw [flatZ_app] at this; exact this.pre
          obtain ⟨sv, hsv⟩ : ∃ sv, sv = stepV l0 l1 := ⟨_, rfl⟩
          obtain ⟨qv, hqv⟩ : ∃ qv, qv = quorV l0 l1 := ⟨_, rfl⟩
          obtain ⟨iv, hiv⟩ : ∃ iv, iv = idxV l0 l2 := ⟨_, rfl⟩
          have HHas : Hid (∀ W, Below k3.heap.size k3 W → Calls Tryz.prog 16 #[.slice (some ⟨gx, 0, none⟩) n0 cx, .int .i64 id] W fun e w' => e = .returned (.bool hm) ∧ w' = W) := fun W h => by
            rw [hhm]; exact chas_any _ n0 cx l0 id W (Rx.out.below h) E0.out (by omega)
          have HSt1 : Hid (∀ W, Below k3.heap.size k3 W → Calls Tryz.prog 17 #[.slice (some ⟨gx, 0, none⟩) n0 cx, .slice (some ⟨gy, 0, none⟩) n1 cy] W fun e w' => e = .returned (.bool sv) ∧ Below W.heap.size W w') := fun W h => by
            rw [hsv]; exact (cstep_any _ _ n0 cx n1 cy l0 l1 W (Rx.out.below h) E0.out (Ry.out.below h) E1.out (by omega) (by omega)).mono fun e w' ⟨x1, x2⟩ => ⟨x1, x2.below _⟩
          have HSt2 : Hid (∀ W, Below w.heap.size w W → Calls Tryz.prog 18 #[.slice A0 n0 c0, .slice A1 n1 c1] W fun e w' => e = .returned (.bool sv) ∧ Below W.heap.size W w') := fun W h => by
            rw [hsv]; exact (rstep_any A0 A1 n0 c0 n1 c1 l0 l1 W (R0.out.below h) E0.out (R1.out.below h) E1.out (by omega) (by omega)).mono fun e w' ⟨x1, x2⟩ => ⟨x1, x2.below _⟩
          have HQ1 : Hid (∀ W, Below k3.heap.size k3 W → Calls Tryz.prog 19 #[.slice (some ⟨gx, 0, none⟩) n0 cx, .slice (some ⟨gy, 0, none⟩) n1 cy] W fun e w' => e = .returned (.bool qv) ∧ Below W.heap.size W w') := fun W h => by
            rw [hqv]; exact (cquorum_any _ _ n0 cx n1 cy l0 l1 W (Rx.out.below h) E0.out (Ry.out.below h) E1.out (by omega) (by omega)).mono fun e w' ⟨x1, x2⟩ => ⟨x1, x2.below _⟩
          have HQ2 : Hid (∀ W, Below w.heap.size w W → Calls Tryz.prog 20 #[.slice A0 n0 c0, .slice A1 n1 c1] W fun e w' => e = .returned (.bool qv) ∧ Below W.heap.size W w') := fun W h => by
            rw [hqv]; exact (rquorum_any A0 A1 n0 c0 n1 c1 l0 l1 W (R0.out.below h) E0.out (R1.out.below h) E1.out (by omega) (by omega)).mono fun e w' ⟨x1, x2⟩ => ⟨x1, x2.below _⟩
          have HI1 : Hid (∀ W, Below k3.heap.size k3 W → Calls Tryz.prog 21 #[.slice (some ⟨gx, 0, none⟩) n0 cx, .slice (some ⟨gz, 0, none⟩) n2 cz] W fun e w' => e = .returned (.int .i64 iv) ∧ Below W.heap.size W w') := fun W h => by
            rw [hiv]; exact cindex_any _ _ n0 cx n2 cz l0 l2 W (Rx.out.below h) E0.out (Rz.out.below h) E2.out (by omega) (by omega)
          have HI2 : Hid (∀ W, Below w.heap.size w W → Calls Tryz.prog 22 #[.slice A0 n0 c0, .slice A2 n2 c2] W fun e w' => e = .returned (.int .i64 iv) ∧ Below W.heap.size W w') := fun W h => by
            rw [hiv]; exact (rindex_any A0 A2 n0 c0 n2 c2 l0 l2 W (R0.out.below h) E0.out (R2.out.below h) E2.out (by omega) (by omega)).mono fun e w' ⟨x1, x2⟩ => ⟨x1, x2.below _⟩
          have HL0 : Hid (∀ W, Below k3.heap.size k3 W → Calls Tryz.prog 23 #[.slice (some ⟨gx, 0, none⟩) n0 cx, .slice A0 n0 c0] W fun e w' => e = .returned (.bool true) ∧ Below W.heap.size W w') := fun W h =>
            (staysZ_any A0 gx n0 n0 cx c0 l0 W ((Rd.of_own Sx3.out).below h) ((R0.out.below C3.out).below h) E0.out hcx (by omega)).mono fun e w' ⟨x1, x2⟩ => ⟨x1, x2.below _⟩
          have HL1 : Hid (∀ W, Below k3.heap.size k3 W → Calls Tryz.prog 23 #[.slice (some ⟨gy, 0, none⟩) n1 cy, .slice A1 n1 c1] W fun e w' => e = .returned (.bool true) ∧ Below W.heap.size W w') := fun W h =>
            (staysZ_any A1 gy n1 n1 cy c1 l1 W ((Rd.of_own Sy3.out).below h) ((R1.out.below C3.out).below h) E1.out hcy (by omega)).mono fun e w' ⟨x1, x2⟩ => ⟨x1, x2.below _⟩
          have HL2 : Hid (∀ W, Below k3.heap.size k3 W → Calls Tryz.prog 23 #[.slice (some ⟨gz, 0, none⟩) n2 cz, .slice A2 n2 c2] W fun e w' => e = .returned (.bool true) ∧ Below W.heap.size W w') := fun W h =>
            (staysZ_any A2 gz n2 n2 cz c2 l2 W ((Rd.of_own Sz3.out).below h) ((R2.out.below C3.out).below h) E2.out hcz (by omega)).mono fun e w' ⟨x1, x2⟩ => ⟨x1, x2.below _⟩
          have Rc := Lib.hid (Rd.of_own Sc3.out)
          have Rdd := Lib.hid (Rd.of_own Sd3.out)
          have Ro := Lib.hid (Rd.of_own So3.out)
          have Rp := Lib.hid (Rd.of_own Sp3.out)
          have Rq := Lib.hid (Rd.of_own Sq3.out)
          have Rr := Lib.hid (Rd.of_own Sr3.out)
          have D0 : Below k3.heap.size k3 k3 := Below.refl _ _
          have x1 : (T.toList != T.toList) = false := by simp
          have x2 : (t != t) = false := by simp
          have x3 : (RV.2 != RV.2) = false := by simp
          have x4 : (AV.2 != AV.2) = false := by simp
          have x5 : (DV.2 != DV.2) = false := by simp
          have x6 : (iv != iv) = false := by simp
          have x7 : (hm != hm) = false := by simp
          have x8 : (sv != sv) = false := by simp
          have x9 : (qv != qv) = false := by simp
          clear hhm hsv hqv hiv Sx3 Sy3 Sz3 Sc3 Sd3 So3 Sp3 Sq3 Sr3
          have CC := C3.out
          have DW := fun W (h : Below k3.heap.size k3 W) => below_of h CC CC.size
          have HDW := Lib.hid DW
          clear CC DW
          go_wp2_with (first
            | (go_at_call 15; ((with_reducible refine (HSm.out _ _ _ _ _ _ _ (Rc.out.below D0) (Rdd.out.below D0) HMc.out (by omega)).mono ?_); rintro e m1 ⟨rfl, t1⟩); have D1 := below_of t1 D0 D0.size; clear t1)
            | (go_at_call 15; ((with_reducible refine (HSm.out _ _ _ _ _ _ _ (Ro.out.below D1) (Rp.out.below D1) HMo.out (by omega)).mono ?_); rintro e m2 ⟨rfl, t2⟩); have D2 := below_of t2 D1 D1.size; clear t2)
            | (go_at_call 15; ((with_reducible refine (HSm.out _ _ _ _ _ _ _ (Rq.out.below D2) (Rr.out.below D2) HMq.out (by omega)).mono ?_); rintro e m3 ⟨rfl, t3⟩); have D3 := below_of t3 D2 D2.size; clear t3)
            | (go_at_call 16; ((with_reducible refine (HHas.out _ D3).mono ?_); rintro e m4 ⟨rfl, hm4⟩); subst hm4; have D4 := D3)
            | (go_at_call 17; ((with_reducible refine (HSt1.out _ D4).mono ?_); rintro e m5 ⟨rfl, t5⟩); have D5 := below_of t5 D4 D4.size; clear t5)
            | (go_at_call 18; ((with_reducible refine (HSt2.out _ (HDW.out _ D5)).mono ?_); rintro e m6 ⟨rfl, t6⟩); have D6 := below_of t6 D5 D5.size; clear t6)
            | (go_at_call 19; ((with_reducible refine (HQ1.out _ D6).mono ?_); rintro e m7 ⟨rfl, t7⟩); have D7 := below_of t7 D6 D6.size; clear t7)
            | (go_at_call 20; ((with_reducible refine (HQ2.out _ (HDW.out _ D7)).mono ?_); rintro e m8 ⟨rfl, t8⟩); have D8 := below_of t8 D7 D7.size; clear t8)
            | (go_at_call 21; ((with_reducible refine (HI1.out _ D8).mono ?_); rintro e m9 ⟨rfl, t9⟩); have D9 := below_of t9 D8 D8.size; clear t9)
            | (go_at_call 22; ((with_reducible refine (HI2.out _ (HDW.out _ D9)).mono ?_); rintro e m10 ⟨rfl, t10⟩); have D10 := below_of t10 D9 D9.size; clear t10)
            | (go_at_call 23; ((with_reducible refine (HL0.out _ D10).mono ?_); rintro e m11 ⟨rfl, t11⟩); have D11 := below_of t11 D10 D10.size; clear t11)
            | (go_at_call 23; ((with_reducible refine (HL1.out _ D11).mono ?_); rintro e m12 ⟨rfl, t12⟩); have D12 := below_of t12 D11 D11.size; clear t12)
            | (go_at_call 23; ((with_reducible refine (HL2.out _ D12).mono ?_); rintro e m13 ⟨rfl, t13⟩); have D13 := below_of t13 D12 D12.size; clear t13))
          have E := HDW.out _ D13
          have HXF := HX.out.below D13
          go_roundw
          case rel => exact ⟨k + 1, by omega, by go_num, ⟨N + 1 + 1 + 1, _, _, _, _, _, HXF, by omega, HFL3.out⟩, E⟩
          case measure => simp [intOf]; omega
    · obtain rfl : k = 2 := by omega
      go_wp2_with (go_at_call 24; with_reducible refine (apartZ_any w.heap.size g N (fun i => (f i).length) f v1 v2 V W _ H0 (by omega) (fun _ => rfl) (fun i => Nat.le_trans (hfl i) (by omega)) (by have := B0.size; omega)).mono ?_; rintro e w4 ⟨rfl, F4⟩)
      go_ret
      exact ⟨rfl, below_frm B0 F4 (Nat.le_refl _) (fun i hi => by obtain ⟨a, x, hx1, hx2⟩ := hi; exact (H0.rV.lt a x i hx1 hx2).1)⟩
end Go.Proofs.YtkbfcmkocgkdjaaGreatDoor
