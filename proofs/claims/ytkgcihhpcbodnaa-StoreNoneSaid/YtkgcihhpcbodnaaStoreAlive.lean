/-
  The store laws' first calls answer as they should. No condition.
-/
import Derived.Test.YtkgcihhpcbodnaaStoreD
import Derived.Test.YtkgcihhpcbodnaaStoreKP
namespace Go.Proofs.Ytkgcihhpcbodnaa
open Go Go.RowKit
attribute [local go_sem] cell_set_if

section
variable {nm : ByteArray} {N S : List ByteArray} {b : Bool} {W : List Wr}
theorem kD_read (hn : nameOk nm = true) {j : Nat} {x : ByteArray} (hx : N[j]? = some x) : readD (kD nm N S b W) nm (j : Int) = (x, 0) := by
  have hl := (List.getElem?_eq_some_iff.1 hx).1
  unfold readD
  rw [kD_file hn]
  cases N with
  | nil => simp at hl
  | cons y N =>
    simp only [List.isEmpty_cons, Bool.false_eq_true, if_false]
    rw [if_neg (by omega), Int.toNat_natCast, List.getD_eq_getElem?_getD, hx]; rfl
theorem kD_open (hn : nameOk nm = true) : openE (kD nm N S b W) nm = 0 := by
  unfold openE sizeD
  rw [kD_file hn]
  cases N with
  | nil =>
    simp only [List.isEmpty_nil, if_true, kD_file1 hn]
    rfl
  | cons y N => rfl
end
def stN : ByteArray := ⟨#[97]⟩
theorem stN_ok : nameOk stN = true := rfl
def stP : Pv := ⟨3, 3, 1, ⟨#[120]⟩⟩
theorem stP_put : stP.put = true := by decide
def stD : Ds := (putS (newD 0) stN [stP]).2
theorem stD_eq : stD = kD stN (putN [] [stP]) [] false (putW [] [stP]) := by
  unfold stD
  rw [kD_new (nm := stN) (S := []) (b := false), kD_putS stN_ok (fun _ => ⟨rfl, rfl⟩) (fun p hp => by rw [List.mem_singleton.1 hp]; exact stP_put) (by simp)]
  rfl
theorem stD_put : putS (newD 0) stN [stP] = (0, stD) := by
  unfold stD
  rw [kD_new (nm := stN) (S := []) (b := false), kD_putS stN_ok (fun _ => ⟨rfl, rfl⟩) (fun p hp => by rw [List.mem_singleton.1 hp]; exact stP_put) (by simp)]
theorem stD_get : getS stD stN 3 = (stP, 0) := by
  refine getS_page (p := stP) stP_put ?_
  rw [stD_eq]
  exact kD_read stN_ok (j := 3) (putPg_at [] stP)
theorem stD_sz : szD stD stN = 4 := by
  rw [stD_eq, kD_sz stN_ok]
  show (putPg [] stP).length = 4
  rw [putPg_len]; rfl
theorem alive8_put {base g gs : Nat} (w : World) (S2 : SBlk w gs g stN 0) (L : LiveAt w base (newD 0) g) :
    Calls Try.prog 11 #[.pointer (some ⟨gs, 0, none⟩), .slice (some ⟨w.heap.size + 1, 0, none⟩) 1 1] ((w.alloc (.cells #[.int .i64 3, .int .i64 3, .int .i64 1, .string ⟨#[120]⟩] 23)).alloc (.cells #[.int .i64 3, .int .i64 3, .int .i64 1, .string ⟨#[120]⟩] 23)) fun e w' => e = .returned (.int .i64 0) ∧ LiveAt w' base stD g ∧ SBlk w' gs g stN 0 ∧ Below base w w' ∧ Blk w' w.heap.size 23 #[.int .i64 3, .int .i64 3, .int .i64 1, .string ⟨#[120]⟩] := by
  have A3 : Below w.heap.size w ((w.alloc (.cells #[.int .i64 3, .int .i64 3, .int .i64 1, .string ⟨#[120]⟩] 23)).alloc (.cells #[.int .i64 3, .int .i64 3, .int .i64 1, .string ⟨#[120]⟩] 23)) := ((Below.refl _ _).alloc (Nat.le_refl _) _).alloc (by simp) _
  have hs : (w.alloc (.cells #[.int .i64 3, .int .i64 3, .int .i64 1, .string ⟨#[120]⟩] 23)).heap.size = w.heap.size + 1 := by simp
  have R := Rd.new (w.alloc (.cells #[.int .i64 3, .int .i64 3, .int .i64 1, .string ⟨#[120]⟩] 23)) #[.int .i64 3, .int .i64 3, .int .i64 1, .string ⟨#[120]⟩] 23
  have T := (Blk.new (w.alloc (.cells #[.int .i64 3, .int .i64 3, .int .i64 1, .string ⟨#[120]⟩] 23)) 23 #[.int .i64 3, .int .i64 3, .int .i64 1, .string ⟨#[120]⟩]).ty
  have K := (Blk.new w 23 #[.int .i64 3, .int .i64 3, .int .i64 1, .string ⟨#[120]⟩]).alloc (.cells #[.int .i64 3, .int .i64 3, .int .i64 1, .string ⟨#[120]⟩] 23)
  rw [hs] at R T
  have e1 : flatPv [stP] = (#[.int .i64 3, .int .i64 3, .int .i64 1, .string ⟨#[120]⟩] : Array Value).toList := rfl
  rw [← e1] at R
  have e2 : ∀ p ∈ [stP], p.bd.size ≤ 9223372036854775807 := fun p hp => by
    rw [List.mem_singleton.1 hp]
    have : stP.bd.size = 1 := rfl
    omega
  have e3 : ∀ p ∈ [stP], p.put = true → p.i.toNat ≤ 3 := fun p hp _ => by rw [List.mem_singleton.1 hp]; decide
  have e4 : (newD 0).ws.length + 1 * (3 + 1) ≤ 900000 := by
    have : (newD 0).ws.length = 0 := rfl
    omega
  have e5 : 0 < 1 → ∀ a, (some ⟨w.heap.size + 1, 0, none⟩ : Option Addr) = some a → a.block < base ∨ TyAt ((w.alloc (.cells #[.int .i64 3, .int .i64 3, .int .i64 1, .string ⟨#[120]⟩] 23)).alloc (.cells #[.int .i64 3, .int .i64 3, .int .i64 1, .string ⟨#[120]⟩] 23)) a.block 23 := fun _ a ha => .inr (by injection ha with ha; subst ha; exact T)
  have h := stput_any (some ⟨w.heap.size + 1, 0, none⟩) 1 1 [stP] 3 _ (S2.below A3) (L.below A3) fine_new R rfl (by omega) e5 e2 e3 e4
  rw [stD_put] at h
  simp only at h
  refine h.mono fun e w' ⟨h1, h2, h3, h4, h5⟩ => ?_
  exact ⟨h1, h2, h3, (A3.mono L.1).trans h4, K.kp h5 (by decide)⟩
theorem alive8_get {base g gs : Nat} (w : World) (S : SBlk w gs g stN 0) (L : LiveAt w base stD g) :
    Calls Try.prog 6 #[.pointer (some ⟨gs, 0, none⟩), .int .i64 3] w fun e w' => e = .returned (.tuple #[pageV 3 3 1 ⟨#[120]⟩, .int .i64 0]) ∧ SBlk w' gs g stN 1 ∧ LiveAt w' base stD g ∧ Frm (at1 gs) w w' := by
  refine (stget_any 3 w S L (by omega)).mono fun e w' h => ?_
  unfold Got at h
  rw [stD_get] at h
  simp only [if_true] at h
  exact h
set_option maxRecDepth 100000 in
set_option maxHeartbeats 2000000 in
theorem alive8_any (w : World) : Calls Try.prog 5 #[] w fun e w' => e = .returned (.bool true) ∧ Below w.heap.size w w' := by
  have HOP : Hid (openE (newD 0) stN = 0) := kD_open (N := []) (S := []) (b := false) (W := []) stN_ok
  have HPU := Lib.hid stD_put
  have HGE := Lib.hid stD_get
  have HSZ := Lib.hid stD_sz
  have hst : (stN.toList == [97]) = true := by first | (unfold stN; go_simp; done) | (unfold stN; simp [go_sem]; done) | (simp [stN, ByteArray.toList, ByteArray.toList.loop, ByteArray.size, ByteArray.get!])
  go_enter Try.func5, Try.ntmps5
  go_wp2_with (first
    | (go_at_call 9; (refine (lnew 0 w).mono ?_); rintro e w1 ⟨g, rfl, L1, b1⟩; have HL1 := Lib.hid L1; have HB1 := Lib.hid b1; have HO1 := Lib.hid (stopen_yes (s := stN) w1 L1 (by decide) HOP.out); clear L1 b1)
    | (go_at_call 8; (refine HO1.out.mono ?_); rintro e w2 ⟨gs, rfl, S2, hgs, b2⟩
       have HB2 := Lib.hid (HB1.out.trans (b2.mono HB1.out.size))
       have HPUT := Lib.hid (alive8_put w2 S2 (HL1.out.below b2))
       have HGB := Lib.hid (Nat.le_trans HB1.out.size hgs)
       have HNE : Hid (w2.heap.size ≠ gs) := fun e => by have := S2.lt; omega
       clear S2 hgs b2)
    | (go_at_call 11; (with_reducible refine HPUT.out.mono ?_); rintro e w4 ⟨rfl, L4, S4, B4, K4⟩
       have HL4 := Lib.hid L4
       have HS4 := Lib.hid S4
       have HB4 := Lib.hid (HB2.out.trans B4)
       have HK4 := Lib.hid K4
       have HGET := Lib.hid (alive8_get w4 S4 L4)
       clear L4 S4 B4 K4)
    | (go_at_call 6; (with_reducible refine HGET.out.mono ?_); rintro e w5 ⟨rfl, S5, L5, F5⟩
       have HS5 := Lib.hid S5
       have HL5 := Lib.hid L5
       have HB5 := Lib.hid (HB4.out.trans (F5.below HL4.out.1 (fun i hi => by have hi : i = gs := hi; rw [hi]; exact HGB.out)))
       have HK5 := Lib.hid (HK4.out.frm F5 (fun e => HNE.out e))
       have ba : Below w5.heap.size w5 (w5.alloc (.cells #[.int .i64 3, .int .i64 3, .int .i64 1, .string ⟨#[120]⟩] 23)) := (Below.refl _ _).alloc (Nat.le_refl _) _
       have HSA := Lib.hid (S5.below ba)
       have HSI := Lib.hid (stsize_any _ (S5.below ba) (L5.below ba))
       have HKA := Lib.hid (HK5.out.below ba)
       have HKN := Lib.hid (Blk.new w5 23 #[.int .i64 3, .int .i64 3, .int .i64 1, .string ⟨#[120]⟩])
       have HBA := Lib.hid (HB5.out.trans (ba.mono HB5.out.size))
       rw [HSZ.out] at HSI
       clear S5 L5 F5)
    | (go_at_call 15; (with_reducible refine HSI.out.mono ?_); rintro e w6 ⟨rfl, b6⟩
       have HS6 := Lib.hid (HSA.out.below b6)
       obtain ⟨⟨p0, p1, p2, p3⟩, _⟩ := (HKA.out.below b6).four
       obtain ⟨⟨q0, q1, q2, q3⟩, _⟩ := (HKN.out.below b6).four)
    | (go_at_call 16; (with_reducible refine (streads_any _ HS6.out (by omega)).mono ?_); rintro e w7 ⟨rfl, hw⟩; subst hw)
    | (go_at_call 17; (with_reducible refine (stname_any _ HS6.out).mono ?_); rintro e w8 ⟨rfl, hw⟩; subst hw))
  go_ret
  exact ⟨rfl, HBA.out.trans (b6.mono HBA.out.size)⟩
end Go.Proofs.Ytkgcihhpcbodnaa
