/-
  A message without entries, read as it was laid. Conditions: a right message.
-/
import Derived.Test.YtgigkekajdgngaaGreatMtOne
import Derived.Laws.ResultCell
namespace Go.Proofs.YtgigkekajdgngaaGreat
open Go Go.RowKit
attribute [local go_sem] cell_set_if

theorem pget_low (n v : Nat) (r : List UInt8) (hv : v < 256 ^ n) (hv2 : v < 9223372036854775808) : getNum n (lowB v n ++ r, 0) = ((v : Int), (r, 0)) := by
  have hl : (lowB v n).length = n := lowB_len v n
  unfold getNum getRaw
  rw [if_pos rfl, if_neg (by omega), if_neg (by simp only [List.length_append, hl]; omega)]
  have e1 : (lowB v n ++ r).take ((n : Int)).toNat = lowB v n := by rw [Int.toNat_natCast, List.take_left' hl]
  have e2 : (lowB v n ++ r).drop ((n : Int)).toNat = r := by rw [Int.toNat_natCast, List.drop_left' hl]
  rw [e1, e2, num_lowB_lt hv]
  unfold sgn64
  rw [if_pos hv2]
theorem pget_text (t r : List UInt8) (h : t.length < 65536) : getText (lowB t.length 2 ++ (t ++ r), 0) = (t, (r, 0)) := by
  unfold getText
  rw [pget_low 2 t.length _ (by omega) (by omega)]
  unfold getRaw
  rw [if_pos rfl, if_neg (by omega), if_neg (by simp only [List.length_append]; omega)]
  rw [Int.toNat_natCast, List.take_left, List.drop_left]
set_option maxRecDepth 100000 in
set_option maxHeartbeats 8000000 in
theorem read0_any (kind a b c d r : Nat) (ok : Bool) (txt : ByteArray) (w : World) (hk : 1 ≤ kind ∧ kind ≤ 9) (ha : a ≤ 2147483647) (hb : b ≤ 2147483647) (hc : c ≤ 2147483647) (hd : d ≤ 2147483647) (hr : r ≤ 2147483647) (ht : txt.size ≤ 1000) :
    Calls Tryz.prog 11 #[.string (sealB (bs (headM kind [a, b, c, d, r] ok txt 0)))] w fun e w' => e = .returned (.tuple #[msgV kind a b c d r ok txt (.slice none 0 0), .int .i64 0]) ∧ Below w.heap.size w w' := by
  have hlay := fun W => lay0_any kind a b c d r ok txt W hk ha hb hc hd hr ht
  obtain ⟨okn, hokn⟩ : ∃ okn : Nat, okn = if ok then 1 else 0 := ⟨_, rfl⟩
  have hok1 : okn ≤ 1 := by rw [hokn]; split <;> omega
  obtain ⟨L9, h9⟩ : ∃ L9, L9 = lowB 0 1 := ⟨_, rfl⟩
  obtain ⟨L8, h8⟩ : ∃ L8, L8 = lowB (bts txt).length 2 ++ (bts txt ++ L9) := ⟨_, rfl⟩
  obtain ⟨L7, h7⟩ : ∃ L7, L7 = lowB okn 1 ++ L8 := ⟨_, rfl⟩
  obtain ⟨L6, h6⟩ : ∃ L6, L6 = lowB r 4 ++ L7 := ⟨_, rfl⟩
  obtain ⟨L5, h5⟩ : ∃ L5, L5 = lowB d 4 ++ L6 := ⟨_, rfl⟩
  obtain ⟨L4, h4⟩ : ∃ L4, L4 = lowB c 4 ++ L5 := ⟨_, rfl⟩
  obtain ⟨L3, h3⟩ : ∃ L3, L3 = lowB b 4 ++ L4 := ⟨_, rfl⟩
  obtain ⟨L2, h2⟩ : ∃ L2, L2 = lowB a 4 ++ L3 := ⟨_, rfl⟩
  obtain ⟨L1, h1⟩ : ∃ L1, L1 = lowB kind 1 ++ L2 := ⟨_, rfl⟩
  have hL : headM kind [a, b, c, d, r] ok txt 0 = L1 := by
    unfold headM numsB
    rw [h1, h2, h3, h4, h5, h6, h7, h8, h9, ← hokn, bts_len]
    simp only [List.flatMap_cons, List.flatMap_nil, List.append_assoc, List.append_nil]
  have hlen : L1.length ≤ 2000 := by
    rw [h1, h2, h3, h4, h5, h6, h7, h8, h9]
    simp only [List.length_append, lowB_len, bts_len]; omega
  have n1 : getNum 1 (L1, 0) = ((kind : Int), (L2, 0)) := by rw [h1]; exact pget_low 1 kind L2 (by omega) (by omega)
  have n2 : getNum 4 (L2, 0) = ((a : Int), (L3, 0)) := by rw [h2]; exact pget_low 4 a L3 (by omega) (by omega)
  have n3 : getNum 4 (L3, 0) = ((b : Int), (L4, 0)) := by rw [h3]; exact pget_low 4 b L4 (by omega) (by omega)
  have n4 : getNum 4 (L4, 0) = ((c : Int), (L5, 0)) := by rw [h4]; exact pget_low 4 c L5 (by omega) (by omega)
  have n5 : getNum 4 (L5, 0) = ((d : Int), (L6, 0)) := by rw [h5]; exact pget_low 4 d L6 (by omega) (by omega)
  have n6 : getNum 4 (L6, 0) = ((r : Int), (L7, 0)) := by rw [h6]; exact pget_low 4 r L7 (by omega) (by omega)
  have n7 : getNum 1 (L7, 0) = ((okn : Int), (L8, 0)) := by rw [h7]; exact pget_low 1 okn L8 (by omega) (by omega)
  have n8 : getText (L8, 0) = (bts txt, (L9, 0)) := by rw [h8]; exact pget_text (bts txt) L9 (by rw [bts_len]; omega)
  have n9 : getNum 1 (L9, 0) = (0, ([], 0)) := by
    have := pget_low 1 0 [] (by omega) (by omega)
    rw [List.append_nil] at this
    rw [h9]; exact this
  have hl2 : L2.length ≤ L1.length := by rw [h1, List.length_append]; omega
  have hl3 : L3.length ≤ L2.length := by rw [h2, List.length_append]; omega
  have hl4 : L4.length ≤ L3.length := by rw [h3, List.length_append]; omega
  have hl5 : L5.length ≤ L4.length := by rw [h4, List.length_append]; omega
  have hl6 : L6.length ≤ L5.length := by rw [h5, List.length_append]; omega
  have hl7 : L7.length ≤ L6.length := by rw [h6, List.length_append]; omega
  have hl8 : L8.length ≤ L7.length := by rw [h7, List.length_append]; omega
  have hl9 : L9.length ≤ L8.length := by rw [h8, List.length_append, List.length_append]; omega
  have HLS := Lib.hid (show L1.length ≤ 2000 ∧ L2.length ≤ 2000 ∧ L3.length ≤ 2000 ∧ L4.length ≤ 2000 ∧ L5.length ≤ 2000 ∧ L6.length ≤ 2000 ∧ L7.length ≤ 2000 ∧ L8.length ≤ 2000 ∧ L9.length ≤ 2000 by omega)
  rw [hL] at hlay ⊢
  have hop : openL (bts (sealB (bs L1))) = (L1, 0) := by
    have : bts (sealB (bs L1)) = L1 ++ lowB (crc L1) 4 := rfl
    rw [this, openL_seal]
  obtain ⟨T, hT⟩ : ∃ T, T = sealB (bs L1) := ⟨_, rfl⟩
  rw [← hT] at hop hlay ⊢
  have hTs : T.size ≤ 140737488351232 := by rw [hT, sealB_size, bs_size]; omega
  have hopen := fun W => open_any T W hTs
  rw [hop] at hopen
  have HOP : Hid (∀ W, Calls Tryz.prog 36 #[.string T] W fun e w' => e = .returned (.tuple #[.string (bs L1), .int .i64 0]) ∧ Below W.heap.size W w') := hopen
  have HLAY := Lib.hid hlay
  have N1 := Lib.hid n1
  have N2 := Lib.hid n2
  have N3 := Lib.hid n3
  have N4 := Lib.hid n4
  have N5 := Lib.hid n5
  have N6 := Lib.hid n6
  have N7 := Lib.hid n7
  have N8 := Lib.hid n8
  have N9 := Lib.hid n9
  have HOK := Lib.hid hokn
  have htt : (T.toList == T.toList) = true := by simp
  clear hlay hL hT hTs hopen hop hokn h1 h2 h3 h4 h5 h6 h7 h8 h9 hl2 hl3 hl4 hl5 hl6 hl7 hl8 hl9 hlen n1 n2 n3 n4 n5 n6 n7 n8 n9
  have ba : Below w.heap.size w (w.alloc (.cells #[.int .i64 0, .int .i64 0, .int .i64 0, .int .i64 0, .int .i64 0, .int .i64 0, .bool false, .string ByteArray.empty, .slice none 0 0] 24)) := (Below.refl _ _).alloc (Nat.le_refl _) _
  have K0 := Blk.new w 24 #[.int .i64 0, .int .i64 0, .int .i64 0, .int .i64 0, .int .i64 0, .int .i64 0, .bool false, .string ByteArray.empty, .slice none 0 0]
  unfold msgV
  go_enter Tryz.func11, Tryz.ntmps11
  go_upto_region 6 with (first
    | (go_at_call 36; refine (HOP.out _).mono ?_; rintro e w1 ⟨rfl, b1⟩
       have K1 := K0.below b1
       have B1 := ba.trans (b1.mono ba.size))
    | (go_at_call 37; refine (from_s (bs L1) _).mono ?_; rintro e w2 ⟨rfl, G2, b2⟩
       have K2 := K1.below b2
       have B2 := B1.trans (b2.mono B1.size)
       have hg2 : w.heap.size ≤ w1.heap.size := B1.size
       have hkg : w.heap.size ≠ w1.heap.size := fun e => by have := K1.lt; omega
       have HC1 := Lib.hid (as_num (gbyte_s _ _ w2 G2 (by have := HLS.out.1; show L1.length ≤ _; omega)) N1.out))
    | (go_at_call 38; go_loud (
       with_reducible refine HC1.out.mono ?_
       rintro e w3 ⟨rfl, G3, F3⟩
       have K3 := K2.frm F3 (fun e => hkg e)
       have B3 := below_frm B2 F3 (Nat.le_refl _) (fun i hi => by have h9 : i = w1.heap.size := hi; omega)
       have HC2 := Lib.hid (as_num (gword_s _ _ w3 G3 (by have := HLS.out.2.1; show L2.length ≤ _; omega)) N2.out)))
    | (go_at_call 39; with_reducible refine HC6.out.mono ?_; rintro e w8 ⟨rfl, G8, F8⟩
       have K8 := K7.frm F8 (fun e => hkg e)
       have B8 := below_frm B7 F8 (Nat.le_refl _) (fun i hi => by have h9 : i = w1.heap.size := hi; omega))
    | (go_at_call 39; with_reducible refine HC5.out.mono ?_; rintro e w7 ⟨rfl, G7, F7⟩
       have K7 := K6.frm F7 (fun e => hkg e)
       have B7 := below_frm B6 F7 (Nat.le_refl _) (fun i hi => by have h9 : i = w1.heap.size := hi; omega)
       have HC6 := Lib.hid (as_num (gword_s _ _ w7 G7 (by have := HLS.out.2.2.2.2.2.1; show L6.length ≤ _; omega)) N6.out))
    | (go_at_call 39; with_reducible refine HC4.out.mono ?_; rintro e w6 ⟨rfl, G6, F6⟩
       have K6 := K5.frm F6 (fun e => hkg e)
       have B6 := below_frm B5 F6 (Nat.le_refl _) (fun i hi => by have h9 : i = w1.heap.size := hi; omega)
       have HC5 := Lib.hid (as_num (gword_s _ _ w6 G6 (by have := HLS.out.2.2.2.2.1; show L5.length ≤ _; omega)) N5.out))
    | (go_at_call 39; with_reducible refine HC3.out.mono ?_; rintro e w5 ⟨rfl, G5, F5⟩
       have K5 := K4.frm F5 (fun e => hkg e)
       have B5 := below_frm B4 F5 (Nat.le_refl _) (fun i hi => by have h9 : i = w1.heap.size := hi; omega)
       have HC4 := Lib.hid (as_num (gword_s _ _ w5 G5 (by have := HLS.out.2.2.2.1; show L4.length ≤ _; omega)) N4.out))
    | (go_at_call 39; with_reducible refine HC2.out.mono ?_; rintro e w4 ⟨rfl, G4, F4⟩
       have K4 := K3.frm F4 (fun e => hkg e)
       have B4 := below_frm B3 F4 (Nat.le_refl _) (fun i hi => by have h9 : i = w1.heap.size := hi; omega)
       have HC3 := Lib.hid (as_num (gword_s _ _ w4 G4 (by have := HLS.out.2.2.1; show L3.length ≤ _; omega)) N3.out)))
  have ba8 : Below w8.heap.size w8 (w8.alloc (.cells #[.int .i64 kind, .int .i64 a, .int .i64 b, .int .i64 c, .int .i64 d, .int .i64 r, .bool false, .string ⟨#[]⟩, .slice none 0 0] 24)) := (Below.refl _ _).alloc (Nat.le_refl _) _
  have X9 := Blk.new w8 24 #[.int .i64 kind, .int .i64 a, .int .i64 b, .int .i64 c, .int .i64 d, .int .i64 r, .bool false, .string ⟨#[]⟩, .slice none 0 0]
  have G9 : GetS (w8.alloc (.cells #[.int .i64 kind, .int .i64 a, .int .i64 b, .int .i64 c, .int .i64 d, .int .i64 r, .bool false, .string ⟨#[]⟩, .slice none 0 0] 24)) w1.heap.size (L7, 0) := G8.below ba8
  have K9 := K8.below ba8
  have B9 := B8.trans (ba8.mono B8.size)
  have hxg : w8.heap.size ≠ w1.heap.size := fun e => by have := G8.lt; omega
  have hxk : w.heap.size ≠ w8.heap.size := fun e => by have := K8.lt; omega
  have hxw : w.heap.size ≤ w8.heap.size := B8.size
  generalize w8.alloc (.cells #[.int .i64 kind, .int .i64 a, .int .i64 b, .int .i64 c, .int .i64 d, .int .i64 r, .bool false, .string ⟨#[]⟩, .slice none 0 0] 24) = W9 at ba8 X9 G9 K9 B9 ⊢
  obtain ⟨gx, hgx⟩ : ∃ gx, gx = w8.heap.size := ⟨_, rfl⟩
  rw [← hgx] at X9 hxg hxk hxw ⊢
  clear hgx ba8 G8 K8 B8 F8 HC6 G7 K7 B7 F7 HC5 G6 K6 B6 F6 HC4 G5 K5 B5 F5 HC3 G4 K4 B4 F4 HC2 G3 K3 B3 F3 HC1 G2 K2 B2 K1 B1 b1 b2 ba K0
  cases ok
  · obtain rfl : okn = 0 := HOK.out
    have N7' : Hid (getNum 1 (L7, 0) = ((0 : Int), (L8, 0))) := N7.out
    have HC7 := Lib.hid (as_num (gbyte_s _ _ W9 G9 (by have := HLS.out.2.2.2.2.2.2.1; show L7.length ≤ _; omega)) N7'.out)
    go_wp2_with (first
      | (go_at_call 38; with_reducible refine HC9.out.mono ?_; rintro e w14 ⟨rfl, G14, F14⟩
         have K14 := K13.frm F14 (fun e => hkg e)
         have X14 := X13.frm F14 (fun e => hxg e)
         have B14 := below_frm B13 F14 (Nat.le_refl _) (fun i hi => by have h9 : i = w1.heap.size := hi; omega))
      | (go_at_call 38; with_reducible refine HC7.out.mono ?_; rintro e w10 ⟨rfl, G10, F10⟩
         have K10 := K9.frm F10 (fun e => hkg e)
         have X10 := X9.frm F10 (fun e => hxg e)
         have B10 := below_frm B9 F10 (Nat.le_refl _) (fun i hi => by have h9 : i = w1.heap.size := hi; omega)
         have x6 : w10.cell? ⟨gx, 6, none⟩ = some (.bool false) := X10.cell 6
         have f6 := X10.free 6
         have G11 : GetS (w10.setCell ⟨gx, 6, none⟩ (.bool false)) w1.heap.size (L8, 0) := Blk.far G10 (p := ⟨gx, 6, none⟩) (fun e => hxg e.symm) _
         have K11 := K10.far (p := ⟨gx, 6, none⟩) hxk (.bool false)
         have X11 := X10.set_ 6 (.bool false)
         have B11 : Below w.heap.size w (w10.setCell ⟨gx, 6, none⟩ (.bool false)) := B10.setCell hxw _
         have HC8 := Lib.hid (as_txt (gtext_s _ _ _ G11 (by have := HLS.out.2.2.2.2.2.2.2.1; show L8.length ≤ _; omega)) N8.out))
      | (go_at_call 40; with_reducible refine HC8.out.mono ?_; rintro e w12 ⟨rfl, G12, F12⟩
         have K12 := K11.frm F12 (fun e => hkg e)
         have X12 := X11.frm F12 (fun e => hxg e)
         have B12 := below_frm B11 F12 (Nat.le_refl _) (fun i hi => by have h9 : i = w1.heap.size := hi; omega)
         have x7 : w12.cell? ⟨gx, 7, none⟩ = some (.string ⟨#[]⟩) := X12.cell 7
         have f7 := X12.free 7
         have G13 : GetS (w12.setCell ⟨gx, 7, none⟩ (.string txt)) w1.heap.size (L9, 0) := Blk.far G12 (p := ⟨gx, 7, none⟩) (fun e => hxg e.symm) _
         have K13 := K12.far (p := ⟨gx, 7, none⟩) hxk (.string txt)
         have X13 := X12.set_ 7 (.string txt)
         have B13 : Below w.heap.size w (w12.setCell ⟨gx, 7, none⟩ (.string txt)) := B12.setCell hxw _
         have HC9 := Lib.hid (as_num (gbyte_s _ _ _ G13 (by have := HLS.out.2.2.2.2.2.2.2.2; show L9.length ≤ _; omega)) N9.out)))
    have X14' : Blk w14 gx 24 #[.int .i64 kind, .int .i64 a, .int .i64 b, .int .i64 c, .int .i64 d, .int .i64 r, .bool false, .string txt, .slice none 0 0] := by simpa using X14
    have HB14 := Lib.hid B14
    have HX14 := Lib.hid X14'
    have HK14 := Lib.hid K14
    have z0 : w14.cell? ⟨gx, 0, none⟩ = some (.int .i64 kind) := X14'.cell 0
    have z1 : w14.cell? ⟨gx, 1, none⟩ = some (.int .i64 a) := X14'.cell 1
    have z2 : w14.cell? ⟨gx, 2, none⟩ = some (.int .i64 b) := X14'.cell 2
    have z3 : w14.cell? ⟨gx, 3, none⟩ = some (.int .i64 c) := X14'.cell 3
    have z4 : w14.cell? ⟨gx, 4, none⟩ = some (.int .i64 d) := X14'.cell 4
    have z5 : w14.cell? ⟨gx, 5, none⟩ = some (.int .i64 r) := X14'.cell 5
    have z6 : w14.cell? ⟨gx, 6, none⟩ = some (.bool false) := X14'.cell 6
    have z7 : w14.cell? ⟨gx, 7, none⟩ = some (.string txt) := X14'.cell 7
    have z8 : w14.cell? ⟨gx, 8, none⟩ = some (.slice none 0 0) := X14'.cell 8
    clear X14 X14' K14 B14 F14 G14 HC9 B13 X13 K13 G13 f7 x7 B12 X12 K12 F12 G12 HC8 B11 X11 K11 G11 f6 x6 B10 X10 K10 F10 G10 HC7 X9 B9 K9 G9
    go_loopw [45] (fun u45 wr => u45 = .int .i64 0 ∧ wr = w14) (fun _ _ => 0)
    case atStart => exact ⟨rfl, rfl⟩
    case round =>
      obtain ⟨rfl, rfl⟩ := hrel
      go_wp2_with (go_at_call 8; refine (HLAY.out _).mono ?_; rintro e w15 ⟨rfl, b15⟩
                   have X15 := HX14.out.below b15
                   have K15 := HK14.out.below b15
                   have HB15 := Lib.hid (HB14.out.trans (b15.mono HB14.out.size))
                   have y0 : w15.cell? ⟨gx, 0, none⟩ = some (.int .i64 kind) := X15.cell 0
                   have y1 : w15.cell? ⟨gx, 1, none⟩ = some (.int .i64 a) := X15.cell 1
                   have y2 : w15.cell? ⟨gx, 2, none⟩ = some (.int .i64 b) := X15.cell 2
                   have y3 : w15.cell? ⟨gx, 3, none⟩ = some (.int .i64 c) := X15.cell 3
                   have y4 : w15.cell? ⟨gx, 4, none⟩ = some (.int .i64 d) := X15.cell 4
                   have y5 : w15.cell? ⟨gx, 5, none⟩ = some (.int .i64 r) := X15.cell 5
                   have y6 : w15.cell? ⟨gx, 6, none⟩ = some (.bool false) := X15.cell 6
                   have y7 : w15.cell? ⟨gx, 7, none⟩ = some (.string txt) := X15.cell 7
                   have y8 : w15.cell? ⟨gx, 8, none⟩ = some (.slice none 0 0) := X15.cell 8
                   have q0 : w15.cell? ⟨w.heap.size, 0, none⟩ = some (.int .i64 0) := K15.cell 0
                   have e0 := K15.free 0
                   have q1 : w15.cell? ⟨w.heap.size, 1, none⟩ = some (.int .i64 0) := K15.cell 1
                   have e1 := K15.free 1
                   have q2 : w15.cell? ⟨w.heap.size, 2, none⟩ = some (.int .i64 0) := K15.cell 2
                   have e2 := K15.free 2
                   have q3 : w15.cell? ⟨w.heap.size, 3, none⟩ = some (.int .i64 0) := K15.cell 3
                   have e3 := K15.free 3
                   have q4 : w15.cell? ⟨w.heap.size, 4, none⟩ = some (.int .i64 0) := K15.cell 4
                   have e4 := K15.free 4
                   have q5 : w15.cell? ⟨w.heap.size, 5, none⟩ = some (.int .i64 0) := K15.cell 5
                   have e5 := K15.free 5
                   have q6 : w15.cell? ⟨w.heap.size, 6, none⟩ = some (.bool false) := K15.cell 6
                   have e6 := K15.free 6
                   have q7 : w15.cell? ⟨w.heap.size, 7, none⟩ = some (.string ByteArray.empty) := K15.cell 7
                   have e7 := K15.free 7
                   have q8 : w15.cell? ⟨w.heap.size, 8, none⟩ = some (.slice none 0 0) := K15.cell 8
                   have e8 := K15.free 8)
      refine bodyPost_ret (v := .tuple #[.agg #[.int .i64 kind, .int .i64 a, .int .i64 b, .int .i64 c, .int .i64 d, .int .i64 r, .bool false, .string txt, .slice none 0 0], .int .i64 0]) (by rw [results_cell_tmp rfl]; go_simp <;> rfl) rfl ⟨rfl, ?_⟩
      repeat (refine Below.setCell ?_ (by exact Nat.le_refl _) _)
      exact HB15.out
  · obtain rfl : okn = 1 := HOK.out
    have N7' : Hid (getNum 1 (L7, 0) = ((1 : Int), (L8, 0))) := N7.out
    have HC7 := Lib.hid (as_num (gbyte_s _ _ W9 G9 (by have := HLS.out.2.2.2.2.2.2.1; show L7.length ≤ _; omega)) N7'.out)
    go_wp2_with (first
      | (go_at_call 38; with_reducible refine HC9.out.mono ?_; rintro e w14 ⟨rfl, G14, F14⟩
         have K14 := K13.frm F14 (fun e => hkg e)
         have X14 := X13.frm F14 (fun e => hxg e)
         have B14 := below_frm B13 F14 (Nat.le_refl _) (fun i hi => by have h9 : i = w1.heap.size := hi; omega))
      | (go_at_call 38; with_reducible refine HC7.out.mono ?_; rintro e w10 ⟨rfl, G10, F10⟩
         have K10 := K9.frm F10 (fun e => hkg e)
         have X10 := X9.frm F10 (fun e => hxg e)
         have B10 := below_frm B9 F10 (Nat.le_refl _) (fun i hi => by have h9 : i = w1.heap.size := hi; omega)
         have x6 : w10.cell? ⟨gx, 6, none⟩ = some (.bool false) := X10.cell 6
         have f6 := X10.free 6
         have G11 : GetS (w10.setCell ⟨gx, 6, none⟩ (.bool true)) w1.heap.size (L8, 0) := Blk.far G10 (p := ⟨gx, 6, none⟩) (fun e => hxg e.symm) _
         have K11 := K10.far (p := ⟨gx, 6, none⟩) hxk (.bool true)
         have X11 := X10.set_ 6 (.bool true)
         have B11 : Below w.heap.size w (w10.setCell ⟨gx, 6, none⟩ (.bool true)) := B10.setCell hxw _
         have HC8 := Lib.hid (as_txt (gtext_s _ _ _ G11 (by have := HLS.out.2.2.2.2.2.2.2.1; show L8.length ≤ _; omega)) N8.out))
      | (go_at_call 40; with_reducible refine HC8.out.mono ?_; rintro e w12 ⟨rfl, G12, F12⟩
         have K12 := K11.frm F12 (fun e => hkg e)
         have X12 := X11.frm F12 (fun e => hxg e)
         have B12 := below_frm B11 F12 (Nat.le_refl _) (fun i hi => by have h9 : i = w1.heap.size := hi; omega)
         have x7 : w12.cell? ⟨gx, 7, none⟩ = some (.string ⟨#[]⟩) := X12.cell 7
         have f7 := X12.free 7
         have G13 : GetS (w12.setCell ⟨gx, 7, none⟩ (.string txt)) w1.heap.size (L9, 0) := Blk.far G12 (p := ⟨gx, 7, none⟩) (fun e => hxg e.symm) _
         have K13 := K12.far (p := ⟨gx, 7, none⟩) hxk (.string txt)
         have X13 := X12.set_ 7 (.string txt)
         have B13 : Below w.heap.size w (w12.setCell ⟨gx, 7, none⟩ (.string txt)) := B12.setCell hxw _
         have HC9 := Lib.hid (as_num (gbyte_s _ _ _ G13 (by have := HLS.out.2.2.2.2.2.2.2.2; show L9.length ≤ _; omega)) N9.out)))
    have X14' : Blk w14 gx 24 #[.int .i64 kind, .int .i64 a, .int .i64 b, .int .i64 c, .int .i64 d, .int .i64 r, .bool true, .string txt, .slice none 0 0] := by simpa using X14
    have HB14 := Lib.hid B14
    have HX14 := Lib.hid X14'
    have HK14 := Lib.hid K14
    have z0 : w14.cell? ⟨gx, 0, none⟩ = some (.int .i64 kind) := X14'.cell 0
    have z1 : w14.cell? ⟨gx, 1, none⟩ = some (.int .i64 a) := X14'.cell 1
    have z2 : w14.cell? ⟨gx, 2, none⟩ = some (.int .i64 b) := X14'.cell 2
    have z3 : w14.cell? ⟨gx, 3, none⟩ = some (.int .i64 c) := X14'.cell 3
    have z4 : w14.cell? ⟨gx, 4, none⟩ = some (.int .i64 d) := X14'.cell 4
    have z5 : w14.cell? ⟨gx, 5, none⟩ = some (.int .i64 r) := X14'.cell 5
    have z6 : w14.cell? ⟨gx, 6, none⟩ = some (.bool true) := X14'.cell 6
    have z7 : w14.cell? ⟨gx, 7, none⟩ = some (.string txt) := X14'.cell 7
    have z8 : w14.cell? ⟨gx, 8, none⟩ = some (.slice none 0 0) := X14'.cell 8
    clear X14 X14' K14 B14 F14 G14 HC9 B13 X13 K13 G13 f7 x7 B12 X12 K12 F12 G12 HC8 B11 X11 K11 G11 f6 x6 B10 X10 K10 F10 G10 HC7 X9 B9 K9 G9
    go_loopw [45] (fun u45 wr => u45 = .int .i64 0 ∧ wr = w14) (fun _ _ => 0)
    case atStart => exact ⟨rfl, rfl⟩
    case round =>
      obtain ⟨rfl, rfl⟩ := hrel
      go_wp2_with (go_at_call 8; refine (HLAY.out _).mono ?_; rintro e w15 ⟨rfl, b15⟩
                   have X15 := HX14.out.below b15
                   have K15 := HK14.out.below b15
                   have HB15 := Lib.hid (HB14.out.trans (b15.mono HB14.out.size))
                   have y0 : w15.cell? ⟨gx, 0, none⟩ = some (.int .i64 kind) := X15.cell 0
                   have y1 : w15.cell? ⟨gx, 1, none⟩ = some (.int .i64 a) := X15.cell 1
                   have y2 : w15.cell? ⟨gx, 2, none⟩ = some (.int .i64 b) := X15.cell 2
                   have y3 : w15.cell? ⟨gx, 3, none⟩ = some (.int .i64 c) := X15.cell 3
                   have y4 : w15.cell? ⟨gx, 4, none⟩ = some (.int .i64 d) := X15.cell 4
                   have y5 : w15.cell? ⟨gx, 5, none⟩ = some (.int .i64 r) := X15.cell 5
                   have y6 : w15.cell? ⟨gx, 6, none⟩ = some (.bool true) := X15.cell 6
                   have y7 : w15.cell? ⟨gx, 7, none⟩ = some (.string txt) := X15.cell 7
                   have y8 : w15.cell? ⟨gx, 8, none⟩ = some (.slice none 0 0) := X15.cell 8
                   have q0 : w15.cell? ⟨w.heap.size, 0, none⟩ = some (.int .i64 0) := K15.cell 0
                   have e0 := K15.free 0
                   have q1 : w15.cell? ⟨w.heap.size, 1, none⟩ = some (.int .i64 0) := K15.cell 1
                   have e1 := K15.free 1
                   have q2 : w15.cell? ⟨w.heap.size, 2, none⟩ = some (.int .i64 0) := K15.cell 2
                   have e2 := K15.free 2
                   have q3 : w15.cell? ⟨w.heap.size, 3, none⟩ = some (.int .i64 0) := K15.cell 3
                   have e3 := K15.free 3
                   have q4 : w15.cell? ⟨w.heap.size, 4, none⟩ = some (.int .i64 0) := K15.cell 4
                   have e4 := K15.free 4
                   have q5 : w15.cell? ⟨w.heap.size, 5, none⟩ = some (.int .i64 0) := K15.cell 5
                   have e5 := K15.free 5
                   have q6 : w15.cell? ⟨w.heap.size, 6, none⟩ = some (.bool false) := K15.cell 6
                   have e6 := K15.free 6
                   have q7 : w15.cell? ⟨w.heap.size, 7, none⟩ = some (.string ByteArray.empty) := K15.cell 7
                   have e7 := K15.free 7
                   have q8 : w15.cell? ⟨w.heap.size, 8, none⟩ = some (.slice none 0 0) := K15.cell 8
                   have e8 := K15.free 8)
      refine bodyPost_ret (v := .tuple #[.agg #[.int .i64 kind, .int .i64 a, .int .i64 b, .int .i64 c, .int .i64 d, .int .i64 r, .bool true, .string txt, .slice none 0 0], .int .i64 0]) (by rw [results_cell_tmp rfl]; go_simp <;> rfl) rfl ⟨rfl, ?_⟩
      repeat (refine Below.setCell ?_ (by exact Nat.le_refl _) _)
      exact HB15.out
end Go.Proofs.YtgigkekajdgngaaGreat
