/-
  The post laws' first calls answer as they should. No condition.
-/
import Derived.Test.YtgigkekajdgngaaGreatPostC
import Derived.Test.YtgigkekajdgngaaGreatNetF
namespace Go.Proofs.YtgigkekajdgngaaGreat
open Go Go.RowKit
attribute [local go_sem] cell_set_if

theorem TurnN.to_below {w w' : World} {base g : Nat} {l : List Pk} {c : List Ct} {v1 v2 v1' v2' : Value} (h : NetAt w base g l c v1 v2) (t : TurnN g v1 v2 w v1' v2' w') {B : Nat} (hB : B ≤ w.heap.size) (hb : B ≤ base) : Below B w w' := t.frm.below hB fun q hq => Nat.le_trans hb (h.mine_lt q hq).1
set_option maxRecDepth 100000 in
set_option maxHeartbeats 4000000 in
theorem alive24_any (w : World) : Calls Tryz.prog 5 #[] w fun e w' => e = .returned (.bool true) ∧ Below w.heap.size w w' := by
  obtain ⟨pa, hpa⟩ : ∃ pa : Pk, pa = ⟨0, 1, ⟨#[97]⟩⟩ := ⟨_, rfl⟩
  obtain ⟨pb, hpb⟩ : ∃ pb : Pk, pb = ⟨1, 0, ⟨#[98]⟩⟩ := ⟨_, rfl⟩
  have hsend : sendN [] [] [pa, pb] 2 = ([pa, pb], 2) := rfl
  have hLay := fun W => lay0_any 3 3 0 0 0 0 false ⟨#[]⟩ W (by omega) (by omega) (by omega) (by omega) (by omega) (by omega) (by decide)
  have hRead := fun W => read0_any 3 3 0 0 0 0 false ⟨#[]⟩ W (by omega) (by omega) (by omega) (by omega) (by omega) (by omega) (by decide)
  obtain ⟨T, hT⟩ : ∃ T, T = sealB (bs (headM 3 [3, 0, 0, 0, 0] false ⟨#[]⟩ 0)) := ⟨_, rfl⟩
  rw [← hT] at hLay hRead
  have HLAY : Hid (∀ W, Calls Tryz.prog 8 #[.agg #[.int .i64 3, .int .i64 3, .int .i64 0, .int .i64 0, .int .i64 0, .int .i64 0, .bool false, .string ⟨#[]⟩, .slice none 0 0]] W fun e w' => e = .returned (.tuple #[.string T, .int .i64 0]) ∧ Below W.heap.size W w') := hLay
  have HREAD : Hid (∀ W, Calls Tryz.prog 11 #[.string T] W fun e w' => e = .returned (.tuple #[.agg #[.int .i64 3, .int .i64 3, .int .i64 0, .int .i64 0, .int .i64 0, .int .i64 0, .bool false, .string ⟨#[]⟩, .slice none 0 0], .int .i64 0]) ∧ Below W.heap.size W w') := hRead
  have HSEND := Lib.hid hsend
  have hbb : ((⟨#[98]⟩ : ByteArray).toList == (⟨#[98]⟩ : ByteArray).toList) = true := by simp
  clear hT hLay hRead hsend
  go_enter Tryz.func5, Tryz.ntmps5
  go_upto_region 5 with (go_at_call 19; refine (nnew_any w).mono ?_; rintro e w1 ⟨rfl, N1, b1⟩)
  have AB : Below w1.heap.size w1 ((w1.alloc (.cells #[.int .i64 0, .int .i64 1, .string ⟨#[97]⟩] 65)).alloc (.cells #[.int .i64 1, .int .i64 0, .string ⟨#[98]⟩] 65)) := ((Below.refl _ _).alloc (Nat.le_refl _) _).alloc (by simp) _
  have PA : Blk ((w1.alloc (.cells #[.int .i64 0, .int .i64 1, .string ⟨#[97]⟩] 65)).alloc (.cells #[.int .i64 1, .int .i64 0, .string ⟨#[98]⟩] 65)) w1.heap.size 65 #[.int .i64 0, .int .i64 1, .string ⟨#[97]⟩] := (Blk.new w1 _ _).alloc _
  have PB : Blk ((w1.alloc (.cells #[.int .i64 0, .int .i64 1, .string ⟨#[97]⟩] 65)).alloc (.cells #[.int .i64 1, .int .i64 0, .string ⟨#[98]⟩] 65)) (w1.heap.size + 1) 65 #[.int .i64 1, .int .i64 0, .string ⟨#[98]⟩] := by
    have := Blk.new (w1.alloc (.cells #[.int .i64 0, .int .i64 1, .string ⟨#[97]⟩] 65)) 65 #[.int .i64 1, .int .i64 0, .string ⟨#[98]⟩]
    simpa using this
  have N2 := N1.below AB
  have B2 := b1.trans (AB.mono b1.size)
  have hw1 := b1.size
  generalize (w1.alloc (.cells #[.int .i64 0, .int .i64 1, .string ⟨#[97]⟩] 65)).alloc (.cells #[.int .i64 1, .int .i64 0, .string ⟨#[98]⟩] 65) = W2 at AB PA PB N2 B2 ⊢
  obtain ⟨ga, hga⟩ : ∃ ga, ga = w1.heap.size := ⟨_, rfl⟩
  obtain ⟨gb, hgb⟩ : ∃ gb, gb = w1.heap.size + 1 := ⟨_, rfl⟩
  rw [← hga] at PA
  rw [← hgb] at PB
  rw [← hgb, ← hga]
  have hnb : ∀ q, mineN w.heap.size (.slice none 0 0) (.slice none 0 0) q → q ≠ gb := fun q hq e => by have := (N1.mine_lt q hq).2; omega
  clear hga hgb AB
  have a0 : W2.cell? ⟨ga, 0, none⟩ = some (.int .i64 0) := PA.cell 0
  have a1 : W2.cell? ⟨ga, 1, none⟩ = some (.int .i64 1) := PA.cell 1
  have a2 : W2.cell? ⟨ga, 2, none⟩ = some (.string ⟨#[97]⟩) := PA.cell 2
  have b0 : W2.cell? ⟨gb, 0, none⟩ = some (.int .i64 1) := PB.cell 0
  have b1' : W2.cell? ⟨gb, 1, none⟩ = some (.int .i64 0) := PB.cell 1
  have b2 : W2.cell? ⟨gb, 2, none⟩ = some (.string ⟨#[98]⟩) := PB.cell 2
  have A3 : Below W2.heap.size W2 (W2.alloc (.cells #[.int .i64 0, .int .i64 1, .string ⟨#[97]⟩, .int .i64 1, .int .i64 0, .string ⟨#[98]⟩] 65)) := (Below.refl _ _).alloc (Nat.le_refl _) _
  have N3 := N2.below A3
  have PB3 := PB.below A3
  have B3 := B2.trans (A3.mono B2.size)
  have hrd : Rd (W2.alloc (.cells #[.int .i64 0, .int .i64 1, .string ⟨#[97]⟩, .int .i64 1, .int .i64 0, .string ⟨#[98]⟩] 65)) (some ⟨W2.heap.size, 0, none⟩) (flatK [pa, pb]) := by
    rw [hpa, hpb]
    exact Rd.new W2 #[.int .i64 0, .int .i64 1, .string ⟨#[97]⟩, .int .i64 1, .int .i64 0, .string ⟨#[98]⟩] 65
  have hsd := nsend_any (some ⟨W2.heap.size, 0, none⟩) 2 2 [pa, pb] N3 B3.size (by simp) (by simp) hrd rfl (by omega) (fun _ x hx hm => by
    injection hx with hx; subst hx
    have := (N2.mine_lt _ hm).2; simp at this) (fun p hp => by
    simp at hp
    rcases hp with rfl | rfl
    · rw [hpa]; decide
    · rw [hpb]; decide)
  rw [HSEND.out] at hsd
  have HSD := Lib.hid hsd
  clear hsd hrd N1 N2 b1
  go_upto_region 9 with (first
    | (go_at_call 20; with_reducible refine HSD.out.mono ?_; rintro e w4 ⟨rfl, v4, N4, T4⟩
       have B4 := B3.trans (TurnN.to_below N3 T4 B3.size (Nat.le_refl _))
       have PB4 := PB3.frm T4.frm (fun hm => hnb _ hm rfl)
       have hmn4 : ∀ q, mineN w.heap.size v4 (.slice none 0 0) q → q ≠ gb := fun q hq e => by
         rcases T4.own q hq with h1 | h1
         · exact hnb q h1 e
         · have := PB3.lt; omega
       have htk := ntake_any (1 : Int) N4 (by simp)
       have HTK : Hid (Calls Tryz.prog 21 #[.pointer (some ⟨w.heap.size, 0, none⟩), .int .i64 1] w4 fun e w' => e = .returned (.tuple #[.agg #[.int .i64 1, .int .i64 0, .string ⟨#[98]⟩], .bool true]) ∧ ∃ v1', NetAt w' w.heap.size w.heap.size [pa] [] v1' (.slice none 0 0) ∧ TurnN w.heap.size v4 (.slice none 0 0) w4 v1' (.slice none 0 0) w') := by
         have e1 : peekK [pa, pb] 1 = pb := rfl
         have e2 : isAt [pa, pb] 1 = true := rfl
         have e3 : takeK [pa, pb] 1 = [pa] := rfl
         rw [e1, e2, e3, hpb] at htk
         exact htk
       clear htk)
    | (go_at_call 21; with_reducible refine HTK.out.mono ?_; rintro e w5 ⟨rfl, v5, N5, T5⟩
       have B5 := B4.trans (TurnN.to_below N4 T5 B4.size (Nat.le_refl _))
       have PB5 := PB4.frm T5.frm (fun hm => hmn4 _ hm rfl)
       have A5 : Below w5.heap.size w5 (w5.alloc (.cells #[.int .i64 1, .int .i64 0, .string ⟨#[98]⟩] 65)) := (Below.refl _ _).alloc (Nat.le_refl _) _
       have PK := Blk.new w5 65 #[.int .i64 1, .int .i64 0, .string ⟨#[98]⟩]
       have N6 := N5.below A5
       have PB6 := PB5.below A5
       have B6 := B5.trans (A5.mono B5.size))
    | (go_at_call 8; refine (HLAY.out _).mono ?_; rintro e w7 ⟨rfl, b7⟩
       have N7 := N6.below b7
       have PB7 := PB6.below b7
       have PK7 := PK.below b7
       have B7 := B6.trans (b7.mono B6.size))
    | (go_at_call 11; refine (HREAD.out _).mono ?_; rintro e w8 ⟨rfl, b8⟩
       have A8 : Below w8.heap.size w8 (w8.alloc (.cells #[.int .i64 3, .int .i64 3, .int .i64 0, .int .i64 0, .int .i64 0, .int .i64 0, .bool false, .string ⟨#[]⟩, .slice none 0 0] 24)) := (Below.refl _ _).alloc (Nat.le_refl _) _
       have M8 := Blk.new w8 24 #[.int .i64 3, .int .i64 3, .int .i64 0, .int .i64 0, .int .i64 0, .int .i64 0, .bool false, .string ⟨#[]⟩, .slice none 0 0]
       have N9 := (N7.below b8).below A8
       have PB9 := (PB7.below b8).below A8
       have PK9 := (PK7.below b8).below A8
       have B9 := (B7.trans (b8.mono B7.size)).trans (A8.mono (B7.trans (b8.mono B7.size)).size)))
  generalize w8.alloc (.cells #[.int .i64 3, .int .i64 3, .int .i64 0, .int .i64 0, .int .i64 0, .int .i64 0, .bool false, .string ⟨#[]⟩, .slice none 0 0] 24) = W9 at A8 M8 N9 PB9 PK9 B9 ⊢
  have p0 : W9.cell? ⟨w5.heap.size, 0, none⟩ = some (.int .i64 1) := PK9.cell 0
  have p1 : W9.cell? ⟨w5.heap.size, 1, none⟩ = some (.int .i64 0) := PK9.cell 1
  have p2 : W9.cell? ⟨w5.heap.size, 2, none⟩ = some (.string ⟨#[98]⟩) := PK9.cell 2
  have c0 : W9.cell? ⟨gb, 0, none⟩ = some (.int .i64 1) := PB9.cell 0
  have c1 : W9.cell? ⟨gb, 1, none⟩ = some (.int .i64 0) := PB9.cell 1
  have c2 : W9.cell? ⟨gb, 2, none⟩ = some (.string ⟨#[98]⟩) := PB9.cell 2
  have m0 : W9.cell? ⟨w8.heap.size, 0, none⟩ = some (.int .i64 3) := M8.cell 0
  have m1 : W9.cell? ⟨w8.heap.size, 1, none⟩ = some (.int .i64 3) := M8.cell 1
  have HLEN : Hid (Calls Tryz.prog 22 #[.pointer (some ⟨w.heap.size, 0, none⟩)] W9 fun e w' => e = .returned (.int .i64 1) ∧ w' = W9) := nlen_any N9
  have HB9 := Lib.hid B9
  clear a0 a1 a2 b0 b1' b2 PA PB PB3 PB4 PB5 PB6 PB7 PB9 PK PK7 PK9 M8 N3 N4 N5 N6 N7 N9 B2 B3 B4 B5 B6 B7 B9 HSD HTK
  go_wp2_with (go_at_call 22; with_reducible refine HLEN.out.mono ?_; rintro e w10 ⟨rfl, hw⟩; obtain rfl := hw.symm)
  go_ret
  exact ⟨rfl, HB9.out⟩
end Go.Proofs.YtgigkekajdgngaaGreat
