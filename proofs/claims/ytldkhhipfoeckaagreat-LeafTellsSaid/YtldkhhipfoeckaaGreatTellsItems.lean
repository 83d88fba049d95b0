/-
  The walk of the law LeafTells: for every input it returns true and changes nothing that was there. No condition but those of the arguments' form.
-/
import Derived.Test.YtldkhhipfoeckaaGreatLeafAlive
import Derived.Test.YtldkhhipfoeckaaGreatRReadItems
import Derived.Test.YtldkhhipfoeckaaGreatBookItemsE
import Derived.Test.YtldkhhipfoeckaaGreatBookItemsL
namespace Go.Proofs.YtldkhhipfoeckaaGreat
open Go Go.RowKit
attribute [local go_sem] cell_set_if

theorem getIs_few (b : ByteArray) : (itemsOf b).length ≤ 256 := by
  obtain ⟨m, hm, hme⟩ := getNum_small 1 (bts b, 0) (by omega)
  unfold itemsOf
  rw [hme, Int.toNat_natCast, getIs_len]
  omega
theorem readS_few (b : ByteArray) : (readS b).1.length ≤ 256 := by
  unfold readS
  split
  · simp
  · split
    · exact getIs_few b
    · simp
/-- The list that was given last is as it was. -/
theorem BookI.last {base g N n c : Nat} {w : World} {f : Nat → List Im} {v1 v2 : Value} {V W : List Value} {A : Option Addr} {xs : List Im} (h : BookI base w g (N + 1) (fun j => if j = N then xs else f j) v1 v2 (V ++ [.slice A n c]) W) (hn : xs.length = n) : w.ownsRow base 50 3 (.slice A n c) n (flatI xs) := by
  have hl := h.rV.len
  rw [List.length_append, List.length_cons, List.length_nil] at hl
  obtain ⟨B, d, h1, h2⟩ := h.rV.at_ N (by omega)
  rw [List.getElem?_append_right (by omega), show N - V.length = 0 by omega, List.getElem?_cons_zero] at h1
  injection h1 with h1
  simp only [if_true] at h1 h2
  rw [hn] at h1 h2
  injection h1 with e1 _ e2
  subst e1 e2
  exact h2
set_option maxRecDepth 100000 in
set_option maxHeartbeats 8000000 in
theorem tellsI_any (A : Option Addr) (n c : Nat) (ks : List Im) (b : ByteArray) (w : World) (hr : Rd w A (flatI ks)) (hn : ks.length = n) :
    Calls Tryz.prog 3 #[.slice A n c, .string b] w fun e w' => e = .returned (.bool true) ∧ Below w.heap.size w w' := by
  have HR := Lib.hid hr
  have HN := Lib.hid hn
  have hLt := Lib.hid (light9_any A n c ks w hr hn)
  clear hr hn
  go_enter Tryz.func3, Tryz.ntmps3
  go_wp2_with fail
  refine hLt.out.mono ?_
  rintro e w1 ⟨⟨bl, rfl, hbl⟩, b1⟩
  cases bl
  · go_wp2_with (go_at_call 7; refine (alive9_any _).mono ?_; rintro e w2 ⟨rfl, b2⟩)
    go_ret
    exact ⟨rfl, below_of b2 b1 b1.size⟩
  obtain ⟨h300, hsum⟩ := hbl rfl
  have h300i : (n : Int) ≤ 300 := by omega
  clear hbl
  by_cases hb6 : 600 < b.size
  · have hb6i : (600 : Int) < (b.size : Int) := by omega
    clear hsum hb6
    go_wp2_with (go_at_call 7; refine (alive9_any _).mono ?_; rintro e w2 ⟨rfl, b2⟩)
    go_ret
    exact ⟨rfl, below_of b2 b1 b1.size⟩
  have hb6i : (b.size : Int) ≤ 600 := by omega
  have hLent := Lib.hid fun w hr => lentI_any A n c ks w hr HN.out (by omega)
  have hStays := Lib.hid fun w g d ha hb hd => staysI_any A g n n d c ks w ha hb HN.out hd (by omega)
  have hLay := fun w A c hr => ilay_any A n c ks w hr HN.out (by omega) (by omega)
  have hRLay := fun w hr => rlayI_any A n c ks w hr HN.out (by omega) (by omega)
  have hSz := fun w A c hr => isize_any A n c ks w hr HN.out (by omega)
  have hRSz := fun w hr => rsizeI_any A n c ks w hr HN.out (by omega)
  have hRead := fun w => iread_any b w (by omega)
  have hRRead := fun w => rreadI_any b w (by omega)
  have hfew := readS_few b
  generalize layS ks = l at hLay hRLay
  obtain ⟨S, E⟩ := l
  generalize readS b = r at hRead hRRead hfew
  obtain ⟨xs, G⟩ := r
  simp only at hLay hRLay hfew
  obtain ⟨z, hz⟩ : ∃ z, z = sumI ks := ⟨_, rfl⟩
  rw [← hz] at hSz hRSz
  have HLay := Lib.hid hLay
  have HRLay := Lib.hid hRLay
  have HSz := Lib.hid hSz
  have HRSz := Lib.hid hRSz
  have HRead := Lib.hid hRead
  have HRRead := Lib.hid hRRead
  have hSS : (S.toList == S.toList) = true := by simp
  have hEE : (E != E) = false := by simp
  have hGG : (G != G) = false := by simp
  clear hLay hRLay hSz hRSz hRead hRRead hz hsum hb6
  go_wp2_with (go_at_call 7; refine (alive9_any _).mono ?_; rintro e w2 ⟨rfl, b2⟩; have B2 := below_of b2 b1 b1.size)
  have hK0 := BookI.start w.heap.size w2 B2.size (fun _ => xs)
  go_loopw [6] (fun u6 wr => ∃ (q : Nat) (v1 v2 : Value) (V W : List Value), q ≤ 2 ∧ u6 = .int .i64 q ∧ BookI w.heap.size wr w2.heap.size q (fun _ => xs) v1 v2 V W ∧ (∀ p, v1.ownBlock = some p → w2.heap.size ≤ p) ∧ (∀ p, v2.ownBlock = some p → w2.heap.size ≤ p) ∧ Below w2.heap.size w2 wr) (fun u6 _ => 2 - (intOf u6).toNat)
  case atStart => exact ⟨0, _, _, [], [], by omega, rfl, hK0, fun q hq => by simp [Value.ownBlock] at hq, fun q hq => by simp [Value.ownBlock] at hq, (Below.refl _ _).alloc (Nat.le_refl _) _⟩
  case round =>
    obtain ⟨q, v1, v2, V, W, hq, rfl, hK, hv1, hv2, hB⟩ := hrel
    have HK := Lib.hid hK
    have HV1 := Lib.hid hv1
    have HV2 := Lib.hid hv2
    have BW := below_of hB B2 B2.size
    clear hK hv1 hv2
    by_cases hlt : q < 2
    · have hqi : (q : Int) < 2 := by omega
      go_wp2_with (first
        | (go_at_call 8; refine (hLent.out _ (HR.out.below BW)).mono ?_; rintro e w3 ⟨⟨g3, n3, c3, hn3, hc3, rfl, ho3⟩, b3⟩; obtain rfl : n3 = n := by rw [← hn3, HN.out]
           have B3 := below_of b3 BW BW.size; have M3 := Rd.of_own ho3; have L3 : Rd w3 (some ⟨g3, 0, none⟩) (flatI ks) := by have h := M3; rw [flatI_app] at h; exact h.pre)
        | (go_at_call 9; refine (HLay.out _ _ _ L3).mono ?_; rintro e w4 ⟨rfl, b4⟩; have B4 := below_of b4 B3 B3.size; have D4 := below_of b4 b3 b3.size)
        | (go_at_call 10; refine (HRLay.out _ (HR.out.below B4)).mono ?_; rintro e w5 ⟨rfl, b5⟩; have B5 := below_of b5 B4 B4.size; have D5 := below_of b5 D4 D4.size)
        | (go_at_call 11; refine (HRead.out _).mono ?_; rintro e w6 ⟨⟨A6, n6, c6, hn6, rfl, ho6⟩, b6⟩; have B6 := below_of b6 B5 B5.size; have D6 := below_of b6 D5 D5.size)
        | (go_at_call 12; refine (HRRead.out _).mono ?_; rintro e w7 ⟨⟨A7, n7, c7, hn7, rfl, ho7⟩, b7⟩; obtain rfl : n7 = n6 := by rw [← hn7, ← hn6]
           have B7 := below_of b7 B6 B6.size; have D7 := below_of b7 D6 D6.size; have C5 := below_of b5 b4 b4.size; have C6 := below_of b6 C5 C5.size; have C7 := below_of b7 C6 C6.size; have P7 := own_frm ho3 (S := no) (Frm.of_below C7) (fun _ _ h => h); have O7 := own_frm ho6 (S := no) (Frm.of_below b7) (fun _ _ h => h)
           have hn6' : xs.length = n7 := hn6
           have hlow : w.heap.size ≤ w5.heap.size := B5.size
           have hwr : wr.heap.size ≤ w5.heap.size := D5.size
           have hw2 : w2.heap.size ≤ wr.heap.size := hB.size)
        | (go_at_call 13; refine (addI_any w.heap.size w2.heap.size q (fun _ => xs) v1 v2 V W A6 n7 c6 xs _ (HK.out.below D7) (by omega) B7.size hn6' (by omega) (own_base O7 hlow) (fun i x p hx hp hp2 => by
             have h1 := (HK.out.rV.lt i x p hx hp).2
             have h2 := (O7.lt p hp2).1
             omega)).mono ?_
           rintro e w8 ⟨rfl, ⟨v1', v2', W', K8, hv1', hv2'⟩, F8⟩
           have E8 : Below w2.heap.size w7 w8 := F8.below (by have := B7.size; have := D7.size; omega) (fun i hi => by
             rcases hi with h | h | h
             · omega
             · exact HV1.out i h
             · exact HV2.out i h)
           have D8 : Below w2.heap.size w2 w8 := (hB.trans (D7.mono hw2)).trans E8
           have B8 := below_of D8 B2 B2.size
           have X8 := Rd.of_own (K8.last hn6')
           have hwr6 : wr.heap.size ≤ w6.heap.size := D6.size
           have Y8 := Rd.of_own (own_frm ho7 F8 (fun p hp hs => by
             have h1 := (ho7.lt p hp).1
             rcases hs with h | h | h
             · have := HK.out.B.lt; omega
             · have := (HK.out.r1.lt p h).2; omega
             · have := (HK.out.r2.lt p h).2; omega))
           have M8 := Rd.of_own (own_frm P7 F8 (fun p hp hs => by
             have h1 := (P7.lt p hp).1
             rcases hs with h | h | h
             · have := HK.out.B.lt; omega
             · have := (HK.out.r1.lt p h).2; omega
             · have := (HK.out.r2.lt p h).2; omega)))
        | (go_at_call 14; refine (sameI_yes A6 A7 n7 c6 c7 xs _ X8 Y8 hn6' (by omega)).mono ?_; rintro e w9 ⟨rfl, q9⟩
           have D9 : Below w8.heap.size w8 w9 := q9.below _
           have B9 := below_of D9 B8 B8.size
           have M9 := M8.below D9
           have L9 : Rd w9 (some ⟨g3, 0, none⟩) (flatI ks) := by have h := M9; rw [flatI_app] at h; exact h.pre)
        | (go_at_call 15; refine (HSz.out _ _ _ L9).mono ?_; rintro e w10 ⟨rfl, b10⟩; have D10 := below_of b10 D9 D9.size; have B10 := below_of b10 B9 B9.size; have M10 := M9.below b10)
        | (go_at_call 16; refine (HRSz.out _ (HR.out.below B10)).mono ?_; rintro e w11 ⟨rfl, b11⟩; have D11 := below_of b11 D10 D10.size; have B11 := below_of b11 B10 B10.size; have M11 := M10.below b11)
        | (go_at_call 17; refine (hStays.out _ _ _ M11 (HR.out.below B11) hc3).mono ?_; rintro e w12 ⟨rfl, q12⟩; have D12 := below_of (q12.below _) D11 D11.size))
      go_roundw
      case rel => exact ⟨q + 1, v1', v2', _, W', by omega, by go_num, (K8.below D12).congr (fun j _ => by split <;> rfl), fun p hp => by
          rcases hv1' p hp with h | h
          · exact HV1.out p h
          · have := D7.size; omega, fun p hp => by
          rcases hv2' p hp with h | h
          · exact HV2.out p h
          · have := D7.size; omega, below_of D12 D8 (by have := D8.size; omega)⟩
      case measure => simp [intOf]; omega
    · obtain rfl : q = 2 := by omega
      go_wp2
      go_loopw [16] (fun u16 wx => ∃ i : Nat, i ≤ n ∧ u16 = .int .i64 i ∧ Below wr.heap.size wr wx) (fun u16 _ => n - (intOf u16).toNat)
      case atStart => exact ⟨0, by omega, rfl, Below.refl _ _⟩
      case round =>
        obtain ⟨i, hi, rfl, hBx⟩ := hrel
        have BX := below_of hBx BW BW.size
        by_cases hlt2 : i < n
        · obtain ⟨bb, o, x, rfl, hbb, hx, d0, d1, d2⟩ := HR.out.item (k := i) (by have := HN.out; omega)
          have q0 := NewM.cell (cell_bb BX hbb d0)
          have q1 := NewM.cell (cell_bb BX hbb d1)
          have q2 := NewM.cell (cell_bb BX hbb d2)
          clear d0 d1 d2
          have hV := fun w => ivalid_any x w
          have hRV := fun w => rivalid_any x w
          have hii : (i : Int) < (n : Int) := by omega
          generalize okI x = t at hV hRV
          have HV := Lib.hid hV
          have HRV := Lib.hid hRV
          clear hV hRV hx
          go_wp2
          cases t
          all_goals
            refine wp_region_quiet_new (by kernel_rfl) (by kernel_rfl) ?_
            repeat (go_big_quiet_step ((first | (go_at_call 18; exact NewM.call (HV.out _)) | (go_at_call 19; exact NewM.call (HRV.out _)))))
            refine wpQuiet_nil ?_
            rintro _ ⟨r, rfl⟩
            go_wp2
            go_roundw
            case rel => exact ⟨i + 1, by omega, by go_num, below_of r.h hBx hBx.size⟩
            case measure => simp [intOf]; omega
        · obtain rfl : i = n := by omega
          have K9 := HK.out.below hBx
          have HK9 := Lib.hid K9
          clear K9
          go_wp2_with (go_at_call 20; refine (apartI_any w.heap.size w2.heap.size 2 (fun _ => xs.length) (fun _ => xs) v1 v2 V W _ HK9.out (by omega) (fun _ => rfl) (fun i => by omega) BX.size).mono ?_; rintro e w11 ⟨rfl, F11⟩
                       have B11 := BX.trans (F11.below BX.size (fun i hi => by obtain ⟨j, x, hx, hq⟩ := hi; exact (HK9.out.rV.lt j x i hx hq).1)))
          go_ret
          exact ⟨rfl, B11⟩
end Go.Proofs.YtldkhhipfoeckaaGreat
