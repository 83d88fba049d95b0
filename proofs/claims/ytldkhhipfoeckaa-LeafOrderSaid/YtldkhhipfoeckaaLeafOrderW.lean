/-
  The walk of the law LeafOrder: for every input it returns true and changes nothing that was there. No condition but those of the arguments' form.
-/
import Derived.Test.YtldkhhipfoeckaaLeafAlive
import Derived.Test.YtldkhhipfoeckaaItemOrderP
import Derived.Test.YtldkhhipfoeckaaShortTexts
namespace Go.Proofs.Ytldkhhipfoeckaa
open Go Go.RowKit
attribute [local go_sem] cell_set_if

set_option maxRecDepth 100000 in
set_option maxHeartbeats 16000000 in
theorem order_any (A : Option Addr) (n c : Nat) (ks : List Im) (D : Option Addr) (nd cd : Nat) (ds : List ByteArray) (w : World) (hr : Rd w A (flatI ks)) (hn : ks.length = n) (hd : Rd w D (ds.map .string)) (hdn : ds.length = nd) (hds : ∀ s ∈ ds, s.size ≤ maxLen) :
    Calls Try.prog 8 #[.slice A n c, .slice D nd cd] w fun e w' => e = .returned (.bool true) ∧ Below w.heap.size w w' := by
  have HR := Lib.hid hr
  have HN := Lib.hid hn
  have HD := Lib.hid hd
  have HDN := Lib.hid hdn
  have hLt := Lib.hid (light9_any A n c ks w hr hn)
  have hSh := Lib.hid fun w hr => Txt.short_any 60 2000 D nd cd ds w hr hdn hds (by omega) (by omega)
  clear hr hn hd hdn hds
  go_enter Try.func8, Try.ntmps8
  go_wp2_with fail
  refine hLt.out.mono ?_
  rintro e w1 ⟨⟨bl, rfl, hbl⟩, b1⟩
  cases bl
  · go_wp2_with (go_at_call 55; refine (alive9_any _).mono ?_; rintro e w2 ⟨rfl, b2⟩)
    go_ret
    exact ⟨rfl, below_of b2 b1 b1.size⟩
  clear hbl
  by_cases h60 : (60 : Int) < (n : Int)
  · go_wp2_with (go_at_call 55; refine (alive9_any _).mono ?_; rintro e w2 ⟨rfl, b2⟩)
    go_ret
    exact ⟨rfl, below_of b2 b1 b1.size⟩
  have h60i : (n : Int) ≤ 60 := by omega
  clear h60
  have D1 := HD.out.below b1
  cases hsv : (decide ((ds.length : Int) ≤ 60) && Txt.shortT 2000 ds)
  · have hSF : ∀ w, Rd w D (ds.map .string) → Calls Try.prog 65 #[.int .i64 60, .int .i64 2000, .slice D nd cd] w fun e w' => e = .returned (.bool false) ∧ Below w.heap.size w w' := fun w h => by
      have := hSh.out w h; rwa [hsv] at this
    have HSF := Lib.hid hSF
    clear hSF hsv
    go_wp2_with (first
      | (go_at_call 65; refine (HSF.out _ D1).mono ?_; rintro e w2 ⟨rfl, b2⟩; have B2 := below_of b2 b1 b1.size)
      | (go_at_call 55; refine (alive9_any _).mono ?_; rintro e w3 ⟨rfl, b3⟩))
    go_ret
    exact ⟨rfl, below_of b3 B2 B2.size⟩
  have hSF : ∀ w, Rd w D (ds.map .string) → Calls Try.prog 65 #[.int .i64 60, .int .i64 2000, .slice D nd cd] w fun e w' => e = .returned (.bool true) ∧ Below w.heap.size w w' := fun w h => by
    have := hSh.out w h; rwa [hsv] at this
  have hnd : (nd : Int) ≤ 60 := by
    rw [HDN.out] at hsv
    simp at hsv
    omega
  have HSF := Lib.hid hSF
  clear hSF hsv
  go_wp2_with (first
    | (go_at_call 65; refine (HSF.out _ D1).mono ?_; rintro e w2 ⟨rfl, b2⟩; have B2 := below_of b2 b1 b1.size)
    | (go_at_call 55; refine (alive9_any _).mono ?_; rintro e w3 ⟨rfl, b3⟩; have B3 := below_of b3 B2 B2.size))
  have HPN := Lib.hid (PutsI.nil ks)
  go_loopw [5, 6] (fun u5 u6 wr => ∃ (i m c' : Nat) (X : Option Addr) (xs : List Im), i ≤ n ∧ u6 = .int .i64 i ∧ u5 = .slice X m c' ∧ Hid (xs.length = m) ∧ m ≤ i ∧ Rd wr X (flatI xs) ∧ Hid (PutsI ks xs i) ∧ Below w.heap.size w wr) (fun _ u6 _ => n - (intOf u6).toNat)
  case atStart => exact ⟨0, 0, 0, none, [], by omega, rfl, rfl, rfl, Nat.le_refl _, Rd.nil _ _, HPN, B3⟩
  case round =>
    obtain ⟨i, m, c', X, xs, hi, rfl, rfl, HM, hmi, RX, HP, hB⟩ := hrel
    by_cases hlt : i < n
    · obtain ⟨bb, o, x, rfl, hbb, hx, q0, q1, q2⟩ := HR.out.item (k := i) (by have := HN.out; omega)
      have c0 := cell_bb hB hbb q0
      have c1 := cell_bb hB hbb q1
      have c2 := cell_bb hB hbb q2
      have HX := Lib.hid hx
      have hii : (i : Int) < (n : Int) := by omega
      have HC0 := Lib.hid c0
      have HC1 := Lib.hid c1
      have HC2 := Lib.hid c2
      clear hx q0 q1 q2
      cases ho : okI x
      · have HPS := Lib.hid (HP.out.skip HX.out ho)
        have hV : ∀ w, Calls Try.prog 66 #[itemV x] w fun e w' => e = .returned (.bool false) ∧ Below w.heap.size w w' := fun w => by have := rivalid_any x w; rwa [ho] at this
        have HV := Lib.hid hV
        clear hV ho
        go_wp2_with (go_at_call 66; refine (HV.out _).mono ?_; rintro e w4 ⟨rfl, b4⟩; have B4 := below_of b4 hB hB.size)
        go_roundw
        case rel => exact ⟨i + 1, m, c', X, xs, by omega, by go_num, rfl, HM, by omega, RX.below b4, HPS, B4⟩
        case measure => simp [intOf]; omega
      · have hV : ∀ w, Calls Try.prog 66 #[itemV x] w fun e w' => e = .returned (.bool true) ∧ Below w.heap.size w w' := fun w => by have := rivalid_any x w; rwa [ho] at this
        have HV := Lib.hid hV
        obtain ⟨r, hf⟩ := findI_ex HP.out.R x.key
        have HPS := Lib.hid (HP.out.put HX.out ho hf)
        have HLE := Lib.hid (put_len xs x r)
        have HPut := Lib.hid fun w hr => iput_any X m c' xs x w hr HM.out (by omega) HP.out.R r hf
        clear hV ho hf
        go_wp2_with (first
          | (go_at_call 66; refine (HV.out _).mono ?_; rintro e w4 ⟨rfl, b4⟩; have B4 := below_of b4 hB hB.size; have R4 := RX.below b4; have e0 := cell_b b4 c0; have e1 := cell_b b4 c1; have e2 := cell_b b4 c2)
          | (go_at_call 67; refine (HPut.out _ R4).mono ?_; rintro e w5 ⟨⟨A5, m5, c5, hm5, rfl, ho5⟩, b5⟩; have B5 := below_of b5 B4 B4.size; have HM5 := Lib.hid hm5; have R5 := Rd.of_own ho5; clear hm5))
        have hm5 : m5 ≤ i + 1 := by have h1 := HM5.out; have h2 := HLE.out; have h3 := HM.out; omega
        go_roundw
        case rel => exact ⟨i + 1, m5, c5, A5, putL xs x r, by omega, by go_num, rfl, HM5, hm5, R5, HPS, B5⟩
        case measure => simp [intOf]; omega
    · obtain rfl : n = i := by omega
      have hP2 := HP.out
      rw [← HN.out] at hP2
      have HDS := Lib.hid (DropsI.start ds hP2)
      clear hP2 HP
      go_wp2_with fail
      go_loopw [5, 7] (fun u5 u7 wr2 => ∃ (d m c' : Nat) (X : Option Addr) (xs : List Im), d ≤ nd ∧ u7 = .int .i64 d ∧ u5 = .slice X m c' ∧ Hid (xs.length = m) ∧ m ≤ 60 ∧ Rd wr2 X (flatI xs) ∧ Hid (DropsI ks ds xs d) ∧ Below w.heap.size w wr2) (fun _ u7 _ => nd - (intOf u7).toNat)
      case atStart => exact ⟨0, m, c', X, xs, by omega, rfl, rfl, HM, by omega, RX, HDS, hB⟩
      case round =>
        clear hB RX HDS HM hmi
        obtain ⟨d, m, c', X, xs, hd, rfl, rfl, HM, hm60, RX, HP, hB⟩ := hrel
        by_cases hlt2 : d < nd
        · obtain ⟨u, hu⟩ : ∃ u, ds[d]? = some u := ⟨ds[d]'(by have := HDN.out; omega), List.getElem?_eq_getElem _⟩
          obtain ⟨ad, rfl, hcell⟩ := (HD.out.below hB).at_ (k := d) (x := .string u) (by simp [hu])
          obtain ⟨r, hf⟩ := findI_ex HP.out.R u
          have hRD := HP.out.R.less hf
          obtain ⟨r2, hf2⟩ := findI_ex hRD u
          have hno := hasI_none hRD hf2 fun z hz => (of_drop HP.out.R hf hz).2
          have HPS := Lib.hid (HP.out.next hu hf)
          have HLE := Lib.hid (drop_len xs u r)
          obtain ⟨t, ht⟩ : ∃ t, t = hasI xs u r := ⟨_, rfl⟩
          have hDr : ∀ w, Rd w X (flatI xs) → Calls Try.prog 68 #[.slice X m c', .string u] w fun e w' => (∃ B m d, e = .returned (.tuple #[.slice B m d, .bool t]) ∧ (dropL xs u r).length = m ∧ w'.ownsRow w.heap.size 108 3 (.slice B m d) m (flatI (dropL xs u r))) ∧ Below w.heap.size w w' := fun w hr => by
            rw [ht]; exact idrop_any X m c' xs u w hr HM.out (by omega) HP.out.R r hf
          have hF1 : ∀ w, Rd w X (flatI xs) → Calls Try.prog 69 #[.slice X m c', .string u] w fun e w' => e = .returned (.tuple #[.int .i64 r, .bool t]) ∧ Below w.heap.size w w' := fun w hr => by
            rw [ht]; exact ifind_any X m c' xs u w hr HM.out (by omega) HP.out.R r hf
          have hF2 : ∀ w Y m2 c2, (dropL xs u r).length = m2 → m2 ≤ 60 → Rd w Y (flatI (dropL xs u r)) → Calls Try.prog 69 #[.slice Y m2 c2, .string u] w fun e w' => e = .returned (.tuple #[.int .i64 r2, .bool false]) ∧ Below w.heap.size w w' := fun w Y m2 c2 h1 h2 hr => by
            have := ifind_any Y m2 c2 (dropL xs u r) u w hr h1 (by omega) hRD r2 hf2
            rwa [hno] at this
          have HDr := Lib.hid hDr
          have HF1 := Lib.hid hF1
          have HF2 := Lib.hid hF2
          have hdi : (d : Int) < (nd : Int) := by omega
          clear hDr hF1 hF2 ht hno hf2 hRD hf hu
          go_wp2_with (first
            | (go_at_call 68; refine (HDr.out _ RX).mono ?_; rintro e w4 ⟨⟨A4, m4, c4, rfl, hm4, ho4⟩, b4⟩; have B4 := below_of b4 hB hB.size; have HM4 := Lib.hid hm4; have R4 := Rd.of_own ho4; have RX4 := RX.below b4; have f4 := cell_b b4 hcell; have hm46 : m4 ≤ m := by { have h1 := HM4.out; have h2 := HLE.out; have h3 := HM.out; omega }
               clear hm4)
            | (go_at_call 69; (with_reducible refine (HF1.out _ RX4).mono ?_); rintro e w5 ⟨rfl, b5⟩; have B5 := below_of b5 B4 B4.size; have R5 := R4.below b5; have f5 := cell_b b5 f4)
            | (go_at_call 69; (with_reducible refine (HF2.out _ _ _ _ HM4.out (by omega) R5).mono ?_); rintro e w6 ⟨rfl, b6⟩; have B6 := below_of b6 B5 B5.size; have R6 := R5.below b6))
          have hle : ¬ ((m : Int) < (m4 : Int)) := by omega
          cases t
          all_goals
            go_wp2
            go_roundw
            case rel => exact ⟨d + 1, by omega, by go_num, m4, c4, A4, ⟨rfl, rfl, rfl⟩, dropL xs u r, HM4, by omega, R6, HPS⟩
            case measure => simp [intOf]; omega
        · obtain rfl : nd = d := by omega
          have hRt := Lib.hid fun w hr => riright_any X m c' xs w hr HM.out (by omega)
          have hP3 := HP.out
          rw [← HDN.out] at hP3
          have HP3 := Lib.hid hP3
          clear hP3 HP hlt2 hd
          go_wp2_with fail
          refine (hRt.out _ RX).mono ?_
          rintro e w4 ⟨⟨br, rfl, hbr⟩, b4⟩
          obtain rfl : br = true := hbr.2 HP3.out.R
          have B4 := below_of b4 hB hB.size
          have RX4 := RX.below b4
          have hmi : (m : Int) ≤ 60 := by omega
          clear hbr hRt b4 hB RX
          go_wp2_with fail
          go_loopw [14] (fun u14 wr3 => ∃ i : Nat, i ≤ n ∧ u14 = .int .i64 i ∧ Below w4.heap.size w4 wr3) (fun u14 _ => n - (intOf u14).toNat)
          case atStart => exact ⟨0, by omega, rfl, Below.refl _ _⟩
          case round =>
            obtain ⟨i, hi, rfl, hB3⟩ := hrel
            have hBw := below_of hB3 B4 B4.size
            by_cases hlt3 : i < n
            · obtain ⟨bb, o, y, rfl, hbb, hy, q0, q1, q2⟩ := HR.out.item (k := i) (by have := HN.out; omega)
              have c0 := cell_bb hBw hbb q0
              have c1 := cell_bb hBw hbb q1
              have c2 := cell_bb hBw hbb q2
              have HY := Lib.hid hy
              have hii : (i : Int) < (n : Int) := by omega
              clear hy q1 q2
              cases ho : okI y
              · have hV : ∀ w, Calls Try.prog 66 #[itemV y] w fun e w' => e = .returned (.bool false) ∧ Below w.heap.size w w' := fun w => by have := rivalid_any y w; rwa [ho] at this
                have HV := Lib.hid hV
                clear hV ho
                go_wp2_with (go_at_call 66; refine (HV.out _).mono ?_; rintro e w5 ⟨rfl, b5⟩; have B5 := below_of b5 hB3 hB3.size)
                go_roundw
                case rel => exact ⟨i + 1, by omega, by go_num, B5⟩
                case measure => simp [intOf]; omega
              · have hV : ∀ w, Calls Try.prog 66 #[itemV y] w fun e w' => e = .returned (.bool true) ∧ Below w.heap.size w w' := fun w => by have := rivalid_any y w; rwa [ho] at this
                have HV := Lib.hid hV
                have HO := Lib.hid ho
                clear hV ho
                go_wp2_with (go_at_call 66; refine (HV.out _).mono ?_; rintro e w5 ⟨rfl, b5⟩; have B5 := below_of b5 hB3 hB3.size)
                clear HV
                have Bw5 := below_of b5 hBw hBw.size
                go_loopw [15, 17] (fun u15 u17 wr4 => ∃ t : Nat, i + 1 ≤ t ∧ t ≤ n ∧ u17 = .int .i64 t ∧ u15 = .bool (lastB ks i t y.key) ∧ Below w.heap.size w wr4 ∧ Below w4.heap.size w4 wr4) (fun _ u17 _ => n - (intOf u17).toNat)
                case atStart => exact ⟨i + 1, Nat.le_refl _, by omega, by go_num, by rw [lastB_start], Bw5, B5⟩
                case round =>
                  obtain ⟨t, hit, htn, rfl, rfl, hW4, hV4⟩ := hrel
                  have g0 := cell_bb hW4 hbb q0
                  by_cases hlt4 : t < n
                  · obtain ⟨b2, o2, u, e2, hb2, hu, p0, p1, p2⟩ := HR.out.item (k := t) (by have := HN.out; omega)
                    injection e2 with e2
                    injection e2 with e21 e22
                    subst e21 e22
                    have f0 := cell_bb hW4 hbb p0
                    have f1 := cell_bb hW4 hbb p1
                    have f2 := cell_bb hW4 hbb p2
                    have HNX := Lib.hid (lastB_next (key := y.key) (show i < t by omega) hu)
                    have hti : (t : Int) < (n : Int) := by omega
                    obtain ⟨b, hb⟩ : ∃ b, b = lastB ks i t y.key := ⟨_, rfl⟩
                    rw [← hb] at HNX ⊢
                    clear hb hu p0 p1 p2
                    cases b
                    · have HNF : Hid (lastB ks i (t + 1) y.key = false) := HNX.out
                      clear HNX
                      go_wp2
                      go_quiet (fail)
                      go_wp2
                      go_roundw
                      case rel => exact ⟨t + 1, by omega, by omega, by go_num, by rw [HNF.out], below_drewN hW4 _, below_drewN hV4 _⟩
                      case measure => simp [intOf]; omega
                    · cases hk : (u.key.toList == y.key.toList)
                      · have HNF : Hid (lastB ks i (t + 1) y.key = true) := by unfold Hid; rw [HNX.out, hk]; rfl
                        clear HNX
                        go_wp2
                        go_quiet (fail)
                        go_wp2
                        go_roundw
                        case rel => exact ⟨t + 1, by omega, by omega, by go_num, by rw [HNF.out], below_drewN hW4 _, below_drewN hV4 _⟩
                        case measure => simp [intOf]; omega
                      · obtain ⟨q, hq⟩ : ∃ q, q = okI u := ⟨_, rfl⟩
                        have HNF : Hid (lastB ks i (t + 1) y.key = !q) := by unfold Hid; rw [HNX.out, hk, hq]; cases okI u <;> rfl
                        have HV : Hid (∀ w, Calls Try.prog 66 #[itemV u] w fun e w' => e = .returned (.bool q) ∧ Below w.heap.size w w') := fun w => by rw [hq]; exact rivalid_any u w
                        have hF5 : ∀ W, Below wr.heap.size wr W → W.cell? ⟨bb, o + t * 3, none⟩ = some (.string u.key) ∧ W.cell? ⟨bb, o + t * 3 + 1, none⟩ = some (.string u.val) ∧ W.cell? ⟨bb, o + t * 3 + 2, none⟩ = some (.int .i64 u.kind) ∧ W.cell? ⟨bb, o + i * 3, none⟩ = some (.string y.key) := fun W hW => ⟨cell_b hW f0, cell_b hW f1, cell_b hW f2, cell_b hW g0⟩
                        have A0 := hF5 _ ((Below.refl _ _).drew)
                        have HF5 := Lib.hid hF5
                        clear hF5 HNX hq f0 f1 f2 g0
                        go_wp2
                        go_region_held3 (fun W => W.cell? ⟨bb, o + t * 3, none⟩ = some (.string u.key) ∧ W.cell? ⟨bb, o + t * 3 + 1, none⟩ = some (.string u.val) ∧ W.cell? ⟨bb, o + t * 3 + 2, none⟩ = some (.int .i64 u.kind) ∧ W.cell? ⟨bb, o + i * 3, none⟩ = some (.string y.key))
                          (first | exact A0 | exact Q7 | with_reducible assumption)
                          (first
                          | (go_at_call 66; refine (HV.out _).mono ?_; rintro e w7 ⟨rfl, b7⟩; have Q7 := HF5.out _ (below_of b7 ((Below.refl _ _).drew) (by simp)); have W7 := below_of b7 (hW4.drew) (by have := hW4.size; simpa using this); have V7 := below_of b7 (hV4.drew) (by have := hV4.size; simpa using this)))
                        all_goals
                          go_wp2
                          go_roundw
                          case rel => exact ⟨t + 1, by omega, by omega, by go_num, by rw [HNF.out], W7, V7⟩
                          case measure => simp [intOf]; omega
                  · obtain rfl : n = t := by omega
                    obtain ⟨bl, hbl⟩ : ∃ bl, bl = lastB ks i n y.key := ⟨_, rfl⟩
                    rw [← hbl]
                    have HBL := Lib.hid hbl
                    clear hbl hit htn hlt4
                    go_wp2_with fail
                    go_loopw [16, 18] (fun u16 u18 wr5 => ∃ d : Nat, d ≤ nd ∧ u18 = .int .i64 d ∧ u16 = .bool (goneB ds y.key d) ∧ Below w.heap.size w wr5 ∧ Below w4.heap.size w4 wr5) (fun _ u18 _ => nd - (intOf u18).toNat)
                    case atStart => exact ⟨0, by omega, rfl, rfl, hW4, hV4⟩
                    case round =>
                      clear hW4 hV4 g0
                      obtain ⟨d, hd, rfl, rfl, hW5, hV5⟩ := hrel
                      have g0 := cell_bb hW5 hbb q0
                      by_cases hlt5 : d < nd
                      · obtain ⟨u, hu⟩ : ∃ u, ds[d]? = some u := ⟨ds[d]'(by have := HDN.out; omega), List.getElem?_eq_getElem _⟩
                        obtain ⟨ad, rfl, hcell⟩ := (HD.out.below hW5).at_ (k := d) (x := .string u) (by simp [hu])
                        have HNX := Lib.hid (goneB_next (key := y.key) hu)
                        have hdi : (d : Int) < (nd : Int) := by omega
                        obtain ⟨g, hg⟩ : ∃ g, g = goneB ds y.key d := ⟨_, rfl⟩
                        rw [← hg] at HNX ⊢
                        clear hg hu
                        cases g
                        · cases hk : (u.toList == y.key.toList)
                          · have HNF : Hid (goneB ds y.key (d + 1) = false) := by unfold Hid; rw [HNX.out, hk]; rfl
                            clear HNX
                            go_wp2
                            go_quiet (fail)
                            go_wp2
                            go_roundw
                            case rel => exact ⟨d + 1, by omega, by go_num, by rw [HNF.out], below_drewN hW5 _, below_drewN hV5 _⟩
                            case measure => simp [intOf]; omega
                          · have HNF : Hid (goneB ds y.key (d + 1) = true) := by unfold Hid; rw [HNX.out, hk]; rfl
                            clear HNX
                            go_wp2
                            go_quiet (fail)
                            go_wp2
                            go_roundw
                            case rel => exact ⟨d + 1, by omega, by go_num, by rw [HNF.out], below_drewN hW5 _, below_drewN hV5 _⟩
                            case measure => simp [intOf]; omega
                        · have HNF : Hid (goneB ds y.key (d + 1) = true) := by unfold Hid; rw [HNX.out]; rfl
                          clear HNX
                          go_wp2
                          go_quiet (fail)
                          go_wp2
                          go_roundw
                          case rel => exact ⟨d + 1, by omega, by go_num, by rw [HNF.out], below_drewN hW5 _, below_drewN hV5 _⟩
                          case measure => simp [intOf]; omega
                      · obtain rfl : nd = d := by omega
                        obtain ⟨r, hf⟩ := findI_ex HP3.out.R y.key
                        obtain ⟨hLa, hLb⟩ := HP3.out.look HY.out HO.out hf
                        have hrl : r ≤ m := by have h1 := hf.le; have h2 := HM.out; omega
                        rw [HDN.out] at hLa
                        rw [HN.out] at hLb
                        obtain ⟨g, hg⟩ : ∃ g, g = goneB ds y.key nd := ⟨_, rfl⟩
                        rw [← hg]
                        rw [← hg] at hLa
                        have hF1 : ∀ q, q = hasI xs y.key r → ∀ w, Rd w X (flatI xs) → Calls Try.prog 69 #[.slice X m c', .string y.key] w fun e w' => e = .returned (.tuple #[.int .i64 r, .bool q]) ∧ Below w.heap.size w w' := fun q hq w hr => by
                          rw [hq]; exact ifind_any X m c' xs y.key w hr HM.out (by omega) HP3.out.R r hf
                        have RX5 := RX4.below hV5
                        have HQ0 := Lib.hid q0
                        clear hg
                        cases g
                        · have HF1 := Lib.hid (hF1 true (by rw [hLa]; rfl))
                          clear hF1
                          obtain ⟨hrm, z, hz, hzy⟩ := hLb hLa
                          rw [HM.out] at hrm
                          have hrmi : (r : Int) < (m : Int) := by omega
                          have dd1 : decide ((r : Int) < 0) = false := decide_eq_false (by omega)
                          have dd2 : decide ((m : Int) ≤ (r : Int)) = false := decide_eq_false (by omega)
                          have dd3 : decide (m ≤ r) = false := decide_eq_false (by omega)
                          cases bl
                          · clear hLa hLb hf hz hzy
                            go_wp2_with (go_at_call 69; refine (HF1.out _ RX5).mono ?_; rintro e w8 ⟨rfl, b8⟩; have W8 := below_of b8 hW5 hW5.size; have V8 := below_of b8 hV5 hV5.size)
                            go_quiet (fail)
                            go_wp2
                            go_roundw
                            case rel => exact ⟨i + 1, by omega, by go_num, below_drewN V8 _⟩
                            case measure => simp [intOf]; omega
                          · obtain rfl : z = y := hzy HBL.out.symm
                            clear hLa hLb hf hzy
                            obtain ⟨bx, ox, y2, hXe, _, hy2, x0, x1, x2⟩ := RX5.item (k := r) (by rw [HM.out]; exact hrm)
                            rw [hz] at hy2
                            injection hy2 with hy2
                            subst hy2
                            subst hXe
                            clear hz
                            obtain ⟨b3, o3, y3, e3, hb3, hy3, s0, s1, s2⟩ := HR.out.item (k := i) (by have := HN.out; omega)
                            injection e3 with e3
                            injection e3 with e31 e32
                            subst e31 e32
                            rw [HY.out] at hy3
                            injection hy3 with hy3
                            subst hy3
                            go_wp2_with (go_at_call 69; refine (HF1.out _ RX5).mono ?_; rintro e w8 ⟨rfl, b8⟩; have W8 := below_of b8 hW5 hW5.size; have V8 := below_of b8 hV5 hV5.size; have t0 := cell_bb W8 hb3 s0; have t1 := cell_bb W8 hb3 s1; have t2 := cell_bb W8 hb3 s2; have v0 := cell_b b8 x0; have v1 := cell_b b8 x1; have v2 := cell_b b8 x2)
                            go_quiet (fail)
                            go_wp2
                            go_roundw
                            case rel => exact ⟨i + 1, by omega, by go_num, below_drewN V8 _⟩
                            case measure => simp [intOf]; omega
                        · have HF1 := Lib.hid (hF1 false (by rw [hLa]; rfl))
                          clear hF1 hLa hLb hf
                          go_wp2_with (go_at_call 69; refine (HF1.out _ RX5).mono ?_; rintro e w8 ⟨rfl, b8⟩; have W8 := below_of b8 hW5 hW5.size; have V8 := below_of b8 hV5 hV5.size)
                          go_quiet (fail)
                          go_wp2
                          go_roundw
                          case rel => exact ⟨i + 1, by omega, by go_num, below_drewN V8 _⟩
                          case measure => simp [intOf]; omega
            · go_wp2
              go_ret
              exact ⟨rfl, hBw⟩
end Go.Proofs.Ytldkhhipfoeckaa
