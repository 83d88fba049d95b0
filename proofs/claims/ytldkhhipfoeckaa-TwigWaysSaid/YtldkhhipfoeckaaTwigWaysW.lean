/-
  The walk of the law TwigWays: for every input it returns true and changes nothing that was there. No condition but those of the arguments' form.
-/
import Derived.Test.YtldkhhipfoeckaaTwigAlive
namespace Go.Proofs.Ytldkhhipfoeckaa
open Go Go.RowKit
attribute [local go_sem] cell_set_if

theorem str_ne (a b : ByteArray) (h : a ≠ b) : (a.toList == b.toList) = false := by rw [str_beq]; simpa using fun h2 => h (bts_inj h2)
theorem cmp_above {a b : ByteArray} (h : ltB b a = true) : Op.bytesLess a.toList b.toList = false ∧ (a.toList == b.toList) = false := by
  refine ⟨by rw [less_eq]; exact ltB_asymm h, str_ne _ _ fun e => ?_⟩
  rw [e, ltB_irrefl] at h; cases h
/-- Where a right child's own key is found, and the next one's. -/
theorem find_own {ks : List Kd} (hR : RightK ks) {k : Nat} {x : Kd} (hx : ks[k]? = some x) : FindK ks x.key (k + 1) := by
  have hl := (List.getElem?_eq_some_iff.1 hx).1
  refine ⟨by omega, fun t y ht hy => ?_, fun t y ht hy => hR.lt hx hy (by omega)⟩
  by_cases hc : t = k
  · subst hc; rw [hx] at hy; injection hy with hy; subst hy; exact ltB_irrefl _
  · exact ltB_asymm (hR.lt hy hx (by omega))
theorem find_behind {ks : List Kd} (hR : RightK ks) {k : Nat} {x : Kd} (hx : ks[k]? = some x) (hn : ∀ y, ks[k + 1]? = some y → ltB (x.key ++ ⟨#[0]⟩) y.key = true) : FindK ks (x.key ++ ⟨#[0]⟩) (k + 1) := by
  have hl := (List.getElem?_eq_some_iff.1 hx).1
  refine ⟨by omega, fun t y ht hy => ?_, fun t y ht hy => ?_⟩
  · by_cases hc : t = k
    · subst hc; rw [hx] at hy; injection hy with hy; subst hy; exact ltB_asymm (ltB_zero _)
    · exact ltB_asymm (ltB_trans (hR.lt hy hx (by omega)) (ltB_zero _))
  · have hl2 := (List.getElem?_eq_some_iff.1 hy).1
    have e : ks[k + 1]? = some (ks[k + 1]'(by omega)) := List.getElem?_eq_getElem _
    by_cases hc : t = k + 1
    · subst hc; exact hn y hy
    · exact ltB_trans (hn _ e) (hR.lt e hy (by omega))
theorem find_ex {ks : List Kd} (hR : RightK ks) (key : ByteArray) : ∃ r, FindK ks key r := by
  obtain ⟨r, h1, h2, h3⟩ := boundary ks.length (aboveK ks key) (aboveK_mono hR key)
  exact ⟨r, findK_of h1 h2 h3⟩
theorem findV_nat {ks : List Kd} {key : ByteArray} {r n : Nat} (h : FindK ks key r) (hn : ks.length = n) (h0 : 0 < n) :
    ∃ v : Nat, findV n r = (v : Int) ∧ v < n ∧ (∀ y, ks[v]? = some y → v = 0 ∨ ltB key y.key = false) ∧ (∀ y, ks[v + 1]? = some y → ltB key y.key = true) := by
  have hl := h.le
  by_cases hr : r = 0
  · subst hr
    exact ⟨0, if_pos ⟨rfl, h0⟩, h0, fun y _ => .inl rfl, fun y hy => h.hi _ y (by omega) hy⟩
  · exact ⟨r - 1, by unfold findV; rw [if_neg (fun x => hr x.1)]; omega, by omega, fun y hy => .inr (h.lo _ y (by omega) hy), fun y hy => h.hi _ y (by omega) hy⟩

set_option maxRecDepth 100000 in
set_option maxHeartbeats 4000000 in
theorem ways_any (A : Option Addr) (n c : Nat) (ks : List Kd) (key : ByteArray) (w : World) (hr : Rd w A (flatK ks)) (hn : ks.length = n) :
    Calls Try.prog 5 #[.slice A n c, .string key] w fun e w' => e = .returned (.bool true) ∧ Below w.heap.size w w' := by
  have HR := Lib.hid hr
  have HN := Lib.hid hn
  have hLt := Lib.hid (light10_any A n c ks w hr hn)
  have hRt := Lib.hid fun hm w hr => rkright_any A n c ks w hr hn hm
  clear hr hn
  go_enter Try.func5, Try.ntmps5
  go_wp2_with fail
  refine hLt.out.mono ?_
  rintro e w1 ⟨⟨bl, rfl, hbl⟩, b1⟩
  cases bl
  · go_wp2_with (go_at_call 52; refine (alive10_any _).mono ?_; rintro e w2 ⟨rfl, b2⟩)
    go_ret
    exact ⟨rfl, below_of b2 b1 b1.size⟩
  obtain ⟨h300, hsum⟩ := hbl rfl
  have HSum := Lib.hid hsum
  have hm : n ≤ 1000000 := by omega
  have hnn : (n : Int) ≤ 1000000 := by omega
  have R1 := HR.out.below b1
  clear hbl hsum
  go_wp2_with fail
  refine (hRt.out hm _ R1).mono ?_
  rintro e w2 ⟨⟨br, rfl, hbr⟩, b2⟩
  have B2 := below_of b2 b1 b1.size
  cases br
  · go_wp2_with (go_at_call 52; refine (alive10_any _).mono ?_; rintro e w2 ⟨rfl, b2⟩)
    go_ret
    exact ⟨rfl, below_of b2 B2 B2.size⟩
  obtain ⟨hR, hne⟩ := hbr.1 rfl
  have HRK := Lib.hid hR
  have hpos : 0 < n := by have := HN.out; rw [← this]; exact List.length_pos_iff.2 hne
  clear hbr hR hne
  by_cases hk1 : 100 < key.size
  · have hk1i : (100 : Int) < (key.size : Int) := by omega
    go_wp2_with (go_at_call 52; refine (alive10_any _).mono ?_; rintro e w2 ⟨rfl, b2⟩)
    go_ret
    exact ⟨rfl, below_of b2 B2 B2.size⟩
  have hk1i : (key.size : Int) ≤ 100 := by omega
  have h300i : (n : Int) ≤ 300 := by omega
  have hFind := Lib.hid fun w key r hr hf => kfind_any A n c ks key w hr HN.out hm HRK.out r hf
  go_wp2_with (go_at_call 52; refine (alive10_any _).mono ?_; rintro e w3 ⟨rfl, b3⟩; have B3 := below_of b3 B2 B2.size)
  go_loopw [4, 5, 6] (fun u4 u5 u6 wr => ∃ k : Nat, k ≤ n ∧ u5 = .int .i64 k ∧ Below w.heap.size w wr) (fun _ u5 _ _ => n - (intOf u5).toNat)
  case atStart => exact ⟨0, by omega, rfl, B3⟩
  case round =>
    obtain ⟨k, hk, rfl, hB⟩ := hrel
    by_cases hlt : k < n
    · have hRr := HR.out.below hB
      obtain ⟨bb, o, x, rfl, hbb, hx, d0, _⟩ := HR.out.kid (k := k) (by have := HN.out; omega)
      have c0 := cell_bb hB hbb d0
      have hki : (k : Int) < (n : Int) := by omega
      have hv : findV n (k + 1) = (k : Int) := by unfold findV; rw [if_neg (by omega)]; omega
      have hF1 : ∀ w, Rd w (some ⟨bb, o, none⟩) (flatK ks) → Calls Try.prog 53 #[.slice (some ⟨bb, o, none⟩) n c, .string x.key] w fun e w' => e = .returned (.int .i64 k) ∧ Below w.heap.size w w' := fun w h => by
        have := hFind.out w x.key (k + 1) h (find_own HRK.out hx)
        rwa [hv] at this
      have hzn : ¬ (9223372036854775807 : Int) < (x.key.size : Int) + 1 := by
        have hok := HRK.out.ok k x hx
        unfold okK at hok; simp at hok; omega
      have hq0 : ((k : Int) != (k : Int)) = false := by simp
      obtain ⟨Z, hZ⟩ : ∃ Z, Z = x.key ++ (⟨#[0]⟩ : ByteArray) := ⟨_, rfl⟩
      have hF2 : (∀ y, ks[k + 1]? = some y → ltB Z y.key = true) → ∀ w, Rd w (some ⟨bb, o, none⟩) (flatK ks) → Calls Try.prog 53 #[.slice (some ⟨bb, o, none⟩) n c, .string Z] w fun e w' => e = .returned (.int .i64 k) ∧ Below w.heap.size w w' := fun hy w h => by
        have := hFind.out w Z (k + 1) h (by rw [hZ]; rw [hZ] at hy; exact find_behind HRK.out hx hy)
        rwa [hv] at this
      have hZZ := hZ.symm
      have HF1 := Lib.hid hF1
      have HF2 := Lib.hid hF2
      clear hF1 hF2 hZ hv d0 hx
      by_cases hlast : k + 1 = n
      · have hq1 : ((k : Int) + 1 == (n : Int)) = true := by simp; omega
        have HF3 := Lib.hid (HF2.out fun y hy => by have h1 := (List.getElem?_eq_some_iff.1 hy).1; have := HN.out; omega)
        go_wp2_with (first
          | (go_at_call 53; with_reducible refine (HF1.out _ hRr).mono ?_; rintro e w4 ⟨rfl, b4⟩; have R4 := hRr.below b4; have B4 := below_of b4 hB hB.size)
          | (go_at_call 53; with_reducible refine (HF3.out _ R4).mono ?_; rintro e w5 ⟨rfl, b5⟩; have B5 := below_of b5 B4 B4.size))
        go_roundw
        case rel => exact ⟨k + 1, by omega, by go_num, B5⟩
        case measure => simp [intOf]; omega
      · have hq1 : ((k : Int) + 1 == (n : Int)) = false := by simp; omega
        obtain ⟨b2, o2, y, e2, hb2, hy, f0, _⟩ := HR.out.kid (k := k + 1) (by have := HN.out; omega)
        injection e2 with e2
        injection e2 with e21 e22
        subst e21 e22
        have hk1n : (k : Int) + 1 < (n : Int) := by omega
        cases hlt2 : ltB Z y.key
        · have hg := gtr_eq y.key Z
          rw [hlt2] at hg
          clear HF2 hy hlt2
          cases h1 : Op.bytesLess y.key.toList Z.toList <;> cases h2 : (y.key.toList == Z.toList)
          · rw [h1, h2] at hg; cases hg
          all_goals
            clear hg
            go_wp2_with (first
              | (go_at_call 53; with_reducible refine (HF1.out _ hRr).mono ?_; rintro e w4 ⟨rfl, b4⟩; have R4 := hRr.below b4; have B4 := below_of b4 hB hB.size; have f4 := cell_bb B4 hbb f0))
            go_roundw
            case rel => exact ⟨k + 1, by omega, by go_num, B4⟩
            case measure => simp [intOf]; omega
        · obtain ⟨hc1, hc2⟩ := cmp_above hlt2
          have HF3 := Lib.hid (HF2.out fun z hz => by rw [hy] at hz; injection hz with hz; subst hz; exact hlt2)
          clear HF2 hy hlt2
          go_wp2_with (first
            | (go_at_call 53; with_reducible refine (HF1.out _ hRr).mono ?_; rintro e w4 ⟨rfl, b4⟩; have R4 := hRr.below b4; have B4 := below_of b4 hB hB.size; have f4 := cell_bb B4 hbb f0)
            | (go_at_call 53; with_reducible refine (HF3.out _ R4).mono ?_; rintro e w5 ⟨rfl, b5⟩; have B5 := below_of b5 B4 B4.size))
          go_roundw
          case rel => exact ⟨k + 1, by omega, by go_num, B5⟩
          case measure => simp [intOf]; omega
    · obtain rfl : k = n := by omega
      obtain ⟨r, hf⟩ := find_ex HRK.out key
      obtain ⟨v, hv, hvn, hv1, hv2⟩ := findV_nat hf HN.out hpos
      have hF1 := hFind.out wr key r (HR.out.below hB) hf
      rw [hv] at hF1
      have HF1 := Lib.hid hF1
      obtain ⟨bb, o, y, rfl, hbb, hy, d0, _⟩ := HR.out.kid (k := v) (by have := HN.out; omega)
      have hvi : (v : Int) < (k : Int) := by omega
      have hv1' := hv1 y hy
      clear hv hf hF1 hv1
      by_cases hlast : v + 1 = k
      · have hq1 : ((v : Int) + 1 == (k : Int)) = true := by simp; omega
        by_cases hv0 : v = 0
        · have hq0 : ((v : Int) == 0) = true := by simp [hv0]
          clear hv0
          go_wp2_with (go_at_call 53; refine HF1.out.mono ?_; rintro e w4 ⟨rfl, b4⟩; have B4 := below_of b4 hB hB.size; have c4 := cell_bb B4 hbb d0)
          go_ret
          exact ⟨rfl, B4⟩
        · have hq0 : ((v : Int) == 0) = false := by simpa using hv0
          have hle := leq_eq y.key key
          rw [hv1'.resolve_left hv0] at hle
          simp only [Bool.not_false] at hle
          clear hv0
          go_wp2_with (go_at_call 53; refine HF1.out.mono ?_; rintro e w4 ⟨rfl, b4⟩; have B4 := below_of b4 hB hB.size; have c4 := cell_bb B4 hbb d0)
          go_ret
          exact ⟨rfl, B4⟩
      · have hq1 : ((v : Int) + 1 == (k : Int)) = false := by simp; omega
        obtain ⟨b2, o2, z, e2, hb2, hz, f0, _⟩ := HR.out.kid (k := v + 1) (by have := HN.out; omega)
        injection e2 with e2
        injection e2 with e21 e22
        subst e21 e22
        have hv1n : (v : Int) + 1 < (k : Int) := by omega
        obtain ⟨hc1, hc2⟩ := cmp_above (hv2 z hz)
        by_cases hv0 : v = 0
        · have hq0 : ((v : Int) == 0) = true := by simp [hv0]
          clear hv0
          go_wp2_with (go_at_call 53; refine HF1.out.mono ?_; rintro e w4 ⟨rfl, b4⟩; have B4 := below_of b4 hB hB.size; have c4 := cell_bb B4 hbb d0; have f4 := cell_bb B4 hbb f0)
          go_ret
          exact ⟨rfl, B4⟩
        · have hq0 : ((v : Int) == 0) = false := by simpa using hv0
          have hle := leq_eq y.key key
          rw [hv1'.resolve_left hv0] at hle
          simp only [Bool.not_false] at hle
          clear hv0
          go_wp2_with (go_at_call 53; refine HF1.out.mono ?_; rintro e w4 ⟨rfl, b4⟩; have B4 := below_of b4 hB hB.size; have c4 := cell_bb B4 hbb d0; have f4 := cell_bb B4 hbb f0)
          go_ret
          exact ⟨rfl, B4⟩
end Go.Proofs.Ytldkhhipfoeckaa
