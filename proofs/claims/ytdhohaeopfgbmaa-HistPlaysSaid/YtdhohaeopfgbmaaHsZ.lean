/-
  The acts of the log's law: are they few and short? Conditions: rows that memory holds.
-/
import Derived.Test.YtdhohaeopfgbmaaOne
import Derived.Test.YtdhohaeopfgbmaaHsY
namespace Go.Proofs.Ytdhohaeopfgbmaa
open Go Go.RowKit
attribute [local go_sem] cell_set_if

theorem En.fits.good {w : World} {x : En} (h : x.fits w) : x.good w := ⟨h.2.2.2.2.1, h.2.2.2.2.2.1, h.2.2.2.2.2.2.1, fun y hy => (h.2.2.2.2.2.2.2 y hy).2⟩
/-- Few, and short. -/
def lightH (os : List OpH) : Bool := (os.take 100).all (fun o => lightE 12 o.es) && decide (os.length ≤ 60)
theorem lightH_yes {os : List OpH} (h : lightH os = true) : os.length ≤ 60 ∧ ∀ o ∈ os, lightE 12 o.es = true := by
  unfold lightH at h
  rw [Bool.and_eq_true, decide_eq_true_eq] at h
  refine ⟨h.2, fun o ho => ?_⟩
  have h1 := List.all_eq_true.1 h.1
  rw [List.take_of_length_le (by omega)] at h1
  exact h1 o ho
theorem lightH_no {os : List OpH} {o : OpH} {k : Nat} (_hk : k < 100) (hx : os[k]? = some o) (h : lightE 12 o.es = false) : lightH os = false := by
  cases hc : lightH os
  · rfl
  · have h1 := (lightH_yes hc).2 o (List.mem_of_getElem? hx)
    rw [h] at h1; exact absurd h1 (by decide)
theorem lightH_long {os : List OpH} (h : 60 < os.length) : lightH os = false := by
  unfold lightH; rw [decide_eq_false (by omega), Bool.and_false]
theorem lightH_all {os : List OpH} (hl : os.length ≤ 60) (h : ∀ o ∈ os, lightE 12 o.es = true) : lightH os = true := by
  unfold lightH
  rw [decide_eq_true hl, Bool.and_true]
  exact List.all_eq_true.2 fun o ho => h o (List.mem_of_mem_take ho)
set_option maxRecDepth 100000 in
set_option maxHeartbeats 4000000 in
theorem lightH_any (A : Option Addr) (n c : Nat) (os : List OpH) (w : World) (hr : Rd w A (flatH os)) (hn : os.length = n) (hm : n ≤ maxLen) (hG : ∀ o ∈ os, o.fits w) :
    Calls Try.prog 4 #[.slice A n c] w fun e w' => e = .returned (.bool (lightH os)) ∧ Below w.heap.size w w' := by
  have HR := Lib.hid hr
  have HN := Lib.hid hn
  have HG := Lib.hid hG
  have hnn : (n : Int) ≤ 9223372036854775807 := by unfold maxLen at hm; omega
  clear hr hn hG
  go_enter Try.func4, Try.ntmps4
  go_wp2
  go_loopw [3] (fun u3 wr => ∃ (k : Nat), k ≤ n ∧ k ≤ 100 ∧ u3 = .int .i64 k ∧ Hid (∀ o ∈ os.take k, lightE 12 o.es = true) ∧ Hid (Below w.heap.size w wr)) (fun u3 _ => n - (intOf u3).toNat)
  case atStart => exact ⟨0, by omega, by omega, rfl, fun o ho => absurd ho (by simp), Below.refl _ _⟩
  case round =>
    obtain ⟨k, hk, hkf, rfl, HT, HB⟩ := hrel
    by_cases hlt : k < n
    · have hki : (k : Int) < (n : Int) := by omega
      have dk : decide ((k : Int) < (n : Int)) = true := decide_eq_true hki
      by_cases hlf : k < 100
      · have dl : decide ((k : Int) < 100) = true := decide_eq_true (by omega)
        obtain ⟨b1, o1, x, rfl, hbl, hx, c0, c1, c2, c3, c4⟩ := (HR.out.below HB.out).oph (k := k) (by have := HN.out; omega)
        obtain ⟨_, g1, g2, g3, g4⟩ := HG.out x (List.mem_of_getElem? hx)
        have hl : Calls Try.prog 36 #[.int .i64 12, .slice x.A x.n x.c] wr fun e w' => e = .returned (.bool (lightE 12 x.es)) ∧ Below wr.heap.size wr w' := (lightE_any 12 x.A x.n x.c x.es wr (g1.below HB.out) g2 g3 (by omega) (fun y hy => by
          have h := (g4 y hy).good
          exact ⟨h.1.below HB.out, h.2.1, h.2.2.1, fun z hz => h.2.2.2 z hz⟩))
        have HTK : Hid (os.take (k + 1) = os.take k ++ [x]) := by unfold Hid; rw [List.take_add_one, hx]; rfl
        have HNO : Hid (lightE 12 x.es = false → lightH os = false) := fun h => lightH_no hlf hx h
        obtain ⟨r, hr9⟩ : ∃ r, r = lightE 12 x.es := ⟨_, rfl⟩
        rw [← hr9] at hl
        have HL := Lib.hid hl
        clear hl
        have HR9 := Lib.hid hr9
        clear hx c0 c1 c2 c4 g1 g2 g3 g4 hr9
        cases r
        · go_wp2_with (go_at_call 36; with_reducible refine HL.out.mono ?_; rintro e w2 ⟨rfl, b2⟩)
          go_ret
          exact ⟨ret_bool (HNO.out HR9.out.symm).symm, HB.out.trans (b2.mono HB.out.size)⟩
        · go_wp2_with (go_at_call 36; with_reducible refine HL.out.mono ?_; rintro e w2 ⟨rfl, b2⟩)
          go_roundw
          case rel =>
            refine ⟨k + 1, by omega, by omega, by go_num, fun o ho => ?_, HB.out.trans (b2.mono HB.out.size)⟩
            rw [HTK.out] at ho
            rcases List.mem_append.1 ho with h | h
            · exact HT.out o h
            · rw [List.mem_singleton.1 h]; exact HR9.out.symm
          case measure => simp [intOf]; omega
      · have dl : decide ((k : Int) < 100) = false := decide_eq_false (by omega)
        have d6 : decide ((n : Int) ≤ 60) = false := decide_eq_false (by omega)
        go_wp2
        go_ret
        exact ⟨ret_bool (lightH_long (by have := HN.out; omega)).symm, HB.out⟩
    · have dk : decide ((k : Int) < (n : Int)) = false := decide_eq_false (by omega)
      obtain rfl : k = n := by omega
      by_cases h6 : k ≤ 60
      · have d6 : decide ((k : Int) ≤ 60) = true := decide_eq_true (by omega)
        go_wp2
        go_ret
        exact ⟨ret_bool (lightH_all (by have := HN.out; omega) (fun o ho => HT.out o (by rw [List.take_of_length_le (by have := HN.out; omega)]; exact ho))).symm, HB.out⟩
      · have d6 : decide ((k : Int) ≤ 60) = false := decide_eq_false (by omega)
        go_wp2
        go_ret
        exact ⟨ret_bool (lightH_long (by have := HN.out; omega)).symm, HB.out⟩
end Go.Proofs.Ytdhohaeopfgbmaa
