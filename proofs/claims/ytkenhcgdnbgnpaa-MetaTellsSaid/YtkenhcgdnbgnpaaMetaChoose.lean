/-
  What meta.Choose gives, from what meta.Read gives of its two texts. No other condition.
-/
import Derived.Test.YtkenhcgdnbgnpaaMetaReadAll
import Derived.Laws.ResultCell
namespace Go.Proofs.Ytkenhcgdnbgnpaa
open Go Go.RowKit
attribute [local go_sem] cell_set_if

/-- What counts behind the first text, behind both. -/
def ch1 (m : Mt) (e : Nat) : Mt := if e = 0 ∧ m.tx % 2 = 0 ∧ 0 < m.tx then m else noM
def ch2 (o m : Mt) (e : Nat) : Mt := if e = 0 ∧ m.tx % 2 = 1 ∧ o.tx < m.tx then m else o
def chM (ma : Mt) (ea : Nat) (mb : Mt) (eb : Nat) : Mt := ch2 (ch1 ma ea) mb eb
abbrev mcells (m : Mt) : Array Value := #[.int .i64 m.tx, .int .i64 m.ro, .int .i64 m.fr, .int .i64 m.pg]
/-- What counts behind k texts. -/
def chK (ma : Mt) (ea : Nat) (mb : Mt) (eb : Nat) : Nat → Mt
  | 0 => noM
  | 1 => ch1 ma ea
  | _ => chM ma ea mb eb
/-- One of two texts is newer, or not: what is kept. -/
def stepM (k : Nat) (o m : Mt) (e : Nat) : Mt := if e = 0 ∧ m.tx % 2 = k ∧ o.tx < m.tx then m else o

set_option maxRecDepth 100000 in
set_option maxHeartbeats 4000000 in
theorem choose_any (a b : ByteArray) (ma mb : Mt) (ea eb : Nat) (ha : ∀ w, Calls Try.prog 11 #[.string a] w fun e w' => e = .returned (.tuple #[metaV ma, .int .i64 ea]) ∧ Below w.heap.size w w')
    (hb : ∀ w, Calls Try.prog 11 #[.string b] w fun e w' => e = .returned (.tuple #[metaV mb, .int .i64 eb]) ∧ Below w.heap.size w w') (w : World) :
    Calls Try.prog 13 #[.string a, .string b] w fun e w' => e = .returned (.tuple #[metaV (if (chM ma ea mb eb).tx = 0 then noM else chM ma ea mb eb), .int .i64 (if (chM ma ea mb eb).tx = 0 then 25 else 0)]) ∧ Below w.heap.size w w' := by
  have HCH : Hid (∀ k : Nat, k < 2 → ∃ (s : ByteArray) (m : Mt) (e : Nat), [a, b][k]? = some s ∧ (∀ w, Calls Try.prog 11 #[.string s] w fun e' w' => e' = .returned (.tuple #[metaV m, .int .i64 e]) ∧ Below w.heap.size w w') ∧ chK ma ea mb eb (k + 1) = stepM k (chK ma ea mb eb k) m e) := by
    intro k hk
    rcases k with _ | _ | k
    · exact ⟨a, ma, ea, rfl, ha, rfl⟩
    · exact ⟨b, mb, eb, rfl, hb, rfl⟩
    · omega
  clear ha hb
  have HE : Hid (chK ma ea mb eb 2 = chM ma ea mb eb) := rfl
  generalize chM ma ea mb eb = o2 at HE ⊢
  have HZ : Hid (chK ma ea mb eb 0 = noM) := rfl
  generalize chK ma ea mb eb = ch at HCH HE HZ
  go_enter Try.func13, Try.ntmps13
  go_wp2
  go_loopw [7, 8, 9, 10, 15] (fun u7 u8 u9 u10 u15 wr => ∃ k : Nat, k ≤ 2 ∧ u15 = .int .i64 k ∧ Blk wr w.heap.size 23 (mcells noM) ∧ Blk wr (w.heap.size + 1) 23 (mcells (ch k)) ∧ Blk wr (w.heap.size + 1 + 1) 9 #[.string a, .string b] ∧ Below w.heap.size w wr) (fun _ _ _ _ u15 _ => 2 - (intOf u15).toNat)
  case atStart =>
    refine ⟨0, by omega, rfl, ?_, ?_, ?_, ?_⟩
    · exact ((Blk.new _ _ _).alloc _).alloc _
    · rw [HZ.out]
      have := (Blk.new (w.alloc (.cells #[.int .i64 0, .int .i64 0, .int .i64 0, .int .i64 0] 23)) 23 #[.int .i64 0, .int .i64 0, .int .i64 0, .int .i64 0]).alloc (.cells #[.string a, .string b] 9)
      simp only [World.size_alloc] at this
      exact this
    · have := Blk.new ((w.alloc (.cells #[.int .i64 0, .int .i64 0, .int .i64 0, .int .i64 0] 23)).alloc (.cells #[.int .i64 0, .int .i64 0, .int .i64 0, .int .i64 0] 23)) 9 #[.string a, .string b]
      simp only [World.size_alloc] at this
      exact this
    · exact (((Below.refl _ _).alloc (Nat.le_refl _) _).alloc (by simp) _).alloc (by simp; omega) _
  case round =>
    obtain ⟨k, hk, rfl, hR, hO, hS, hB⟩ := hrel
    by_cases hlt : k < 2
    · obtain ⟨s, m, e, hs, hrd, hst⟩ := HCH.out k hlt
      have sc : wr.cell? ⟨w.heap.size + 1 + 1, k, none⟩ = some (.string s) := by
        rw [hS.cell k]
        rcases k with _ | _ | k
        · have e : a = s := by simpa using hs
          subst e; rfl
        · have e : b = s := by simpa using hs
          subst e; rfl
        · omega
      have HST := Lib.hid hst
      clear hst hs
      by_cases hq : e = 0 ∧ m.tx % 2 = k ∧ (ch k).tx < m.tx
      · have HN : Hid (ch (k + 1) = m) := by unfold Hid; rw [HST.out]; unfold stepM; rw [if_pos hq]
        obtain ⟨q1, q2, q3⟩ := hq
        have q2' : (m.tx % 2 == (k : Int)) = true := by simpa using q2
        subst q1
        clear q2
        go_wp2_with (first
          | (go_at_call 11; refine (hrd _).mono ?_; rintro e w1 ⟨rfl, b1⟩; have R1 := (hR.below b1).alloc (.cells (mcells m) 23); have O1 := (hO.below b1).alloc (.cells (mcells m) 23); have S1 := (hS.below b1).alloc (.cells (mcells m) 23); have B1 := (below_of b1 hB hB.size).alloc (below_of b1 hB hB.size).size (.cells (mcells m) 23); have oc := O1.cell; have of_ := O1.free; have N1 := Mc.new_at w1 m 23 w1.heap.size rfl; unfold Mc at N1)
          | (go_at_call 10; refine (slot_any _ _).mono ?_; rintro e w2 ⟨rfl, hw2⟩; subst hw2))
        go_roundw
        case rel =>
          refine ⟨k + 1, by omega, by go_num, ?_, ?_, ?_, ?_⟩
          · exact (((R1.far (p := ⟨w.heap.size + 1, 0, none⟩) (show w.heap.size ≠ w.heap.size + 1 by omega) _).far (p := ⟨w.heap.size + 1, 1, none⟩) (show w.heap.size ≠ w.heap.size + 1 by omega) _).far (p := ⟨w.heap.size + 1, 2, none⟩) (show w.heap.size ≠ w.heap.size + 1 by omega) _).far (p := ⟨w.heap.size + 1, 3, none⟩) (show w.heap.size ≠ w.heap.size + 1 by omega) _
          · rw [HN.out]
            exact (((O1.set_ 0 (.int .i64 m.tx)).set_ 1 (.int .i64 m.ro)).set_ 2 (.int .i64 m.fr)).set_ 3 (.int .i64 m.pg)
          · exact (((S1.far (p := ⟨w.heap.size + 1, 0, none⟩) (show w.heap.size + 1 + 1 ≠ w.heap.size + 1 by omega) _).far (p := ⟨w.heap.size + 1, 1, none⟩) (show w.heap.size + 1 + 1 ≠ w.heap.size + 1 by omega) _).far (p := ⟨w.heap.size + 1, 2, none⟩) (show w.heap.size + 1 + 1 ≠ w.heap.size + 1 by omega) _).far (p := ⟨w.heap.size + 1, 3, none⟩) (show w.heap.size + 1 + 1 ≠ w.heap.size + 1 by omega) _
          · exact (((B1.setCell (p := ⟨w.heap.size + 1, 0, none⟩) (by simp) _).setCell (p := ⟨w.heap.size + 1, 1, none⟩) (by simp) _).setCell (p := ⟨w.heap.size + 1, 2, none⟩) (by simp) _).setCell (p := ⟨w.heap.size + 1, 3, none⟩) (by simp) _
        case measure => simp [intOf]; omega
      · have HN : Hid (ch (k + 1) = ch k) := by unfold Hid; rw [HST.out]; unfold stepM; rw [if_neg hq]
        have hc : ((e : Int) == 0) = false ∨ (((e : Int) == 0) = true ∧ (m.tx % 2 == (k : Int)) = false) ∨ (((e : Int) == 0) = true ∧ (m.tx % 2 == (k : Int)) = true ∧ m.tx ≤ (ch k).tx) := by
          simp only [beq_iff_eq, beq_eq_false_iff_ne]
          omega
        clear hq
        rcases hc with q1 | ⟨q1, q2⟩ | ⟨q1, q2, q3⟩
        all_goals
          go_wp2_with (first
            | (go_at_call 11; refine (hrd _).mono ?_; rintro e w1 ⟨rfl, b1⟩; have R1 := (hR.below b1).alloc (.cells (mcells m) 23); have O1 := (hO.below b1).alloc (.cells (mcells m) 23); have S1 := (hS.below b1).alloc (.cells (mcells m) 23); have B1 := (below_of b1 hB hB.size).alloc (below_of b1 hB hB.size).size (.cells (mcells m) 23); have oc := O1.cell; have of_ := O1.free; have N1 := Mc.new_at w1 m 23 w1.heap.size rfl; unfold Mc at N1)
            | (go_at_call 10; refine (slot_any _ _).mono ?_; rintro e w2 ⟨rfl, hw2⟩; subst hw2))
          go_roundw
          case rel => exact ⟨k + 1, by omega, by go_num, R1, by rw [HN.out]; exact O1, S1, B1⟩
          case measure => simp [intOf]; omega
    · obtain rfl : k = 2 := by omega
      rw [HE.out] at hO
      have rc := hR.cell
      have rf := hR.free
      have oc := hO.cell
      by_cases h0 : o2.tx = 0
      · have h0' : (o2.tx == 0) = true := by simpa using h0
        have H0 := Lib.hid h0
        clear h0
        go_wp2
        refine bodyPost_ret (v := .tuple #[metaV noM, .int .i64 25]) (by rw [results_cell_tmp rfl]; go_simp; exact ⟨rfl, rfl, rfl, rfl⟩) rfl ⟨by first | rfl | rw [if_pos H0.out, if_pos H0.out], ?_⟩
        repeat (refine Below.setCell ?_ (by exact Nat.le_refl _) _)
        exact hB
      · have h0' : (o2.tx == 0) = false := by simpa using h0
        have H0 := Lib.hid h0
        clear h0
        go_wp2
        refine bodyPost_ret (v := .tuple #[metaV o2, .int .i64 0]) (by rw [results_cell_tmp rfl]; go_simp) rfl ⟨by first | rfl | rw [if_neg H0.out, if_neg H0.out], ?_⟩
        repeat (refine Below.setCell ?_ (by exact Nat.le_refl _) _)
        exact hB
end Go.Proofs.Ytkenhcgdnbgnpaa
