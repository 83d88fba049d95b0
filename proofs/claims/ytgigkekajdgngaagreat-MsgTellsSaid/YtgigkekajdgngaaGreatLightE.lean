/-
  Are entries few and short? Conditions: rows that memory holds.
-/
import Derived.Test.YtgigkekajdgngaaGreatBookTexts
import Derived.Test.YtgigkekajdgngaaGreatMtOne
namespace Go.Proofs.YtgigkekajdgngaaGreat
open Go Go.RowKit
attribute [local go_sem] cell_set_if

def cmZ (x : Cm) : List Int := [9, (x.path.size : Int), (x.key.size : Int), (x.val.size : Int), (x.old.size : Int)]
/-- How much room is left behind commands. -/
def cmdsL : Int → List Cm → Int
  | n, [] => n
  | n, x :: xs => if 0 ≤ n then cmdsL (roomL n (cmZ x)) xs else n
theorem cmdsL_neg {n : Int} (h : ¬ 0 ≤ n) (l : List Cm) : cmdsL n l = n := by
  cases l with
  | nil => rfl
  | cons x xs => unfold cmdsL; rw [if_neg h]
set_option maxRecDepth 100000 in
set_option maxHeartbeats 4000000 in
theorem cmds_any (left : Int) (A : Option Addr) (n c : Nat) (l : List Cm) (w : World) (hr : Rd w A (flatCm l)) (hn : l.length = n) (hm : n ≤ maxLen) (hl0 : -1 ≤ left) (hl1 : left ≤ 1000000) (hS : ∀ x ∈ l, x.path.size ≤ maxLen ∧ x.key.size ≤ maxLen ∧ x.val.size ≤ maxLen ∧ x.old.size ≤ maxLen) :
    Calls Tryz.prog 17 #[.int .i64 left, .slice A n c] w fun e w' => e = .returned (.int .i64 (cmdsL left l)) ∧ Below w.heap.size w w' := by
  have HR := Lib.hid hr
  have HN := Lib.hid hn
  have HS := Lib.hid hS
  have hnn : (n : Int) ≤ 9223372036854775807 := by unfold maxLen at hm; omega
  have HL0 := Lib.hid hl0
  have HL1 := Lib.hid hl1
  clear hr hn hl0 hl1 hS
  go_enter Tryz.func17, Tryz.ntmps17
  go_wp2
  go_loopw [0, 5] (fun u0 u5 wr => ∃ (k : Nat) (t : Int), k ≤ n ∧ u5 = .int .i64 k ∧ u0 = .int .i64 t ∧ Hid (cmdsL left l = cmdsL t (l.drop k)) ∧ -1 ≤ t ∧ t ≤ 1000000 ∧ Hid (Below w.heap.size w wr)) (fun _ u5 _ => n - (intOf u5).toNat)
  case atStart =>
    exact ⟨0, left, by omega, rfl, rfl, rfl, HL0.out, HL1.out, Below.refl _ _⟩
  case round =>
    obtain ⟨k, t, hk, rfl, rfl, ht, ht0, ht1, HB⟩ := hrel
    by_cases hlt : k < n
    · have hki : (k : Int) < (n : Int) := by omega
      have dk : decide ((k : Int) < (n : Int)) = true := decide_eq_true hki
      by_cases h0 : 0 ≤ t
      · have d0 : decide (0 ≤ t) = true := decide_eq_true h0
        obtain ⟨b1, o1, x, rfl, hbl, hx, c0, c1, c2, c3, c4⟩ := (HR.out.below HB.out).cm (k := k) (by have := HN.out; omega)
        have hsx := HS.out x (List.mem_of_getElem? hx)
        have HW := Lib.hid (drop_at l k x hx)
        have RN : Rd ((wr.alloc (.cells #[.int .i64 9, .int .i64 x.path.size, .int .i64 x.key.size, .int .i64 x.val.size, .int .i64 x.old.size] 3)).drew) (some ⟨wr.heap.size, 0, none⟩) ((cmZ x).map (Value.int .i64)) := Rd.new wr #[.int .i64 9, .int .i64 x.path.size, .int .i64 x.key.size, .int .i64 x.val.size, .int .i64 x.old.size] 3
        have hzs : ∀ z ∈ cmZ x, 0 ≤ z ∧ z ≤ 9223372036854775807 := fun z hz => by
          unfold maxLen at hsx
          unfold cmZ at hz
          simp only [List.mem_cons, List.mem_nil_iff, or_false] at hz
          rcases hz with rfl | rfl | rfl | rfl | rfl <;> omega
        have hle := roomL_le t (cmZ x) (fun z hz => (hzs z hz).1) (by omega)
        have HRM := Lib.hid (room_any t (some ⟨wr.heap.size, 0, none⟩) 5 5 (cmZ x) _ RN rfl (by omega) (by omega) hzs)
        obtain ⟨r, hr9⟩ : ∃ r, r = roomL t (cmZ x) := ⟨_, rfl⟩
        rw [← hr9] at HRM hle
        have HNT : Hid (cmdsL left l = cmdsL r (l.drop (k + 1))) := by
          unfold Hid
          rw [ht.out, HW.out]
          conv => lhs; unfold cmdsL
          rw [if_pos h0, hr9]
        clear hx c0 hr9 hzs RN
        unfold maxLen at hsx
        have s1 : (x.path.size : Int) ≤ 9223372036854775807 := by omega
        have s2 : (x.key.size : Int) ≤ 9223372036854775807 := by omega
        have s3 : (x.val.size : Int) ≤ 9223372036854775807 := by omega
        have s4 : (x.old.size : Int) ≤ 9223372036854775807 := by omega
        clear hsx
        have hb1 : b1 < wr.heap.size := hbl
        have SW : wr.cell? ⟨b1, o1 + k * 5 + 1, none⟩ = some (.string x.path) ∧ wr.cell? ⟨b1, o1 + k * 5 + 2, none⟩ = some (.string x.key) ∧ wr.cell? ⟨b1, o1 + k * 5 + 3, none⟩ = some (.string x.val) ∧ wr.cell? ⟨b1, o1 + k * 5 + 4, none⟩ = some (.string x.old) := ⟨c1, c2, c3, c4⟩
        have ba : Below wr.heap.size wr (wr.alloc (.cells #[.int .i64 9, .int .i64 x.path.size, .int .i64 x.key.size, .int .i64 x.val.size, .int .i64 x.old.size] 3)).drew := ((Below.refl _ _).alloc (Nat.le_refl _) _).drew
        have SA : (wr.alloc (.cells #[.int .i64 9, .int .i64 x.path.size, .int .i64 x.key.size, .int .i64 x.val.size, .int .i64 x.old.size] 3)).drew.cell? ⟨b1, o1 + k * 5 + 1, none⟩ = some (.string x.path) ∧ (wr.alloc (.cells #[.int .i64 9, .int .i64 x.path.size, .int .i64 x.key.size, .int .i64 x.val.size, .int .i64 x.old.size] 3)).drew.cell? ⟨b1, o1 + k * 5 + 2, none⟩ = some (.string x.key) ∧ (wr.alloc (.cells #[.int .i64 9, .int .i64 x.path.size, .int .i64 x.key.size, .int .i64 x.val.size, .int .i64 x.old.size] 3)).drew.cell? ⟨b1, o1 + k * 5 + 3, none⟩ = some (.string x.val) ∧ (wr.alloc (.cells #[.int .i64 9, .int .i64 x.path.size, .int .i64 x.key.size, .int .i64 x.val.size, .int .i64 x.old.size] 3)).drew.cell? ⟨b1, o1 + k * 5 + 4, none⟩ = some (.string x.old) :=
          ⟨(ba.cell (p := ⟨b1, _, none⟩) hb1).trans c1, (ba.cell (p := ⟨b1, _, none⟩) hb1).trans c2, (ba.cell (p := ⟨b1, _, none⟩) hb1).trans c3, (ba.cell (p := ⟨b1, _, none⟩) hb1).trans c4⟩
        go_upto_region 4 with fail
        go_region_held3 (fun W => W.cell? ⟨b1, o1 + k * 5 + 1, none⟩ = some (.string x.path) ∧ W.cell? ⟨b1, o1 + k * 5 + 2, none⟩ = some (.string x.key) ∧ W.cell? ⟨b1, o1 + k * 5 + 3, none⟩ = some (.string x.val) ∧ W.cell? ⟨b1, o1 + k * 5 + 4, none⟩ = some (.string x.old)) (first | exact SW | exact SA | with_reducible assumption)
          (first
            | (go_at_call 18; with_reducible refine HRM.out.mono ?_; rintro e w2 ⟨rfl, hw2⟩; obtain rfl := hw2.symm))
        go_wp2
        go_roundw
        case rel => exact ⟨k + 1, r, by omega, by go_num, rfl, HNT, by omega, by omega, HB.out.trans (ba.mono HB.out.size)⟩
        case measure => simp [intOf]; omega
      · have d0 : decide (0 ≤ t) = false := decide_eq_false h0
        go_wp2
        go_ret
        exact ⟨ret_int (by rw [ht.out, cmdsL_neg (by omega)]), HB.out⟩
    · have dk : decide ((k : Int) < (n : Int)) = false := decide_eq_false (by omega)
      obtain rfl : k = n := by omega
      go_wp2
      go_ret
      exact ⟨ret_int (by rw [ht.out, List.drop_eq_nil_of_le (by have := HN.out; omega)]; rfl), HB.out⟩
/-- How much room is left behind entries. -/
def ensL : Int → List En → Int
  | n, [] => n
  | n, x :: xs => if 0 ≤ n then ensL (cmdsL (roomL n [20]) x.cmds) xs else n
theorem ensL_neg {n : Int} (h : ¬ 0 ≤ n) (l : List En) : ensL n l = n := by
  cases l with
  | nil => rfl
  | cons x xs => unfold ensL; rw [if_neg h]
theorem cmdsL_le (n : Int) (l : List Cm) (h : -1 ≤ n) : -1 ≤ cmdsL n l ∧ cmdsL n l ≤ n := by
  induction l generalizing n with
  | nil => exact ⟨h, Int.le_refl _⟩
  | cons x xs ih =>
    unfold cmdsL
    split
    · have h1 := roomL_le n (cmZ x) (fun z hz => by unfold cmZ at hz; simp only [List.mem_cons, List.mem_nil_iff, or_false] at hz; rcases hz with rfl | rfl | rfl | rfl | rfl <;> omega) (by omega)
      have h2 := ih (roomL n (cmZ x)) h1.1
      omega
    · exact ⟨h, Int.le_refl _⟩
/-- Few, and short. -/
def lightE (few : Nat) (l : List En) : Bool := decide (l.length ≤ few) && decide (0 ≤ ensL 20000 (l.take few))
def En.good (w : World) (x : En) : Prop := Rd w x.A (flatCm x.cmds) ∧ x.cmds.length = x.n ∧ x.n ≤ maxLen ∧ ∀ y ∈ x.cmds, y.path.size ≤ maxLen ∧ y.key.size ≤ maxLen ∧ y.val.size ≤ maxLen ∧ y.old.size ≤ maxLen
set_option maxRecDepth 100000 in
set_option maxHeartbeats 4000000 in
theorem lightE_any (few : Nat) (A : Option Addr) (n c : Nat) (l : List En) (w : World) (hr : Rd w A (flatEn l)) (hn : l.length = n) (hm : n ≤ maxLen) (hf : few ≤ 1000) (hG : ∀ x ∈ l, x.good w) :
    Calls Tryz.prog 4 #[.int .i64 few, .slice A n c] w fun e w' => e = .returned (.bool (lightE few l)) ∧ Below w.heap.size w w' := by
  have HR := Lib.hid hr
  have HN := Lib.hid hn
  have HG := Lib.hid hG
  have HTL : Hid ((l.take few).length = min n few) := by unfold Hid; rw [List.length_take, hn, Nat.min_comm]
  have hnn : (n : Int) ≤ 9223372036854775807 := by unfold maxLen at hm; omega
  have hfi : (few : Int) ≤ 1000 := by omega
  clear hr hn hG
  go_enter Tryz.func4, Tryz.ntmps4
  go_wp2
  go_loopw [5, 6] (fun u5 u6 wr => ∃ (k : Nat) (t : Int), k ≤ n ∧ k ≤ few ∧ u6 = .int .i64 k ∧ u5 = .int .i64 t ∧ Hid (ensL 20000 (l.take few) = ensL t ((l.take few).drop k)) ∧ -1 ≤ t ∧ t ≤ 20000 ∧ Hid (Below w.heap.size w wr)) (fun _ u6 _ => n - (intOf u6).toNat)
  case atStart =>
    exact ⟨0, 20000, by omega, by omega, rfl, rfl, rfl, by omega, by omega, Below.refl _ _⟩
  case round =>
    obtain ⟨k, t, hk, hkf, rfl, rfl, ht, ht0, ht1, HB⟩ := hrel
    by_cases hlt : k < n
    · have hki : (k : Int) < (n : Int) := by omega
      have dk : decide ((k : Int) < (n : Int)) = true := decide_eq_true hki
      by_cases hlf : k < few
      · have dl : decide ((k : Int) < (few : Int)) = true := decide_eq_true (by omega)
        by_cases h0 : 0 ≤ t
        · have d0 : decide (0 ≤ t) = true := decide_eq_true h0
          obtain ⟨b1, o1, x, rfl, hbl, hx, c0, c1, c2, c3, c4⟩ := (HR.out.below HB.out).en (k := k) (by have := HN.out; omega)
          obtain ⟨g1, g2, g3, g4⟩ := HG.out x (List.mem_of_getElem? hx)
          have HW := Lib.hid (drop_at (l.take few) k x (by rw [List.getElem?_take, if_pos hlf]; exact hx))
          have RN : Rd ((wr.alloc (.cells #[.int .i64 20] 3)).drew) (some ⟨wr.heap.size, 0, none⟩) ([(20 : Int)].map (Value.int .i64)) := Rd.new wr #[.int .i64 20] 3
          have hle := roomL_le t [20] (fun z hz => by rw [List.mem_singleton.1 hz]; omega) (by omega)
          have HRM := Lib.hid (room_any t (some ⟨wr.heap.size, 0, none⟩) 1 1 [20] _ RN rfl (by omega) (by omega) (fun z hz => by rw [List.mem_singleton.1 hz]; omega))
          obtain ⟨r, hr9⟩ : ∃ r, r = roomL t [20] := ⟨_, rfl⟩
          rw [← hr9] at HRM hle
          have hle3 := cmdsL_le r x.cmds hle.1
          obtain ⟨r3, hr3⟩ : ∃ r3, r3 = cmdsL r x.cmds := ⟨_, rfl⟩
          rw [← hr3] at hle3
          have HNT : Hid (ensL 20000 (l.take few) = ensL r3 ((l.take few).drop (k + 1))) := by
            unfold Hid
            rw [ht.out, HW.out]
            conv => lhs; unfold ensL
            rw [if_pos h0, hr3, hr9]
          have ba : Below wr.heap.size wr (wr.alloc (.cells #[.int .i64 20] 3)).drew := ((Below.refl _ _).alloc (Nat.le_refl _) _).drew
          have BB := HB.out.trans (ba.mono HB.out.size)
          have hcm := cmds_any r x.A x.n x.c x.cmds _ (g1.below BB) g2 g3 hle.1 (by omega) g4
          rw [← hr3] at hcm
          have HC2 := Lib.hid hcm
          have SA : (wr.alloc (.cells #[.int .i64 20] 3)).drew.cell? ⟨b1, o1 + k * 5 + 4, none⟩ = some (.slice x.A x.n x.c) := (ba.cell (p := ⟨b1, _, none⟩) hbl).trans c4
          clear hx c0 c1 c2 c3 RN g1 g2 g3 g4 hr9 hr3 hcm
          go_upto_region 5 with fail
          go_region_held3 (fun W => W.cell? ⟨b1, o1 + k * 5 + 4, none⟩ = some (.slice x.A x.n x.c)) (first | exact c4 | exact SA | with_reducible assumption)
            (first
              | (go_at_call 18; with_reducible refine HRM.out.mono ?_; rintro e w2 ⟨rfl, hw2⟩; obtain rfl := hw2.symm)
              | (go_at_call 17; with_reducible refine HC2.out.mono ?_; rintro e w3 ⟨rfl, b3⟩
                 have HB3 := Lib.hid (BB.trans (b3.mono BB.size))
                 have S3 := (b3.cell (p := ⟨b1, o1 + k * 5 + 4, none⟩) (by have := ba.size; show b1 < _; omega)).trans SA))
          go_wp2
          go_roundw
          case rel => exact ⟨k + 1, r3, by omega, by omega, by go_num, rfl, HNT, by omega, by omega, HB3.out⟩
          case measure => simp [intOf]; omega
        · have d0 : decide (0 ≤ t) = false := decide_eq_false h0
          have HF : Hid (lightE few l = false) := by
            unfold Hid lightE
            rw [ht.out, ensL_neg h0, d0, Bool.and_false]
          go_wp2
          all_goals go_ret
          all_goals exact ⟨ret_bool HF.out.symm, HB.out⟩
      · have dl : decide ((k : Int) < (few : Int)) = false := decide_eq_false (by omega)
        have hd : decide ((n : Int) ≤ (few : Int)) = false := decide_eq_false (by omega)
        have HF : Hid (lightE few l = false) := by
          unfold Hid lightE
          rw [HN.out, decide_eq_false (by omega), Bool.false_and]
        go_wp2
        go_ret
        exact ⟨ret_bool HF.out.symm, HB.out⟩
    · have dk : decide ((k : Int) < (n : Int)) = false := decide_eq_false (by omega)
      obtain rfl : k = n := by omega
      have hd : decide ((k : Int) ≤ (few : Int)) = true := decide_eq_true (by omega)
      have HF : Hid (lightE few l = decide (0 ≤ t)) := by
        unfold Hid lightE
        rw [HN.out, decide_eq_true hkf, ht.out, List.drop_eq_nil_of_le (by have := HTL.out; omega), Bool.true_and]
        rfl
      go_wp2
      go_ret
      exact ⟨ret_bool HF.out.symm, HB.out⟩
end Go.Proofs.YtgigkekajdgngaaGreat
