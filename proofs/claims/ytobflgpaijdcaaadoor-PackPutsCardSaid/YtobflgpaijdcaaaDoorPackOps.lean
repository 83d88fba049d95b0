/-
  The acts of the pack laws in memory, and whether they are light. Condition: as many acts as memory holds.
-/
import Derived.Test.YtobflgpaijdcaaaDoorPackRef
namespace Go.Proofs.YtobflgpaijdcaaaDoor
open Go Go.RowKit
attribute [local go_sem] cell_set_if

/-- An act. -/
structure OpV where
  kind : Int
  num : Int
  txt : ByteArray
instance : Inhabited OpV := ⟨⟨0, 0, ⟨#[]⟩⟩⟩
def OpV.cells (o : OpV) : List Value := [.int .i64 o.kind, .int .i64 o.num, .string o.txt]
def flatO (os : List OpV) : List Value := os.flatMap OpV.cells
theorem flatO_at (os : List OpV) (k : Nat) (o : OpV) (h : os[k]? = some o) (j : Nat) (v : Value) (hv : o.cells[j]? = some v) : (flatO os)[k * 3 + j]? = some v := by
  induction os generalizing k with
  | nil => simp at h
  | cons d os ih =>
    have hd : flatO (d :: os) = d.cells ++ flatO os := rfl
    rw [hd]
    cases k with
    | zero =>
      simp at h; subst h
      have hj : j < d.cells.length := (List.getElem?_eq_some_iff.1 hv).1
      rw [Nat.zero_mul, Nat.zero_add, List.getElem?_append_left hj]; exact hv
    | succ k =>
      simp at h
      have hl : d.cells.length = 3 := rfl
      rw [List.getElem?_append_right (by omega), hl, show (k + 1) * 3 + j - 3 = k * 3 + j by omega]
      exact ih k h
theorem flatO_len (os : List OpV) : (flatO os).length = os.length * 3 := by
  induction os with
  | nil => rfl
  | cons e es ih => simp [flatO, OpV.cells] at ih ⊢; omega
/-- How long the texts of acts are together. -/
def sumO (os : List OpV) : Nat := (os.map fun o => o.txt.size).sum
theorem sumO_take (os : List OpV) (k : Nat) (o : OpV) (h : os[k]? = some o) : sumO (os.take (k + 1)) = sumO (os.take k) + o.txt.size := by
  unfold sumO; rw [List.take_add_one, h]; simp
theorem sumO_app (a b : List OpV) : sumO (a ++ b) = sumO a + sumO b := by simp [sumO]
theorem sumO_mono (os : List OpV) (k : Nat) : sumO (os.take k) ≤ sumO os := by
  have h := sumO_app (os.take k) (os.drop k)
  rw [List.take_append_drop] at h
  omega

/-- Are acts few and short enough? -/
def lightO (os : List OpV) : Bool := decide (os.length ≤ 60) && decide (sumO (os.take 100) ≤ 20000)
set_option maxRecDepth 100000 in
set_option maxHeartbeats 1000000 in
theorem light_any (A : Option Addr) (n c : Nat) (os : List OpV) (w : World) (hr : Rd w A (flatO os)) (hn : os.length = n) (hm : n ≤ maxLen) (hs : ∀ o ∈ os, o.txt.size ≤ maxLen) :
    Calls Tryd.prog 12 #[.slice A n c] w fun e w' => e = .returned (.bool (lightO os)) ∧ w' = w := by
  unfold maxLen at hm
  have hmm : (n : Int) ≤ 9223372036854775807 := by omega
  obtain ⟨b, hb⟩ : ∃ b, b = lightO os := ⟨_, rfl⟩
  rw [← hb]
  have HB := Lib.hid hb
  have HR := Lib.hid hr
  have HN := Lib.hid hn
  have HS := Lib.hid hs
  clear hb hr hn hs
  go_enter Tryd.func12, Tryd.ntmps12
  go_wp2
  go_loop [3, 4] (fun u3 u4 => ∃ k : Nat, k ≤ n ∧ k ≤ 100 ∧ u4 = .int .i64 k ∧ sumO (os.take k) ≤ 20000 ∧ u3 = .int .i64 (20000 - (sumO (os.take k) : Int))) (fun _ u4 => n - (intOf u4).toNat)
  case atStart => exact ⟨0, by omega, by omega, rfl, by simp [sumO], by simp [sumO]⟩
  case round =>
    obtain ⟨k, hk, hk1, rfl, hsum, rfl⟩ := hrel
    by_cases hlt : k < n ∧ k < 100
    · obtain ⟨hlt, hlt1⟩ := hlt
      obtain ⟨o, ho⟩ : ∃ o, os[k]? = some o := ⟨os[k]'(by have := HN.out; omega), List.getElem?_eq_getElem _⟩
      obtain ⟨bb, off, rfl, hbl, hcs⟩ := HR.out.flat (by rw [flatO_len]; have := HN.out; omega)
      have d2 : w.cell? ⟨bb, off + k * 3 + 2, none⟩ = some (.string o.txt) := by rw [Nat.add_assoc]; exact hcs _ _ (flatO_at os k o ho 2 _ rfl)
      have hT := sumO_take os k o ho
      have HT := Lib.hid hT
      have HO := Lib.hid ho
      clear hcs hT ho
      generalize hq : sumO (os.take k) = q at *
      by_cases hov : q + o.txt.size ≤ 20000
      · have h1 : (o.txt.size : Int) ≤ 20000 - q := by omega
        have h2 : (0 : Int) ≤ 20000 - (q : Int) := by omega
        have HQ := Lib.hid hq
        clear hq
        go_wp2
        go_round
        case rel => exact ⟨k + 1, by omega, by omega, by go_num, by rw [HT.out]; exact hov, by rw [HT.out]; exact int_eq (by omega)⟩
        case measure => simp [intOf]; omega
      · have h1 : 20000 - (q : Int) < (o.txt.size : Int) := by omega
        have h2 : (0 : Int) ≤ 20000 - (q : Int) := by omega
        have HF : Hid (b = false) := by
          unfold Hid
          rw [HB.out]; unfold lightO
          have h3 : sumO ((os.take 100).take (k + 1)) ≤ sumO (os.take 100) := sumO_mono _ _
          rw [List.take_take, Nat.min_eq_left (by omega), HT.out] at h3
          have h4 : ¬ sumO (os.take 100) ≤ 20000 := by omega
          simp [h4]
        clear hq
        go_wp2
        go_ret
        exact ⟨ret_bool HF.out.symm, rfl⟩
    · have HQ : Hid (b = decide ((n : Int) ≤ 60)) := by
        unfold Hid
        rw [HB.out]; unfold lightO
        rw [HN.out]
        by_cases h60 : n ≤ 60
        · have e : os.take 100 = os.take k := by
            rw [List.take_of_length_le (by have := HN.out; omega), List.take_of_length_le (by have := HN.out; omega)]
          rw [e]
          have : (n : Int) ≤ 60 := by omega
          simp [h60, hsum, this]
        · have : ¬ (n : Int) ≤ 60 := by omega
          simp [h60, this]
      have h2 : (0 : Int) ≤ 20000 - (sumO (os.take k) : Int) := by omega
      by_cases hkn : k < n
      · have h3 : ¬ k < 100 := by omega
        clear hlt
        go_wp2
        go_ret
        exact ⟨ret_bool HQ.out.symm, rfl⟩
      · clear hlt
        go_wp2
        go_ret
        exact ⟨ret_bool HQ.out.symm, rfl⟩
end Go.Proofs.YtobflgpaijdcaaaDoor
