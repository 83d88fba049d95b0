/-
  Plain facts about children: what may be, what is laid, what is read. No program in them.
-/
import Derived.Test.YtldkhhipfoeckaaGreatRecP
import Derived.Test.YtldkhhipfoeckaaGreatPackAny
namespace Go.Proofs.YtldkhhipfoeckaaGreat
open Go Go.RowKit

structure Kd where
  key : ByteArray
  page : Int
instance : Inhabited Kd := ⟨⟨⟨#[]⟩, 0⟩⟩
/-- A child's cells. -/
def Kd.cells (k : Kd) : List Value := [.string k.key, .int .i64 k.page]
def flatK (ks : List Kd) : List Value := ks.flatMap Kd.cells
theorem flatK_len (ks : List Kd) : (flatK ks).length = ks.length * 2 := flat_len Kd.cells (fun _ => rfl) ks
theorem flatK_at (ks : List Kd) (k : Nat) (x : Kd) (h : ks[k]? = some x) (j : Nat) (v : Value) (hv : x.cells[j]? = some v) : (flatK ks)[k * 2 + j]? = some v := flat_at Kd.cells (fun _ => rfl) ks k x h j v hv
theorem Rd.kid {w : World} {A : Option Addr} {ks : List Kd} (h : Rd w A (flatK ks)) {k : Nat} (hk : k < ks.length) : ∃ b o x, A = some ⟨b, o, none⟩ ∧ b < w.heap.size ∧ ks[k]? = some x ∧ w.cell? ⟨b, o + k * 2, none⟩ = some (.string x.key) ∧ w.cell? ⟨b, o + k * 2 + 1, none⟩ = some (.int .i64 x.page) := by
  obtain ⟨x, hx⟩ : ∃ x, ks[k]? = some x := ⟨ks[k]'hk, List.getElem?_eq_getElem _⟩
  obtain ⟨b, o, e, hb, hc⟩ := h.flat (by rw [flatK_len]; omega)
  refine ⟨b, o, x, e, hb, hx, ?_, ?_⟩
  · have := hc _ _ (flatK_at ks k x hx 0 _ rfl); simpa using this
  · have := hc _ _ (flatK_at ks k x hx 1 _ rfl); rwa [← Nat.add_assoc] at this
/-- May a child be? -/
def okK (k : Kd) : Bool := decide (k.key.size ≤ 32) && decide (2 ≤ k.page) && decide (k.page < 4000)
/-- Do keys rise, and is each child one that may be? -/
structure RightK (ks : List Kd) : Prop where
  ok : ∀ (i : Nat) x, ks[i]? = some x → okK x = true
  up : ∀ (i : Nat) x y, ks[i]? = some x → ks[i + 1]? = some y → ltB x.key y.key = true
theorem RightK.lt {ks : List Kd} (h : RightK ks) {i j : Nat} {x y : Kd} (hx : ks[i]? = some x) (hy : ks[j]? = some y) (hij : i < j) : ltB x.key y.key = true := by
  induction j generalizing y with
  | zero => omega
  | succ j ih =>
    have hj : j < ks.length := by have := (List.getElem?_eq_some_iff.1 hy).1; omega
    have e : ks[j]? = some ks[j] := List.getElem?_eq_getElem hj
    have h1 := h.up j _ y e hy
    by_cases hij2 : i < j
    · exact ltB_trans (ih e hij2) h1
    · obtain rfl : i = j := by omega
      rw [hx] at e; injection e with e; rw [e]; exact h1
/-- The bytes of children's keys, and four for each. -/
def sumK (ks : List Kd) : Nat := (ks.map fun k => 4 + k.key.size).sum
theorem sumK_take (ks : List Kd) (k : Nat) (x : Kd) (h : ks[k]? = some x) : sumK (ks.take (k + 1)) = sumK (ks.take k) + (4 + x.key.size) := by
  unfold sumK; rw [List.take_add_one, h]; simp
theorem sumK_le (ks : List Kd) (k : Nat) : sumK (ks.take k) ≤ sumK ks := by
  conv => rhs; rw [← List.take_append_drop k ks]
  unfold sumK; rw [List.map_append, List.sum_append]; omega
theorem sumK_len (ks : List Kd) : ks.length * 4 ≤ sumK ks := by
  induction ks with
  | nil => simp [sumK]
  | cons x ks ih => simp only [sumK, List.map_cons, List.sum_cons, List.length_cons] at *; omega
/-- A child's bytes; children's; all that is laid. -/
def kidB (k : Kd) : List UInt8 := lowB k.page.toNat 2 ++ (lowB k.key.size 2 ++ bts k.key)
def kidsB (ks : List Kd) : List UInt8 := ks.flatMap kidB
def layL10 (ks : List Kd) : List UInt8 := lowB ks.length 1 ++ kidsB ks
theorem kidB_len (k : Kd) : (kidB k).length = 4 + k.key.size := by
  unfold kidB; rw [List.length_append, List.length_append, lowB_len, lowB_len, bts_len]; omega
theorem kidsB_len (ks : List Kd) : (kidsB ks).length = sumK ks := by
  induction ks with
  | nil => rfl
  | cons x ks ih => 
    have e : kidsB (x :: ks) = kidB x ++ kidsB ks := List.flatMap_cons
    rw [e, List.length_append, ih, kidB_len]; simp [sumK]
theorem kidsB_take (ks : List Kd) (k : Nat) (x : Kd) (h : ks[k]? = some x) : kidsB (ks.take (k + 1)) = kidsB (ks.take k) ++ kidB x := by
  unfold kidsB; rw [List.take_add_one, h]; simp
theorem layL10_len (ks : List Kd) : (layL10 ks).length = 1 + sumK ks := by unfold layL10; rw [List.length_append, lowB_len, kidsB_len]
theorem putSmall_ok (n : Nat) (v : Int) (l : List UInt8) (h0 : 0 ≤ v) (h1 : v < (256 : Int) ^ n) : putSmall n v (l, 0) = (l ++ lowB v.toNat n, 0) := by
  unfold putSmall
  rw [if_pos rfl, if_neg (by omega)]
theorem putText_ok (t l : List UInt8) (h : t.length ≤ 65535) : putText t (l, 0) = (l ++ lowB t.length 2 ++ t, 0) := by
  unfold putText
  rw [if_pos rfl, if_neg (by omega)]
open Classical in
/-- What Lay gives. -/
noncomputable def layR (ks : List Kd) : ByteArray × Int :=
  if ks = [] ∨ ¬ RightK ks then (⟨#[]⟩, 1) else if 232 < 1 + sumK ks ∨ 255 < ks.length then (⟨#[]⟩, 2) else (bs (layL10 ks), 0)
theorem layR_arg {ks : List Kd} (h : ks = [] ∨ ¬ RightK ks) : layR ks = (⟨#[]⟩, 1) := if_pos h
theorem layR_long {ks : List Kd} (h : ¬ (ks = [] ∨ ¬ RightK ks)) (h2 : 232 < 1 + sumK ks ∨ 255 < ks.length) : layR ks = (⟨#[]⟩, 2) := (if_neg h).trans (if_pos h2)
theorem layR_ok {ks : List Kd} (h : ¬ (ks = [] ∨ ¬ RightK ks)) (h2 : ¬ (232 < 1 + sumK ks ∨ 255 < ks.length)) : layR ks = (bs (layL10 ks), 0) := (if_neg h).trans (if_neg h2)
/-- What is read, child by child. -/
def getK (s : PS) : Kd × PS := (⟨bs (getText (getNum 2 s).2).1, (getNum 2 s).1⟩, (getText (getNum 2 s).2).2)
def getKs (s : PS) : Nat → List Kd × PS
  | 0 => ([], s)
  | n + 1 => ((getKs s n).1 ++ [(getK (getKs s n).2).1], (getK (getKs s n).2).2)
theorem getKs_len (s : PS) (n : Nat) : (getKs s n).1.length = n := by
  induction n with
  | zero => rfl
  | succ n ih => show ((getKs s n).1 ++ [_]).length = _; rw [List.length_append, ih]; rfl
theorem getRaw_le (n : Int) (s : PS) : (getRaw n s).2.1.length ≤ s.1.length := by
  unfold getRaw
  split
  · split
    · simp
    · split
      · simp
      · simp
  · simp
theorem getNum_le (n : Nat) (s : PS) : (getNum n s).2.1.length ≤ s.1.length := getRaw_le n s
theorem getText_le (s : PS) : (getText s).2.1.length ≤ s.1.length := by
  unfold getText
  have h1 := getNum_le 2 s
  generalize getNum 2 s = r at h1 ⊢
  obtain ⟨n, r⟩ := r
  exact Nat.le_trans (getRaw_le n r) h1
theorem getKs_le (s : PS) (n : Nat) : (getKs s n).2.1.length ≤ s.1.length := by
  induction n with
  | zero => exact Nat.le_refl _
  | succ n ih => exact Nat.le_trans (getText_le _) (Nat.le_trans (getNum_le 2 _) ih)
/-- The children that bytes tell, and the error behind them. -/
def kidsOf (b : ByteArray) : List Kd := (getKs (getNum 1 (bts b, 0)).2 (getNum 1 (bts b, 0)).1.toNat).1
def kidsE (b : ByteArray) : Int := (endG (getKs (getNum 1 (bts b, 0)).2 (getNum 1 (bts b, 0)).1.toNat).2).2
open Classical in
/-- What Read gives. -/
noncomputable def readR (b : ByteArray) : List Kd × Int :=
  if kidsE b ≠ 0 then ([], kidsE b) else if layR (kidsOf b) = (b, 0) then (kidsOf b, 0) else ([], 6)
end Go.Proofs.YtldkhhipfoeckaaGreat
