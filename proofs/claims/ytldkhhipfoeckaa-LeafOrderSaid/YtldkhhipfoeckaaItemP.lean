/-
  Plain facts about items: what may be, what is laid, what is read, where a key stands. No program in them.
-/
import Derived.Test.YtldkhhipfoeckaaRecP
import Derived.Test.YtldkhhipfoeckaaPackAny
namespace Go.Proofs.Ytldkhhipfoeckaa
open Go Go.RowKit

structure Im where
  key : ByteArray
  val : ByteArray
  kind : Int
instance : Inhabited Im := ⟨⟨⟨#[]⟩, ⟨#[]⟩, 0⟩⟩
/-- An item's cells. -/
def Im.cells (k : Im) : List Value := [.string k.key, .string k.val, .int .i64 k.kind]
def flatI (ks : List Im) : List Value := ks.flatMap Im.cells
theorem flatI_len (ks : List Im) : (flatI ks).length = ks.length * 3 := flat_len Im.cells (fun _ => rfl) ks
theorem flatI_at (ks : List Im) (k : Nat) (x : Im) (h : ks[k]? = some x) (j : Nat) (v : Value) (hv : x.cells[j]? = some v) : (flatI ks)[k * 3 + j]? = some v := flat_at Im.cells (fun _ => rfl) ks k x h j v hv
theorem Rd.item {w : World} {A : Option Addr} {ks : List Im} (h : Rd w A (flatI ks)) {k : Nat} (hk : k < ks.length) : ∃ b o x, A = some ⟨b, o, none⟩ ∧ b < w.heap.size ∧ ks[k]? = some x ∧ w.cell? ⟨b, o + k * 3, none⟩ = some (.string x.key) ∧ w.cell? ⟨b, o + k * 3 + 1, none⟩ = some (.string x.val) ∧ w.cell? ⟨b, o + k * 3 + 2, none⟩ = some (.int .i64 x.kind) := by
  obtain ⟨x, hx⟩ : ∃ x, ks[k]? = some x := ⟨ks[k]'hk, List.getElem?_eq_getElem _⟩
  obtain ⟨b, o, e, hb, hc⟩ := h.flat (by rw [flatI_len]; omega)
  refine ⟨b, o, x, e, hb, hx, ?_, ?_, ?_⟩
  · have := hc _ _ (flatI_at ks k x hx 0 _ rfl); simpa using this
  · have := hc _ _ (flatI_at ks k x hx 1 _ rfl); rwa [← Nat.add_assoc] at this
  · have := hc _ _ (flatI_at ks k x hx 2 _ rfl); rwa [← Nat.add_assoc] at this
/-- May an item be? -/
def okI (k : Im) : Bool := decide (1 ≤ k.key.size) && decide (k.key.size ≤ 32) && decide (0 ≤ k.kind) && decide (k.kind ≤ 2) && decide (k.val.size ≤ 96)
/-- Do keys rise, and is each child one that may be? -/
structure RightI (ks : List Im) : Prop where
  ok : ∀ (i : Nat) x, ks[i]? = some x → okI x = true
  up : ∀ (i : Nat) x y, ks[i]? = some x → ks[i + 1]? = some y → ltB x.key y.key = true
theorem RightI.lt {ks : List Im} (h : RightI ks) {i j : Nat} {x y : Im} (hx : ks[i]? = some x) (hy : ks[j]? = some y) (hij : i < j) : ltB x.key y.key = true := by
  induction j generalizing y with
  | zero => omega
  | succ j ih =>
    have hj : j < ks.length := by have := (List.getElem?_eq_some_iff.1 hy).1; omega
    have e : ks[j]? = some ks[j] := List.getElem?_eq_getElem hj
    have h1 := h.up j _ y e hy
    by_cases hij2 : i < j
    · exact ltB_trans (ih e hij2) h1
    · obtain rfl : i = j := by omega
      rw [hx] at e; injection e with e; rw [e]; exact h1
/-- The bytes of children's keys, and four for each. -/
def sumI (ks : List Im) : Nat := (ks.map fun k => 5 + k.key.size + k.val.size).sum
theorem sumI_take (ks : List Im) (k : Nat) (x : Im) (h : ks[k]? = some x) : sumI (ks.take (k + 1)) = sumI (ks.take k) + (5 + x.key.size + x.val.size) := by
  unfold sumI; rw [List.take_add_one, h]; simp
theorem sumI_le (ks : List Im) (k : Nat) : sumI (ks.take k) ≤ sumI ks := by
  conv => rhs; rw [← List.take_append_drop k ks]
  unfold sumI; rw [List.map_append, List.sum_append]; omega
theorem sumI_len (ks : List Im) : ks.length * 5 ≤ sumI ks := by
  induction ks with
  | nil => simp [sumI]
  | cons x ks ih => simp only [sumI, List.map_cons, List.sum_cons, List.length_cons] at *; omega
/-- A child's bytes; children's; all that is laid. -/
def itemB (k : Im) : List UInt8 := lowB k.kind.toNat 1 ++ (lowB k.key.size 2 ++ (bts k.key ++ (lowB k.val.size 2 ++ bts k.val)))
def itemsB (ks : List Im) : List UInt8 := ks.flatMap itemB
def layL9 (ks : List Im) : List UInt8 := lowB ks.length 1 ++ itemsB ks
theorem itemB_len (k : Im) : (itemB k).length = 5 + k.key.size + k.val.size := by
  unfold itemB; rw [List.length_append, List.length_append, List.length_append, List.length_append, lowB_len, lowB_len, lowB_len, bts_len, bts_len]; omega
theorem itemsB_len (ks : List Im) : (itemsB ks).length = sumI ks := by
  induction ks with
  | nil => rfl
  | cons x ks ih => 
    have e : itemsB (x :: ks) = itemB x ++ itemsB ks := List.flatMap_cons
    rw [e, List.length_append, ih, itemB_len]; simp [sumI]
theorem itemsB_take (ks : List Im) (k : Nat) (x : Im) (h : ks[k]? = some x) : itemsB (ks.take (k + 1)) = itemsB (ks.take k) ++ itemB x := by
  unfold itemsB; rw [List.take_add_one, h]; simp
theorem layL9_len (ks : List Im) : (layL9 ks).length = 1 + sumI ks := by unfold layL9; rw [List.length_append, lowB_len, itemsB_len]
theorem putSmall_ok (n : Nat) (v : Int) (l : List UInt8) (h0 : 0 ≤ v) (h1 : v < (256 : Int) ^ n) : putSmall n v (l, 0) = (l ++ lowB v.toNat n, 0) := by
  unfold putSmall
  rw [if_pos rfl, if_neg (by omega)]
theorem putText_ok (t l : List UInt8) (h : t.length ≤ 65535) : putText t (l, 0) = (l ++ lowB t.length 2 ++ t, 0) := by
  unfold putText
  rw [if_pos rfl, if_neg (by omega)]
open Classical in
/-- What Lay gives. -/
noncomputable def layS (ks : List Im) : ByteArray × Int :=
  if ¬ RightI ks then (⟨#[]⟩, 1) else if 232 < 1 + sumI ks ∨ 255 < ks.length then (⟨#[]⟩, 2) else (bs (layL9 ks), 0)
theorem layS_arg {ks : List Im} (h : ¬ RightI ks) : layS ks = (⟨#[]⟩, 1) := if_pos h
theorem layS_long {ks : List Im} (h : RightI ks) (h2 : 232 < 1 + sumI ks ∨ 255 < ks.length) : layS ks = (⟨#[]⟩, 2) := (if_neg (fun x => x h)).trans (if_pos h2)
theorem layS_ok {ks : List Im} (h : RightI ks) (h2 : ¬ (232 < 1 + sumI ks ∨ 255 < ks.length)) : layS ks = (bs (layL9 ks), 0) := (if_neg (fun x => x h)).trans (if_neg h2)
/-- What is read, child by child. -/
def getI (s : PS) : Im × PS := (⟨bs (getText (getNum 1 s).2).1, bs (getText (getText (getNum 1 s).2).2).1, (getNum 1 s).1⟩, (getText (getText (getNum 1 s).2).2).2)
def getIs (s : PS) : Nat → List Im × PS
  | 0 => ([], s)
  | n + 1 => ((getIs s n).1 ++ [(getI (getIs s n).2).1], (getI (getIs s n).2).2)
theorem getIs_len (s : PS) (n : Nat) : (getIs s n).1.length = n := by
  induction n with
  | zero => rfl
  | succ n ih => show ((getIs s n).1 ++ [_]).length = _; rw [List.length_append, ih]; rfl
theorem getRaw_le (n : Int) (s : PS) : (getRaw n s).2.1.length ≤ s.1.length := by
  unfold getRaw
  split
  · split
    · simp
    · split
      · simp
      · simp
  · simp
theorem getNum_le (n : Nat) (s : PS) : (getNum n s).2.1.length ≤ s.1.length := getRaw_le n s
theorem getText_le (s : PS) : (getText s).2.1.length ≤ s.1.length := by
  unfold getText
  have h1 := getNum_le 2 s
  generalize getNum 2 s = r at h1 ⊢
  obtain ⟨n, r⟩ := r
  exact Nat.le_trans (getRaw_le n r) h1
theorem getIs_le (s : PS) (n : Nat) : (getIs s n).2.1.length ≤ s.1.length := by
  induction n with
  | zero => exact Nat.le_refl _
  | succ n ih => exact Nat.le_trans (getText_le _) (Nat.le_trans (getText_le _) (Nat.le_trans (getNum_le 1 _) ih))
/-- The children that bytes tell, and the error behind them. -/
def itemsOf (b : ByteArray) : List Im := (getIs (getNum 1 (bts b, 0)).2 (getNum 1 (bts b, 0)).1.toNat).1
def itemsE (b : ByteArray) : Int := (endG (getIs (getNum 1 (bts b, 0)).2 (getNum 1 (bts b, 0)).1.toNat).2).2
open Classical in
/-- What Read gives. -/
noncomputable def readS (b : ByteArray) : List Im × Int :=
  if itemsE b ≠ 0 then ([], itemsE b) else if layS (itemsOf b) = (b, 0) then (itemsOf b, 0) else ([], 6)
theorem ltB_asymm {a b : ByteArray} (h : ltB a b = true) : ltB b a = false := by
  cases k : ltB b a
  · rfl
  · have := ltB_trans h k; rw [ltB_irrefl] at this; cases this
/-- r items' keys are below the key, the others are not. -/
structure FindI (ks : List Im) (key : ByteArray) (r : Nat) : Prop where
  le : r ≤ ks.length
  lo : ∀ (t : Nat) y, t < r → ks[t]? = some y → ltB y.key key = true
  hi : ∀ (t : Nat) y, r ≤ t → ks[t]? = some y → ltB y.key key = false
/-- Does the key stand there? -/
def hasI (ks : List Im) (key : ByteArray) (r : Nat) : Bool := match ks[r]? with
  | some x => x.key.toList == key.toList
  | none => false
theorem hasI_at {ks : List Im} {key : ByteArray} {i : Nat} {x : Im} (h : ks[i]? = some x) : hasI ks key i = (x.key.toList == key.toList) := by unfold hasI; rw [h]
theorem hasI_no {ks : List Im} {key : ByteArray} {i : Nat} (h : ks.length ≤ i) : hasI ks key i = false := by unfold hasI; rw [List.getElem?_eq_none h]
end Go.Proofs.Ytldkhhipfoeckaa
