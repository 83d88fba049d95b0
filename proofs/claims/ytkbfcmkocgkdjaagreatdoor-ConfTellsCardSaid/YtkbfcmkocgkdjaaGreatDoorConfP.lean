/-
  Members in plain words: their text, cut at its commas, and read. No program in them.
-/
import Derived.Test.YtkbfcmkocgkdjaaGreatDoorQuorC
import Derived.Test.YtkbfcmkocgkdjaaGreatDoorPackNumP
import Derived.Lib.Join
import Derived.Lib.SplitLaws
import Derived.Lib.IndexBytes
import Derived.Lib.IndexLaws
namespace Go.Proofs.YtkbfcmkocgkdjaaGreatDoor
open Go Go.RowKit

/-- A member's digit. -/
def dgt (x : Int) : UInt8 := UInt8.ofNat (48 + x.toNat)
/-- The text of members. -/
def textL : List Int → List UInt8
  | [] => []
  | [x] => [dgt x]
  | x :: y :: l => dgt x :: 44 :: textL (y :: l)
/-- A text cut at its commas. -/
def cutC : List UInt8 → List (List UInt8)
  | [] => [[]]
  | b :: l => if b = 44 then [] :: cutC l else match cutC l with
    | [] => [[b]]
    | p :: ps => (b :: p) :: ps
theorem cutC_ne (l : List UInt8) : cutC l ≠ [] := by
  cases l with
  | nil => simp [cutC]
  | cons b l =>
    unfold cutC
    split
    · simp
    · split <;> simp
theorem cutC_join (l : List UInt8) : Lib.join (cutC l) [44] = l := by
  induction l with
  | nil => rfl
  | cons b l ih =>
    unfold cutC
    split
    · rename_i h
      subst h
      cases hc : cutC l with
      | nil => exact absurd hc (cutC_ne l)
      | cons p ps =>
        rw [hc] at ih
        rw [Lib.join_cons] at ih
        rw [Lib.join_cons, Lib.joinTail]
        simp only [List.map_cons, List.flatten_cons, List.nil_append]
        rw [← ih]
        simp [Lib.joinTail]
    · cases hc : cutC l with
      | nil => exact absurd hc (cutC_ne l)
      | cons p ps =>
        rw [hc] at ih
        rw [Lib.join_cons] at ih
        rw [Lib.join_cons, List.cons_append, ih]
theorem cutC_no {a : List UInt8} (h : 44 ∉ a) : cutC a = [a] := by
  induction a with
  | nil => rfl
  | cons b a ih =>
    simp at h
    unfold cutC
    rw [if_neg (fun e => h.1 e.symm), ih h.2]
theorem cutC_at {a t : List UInt8} (h : 44 ∉ a) : cutC (a ++ 44 :: t) = a :: cutC t := by
  induction a with
  | nil => simp [cutC]
  | cons b a ih =>
    simp at h
    rw [List.cons_append, show cutC (b :: (a ++ 44 :: t)) = if b = 44 then [] :: cutC (a ++ 44 :: t) else match cutC (a ++ 44 :: t) with
      | [] => [[b]]
      | p :: ps => (b :: p) :: ps from rfl, if_neg (fun e => h.1 e.symm), ih h.2]
/-- strings.Split at a comma is that cut. -/
theorem splitK_cut (s : List UInt8) : Lib.splitK [44] 0 (s.count 44) s = cutC s := by
  have key : ∀ (k : Nat) (s : List UInt8), s.count 44 = k → Lib.splitK [44] 0 k s = cutC s := by
    intro k
    induction k with
    | zero =>
      intro s hs
      rw [cutC_no (List.count_eq_zero.1 hs)]; rfl
    | succ k ih =>
      intro s hs
      have hi := Lib.index_one s 44
      cases hn : (Lib.indexByte s 44 : Int) with
      | negSucc m =>
        exfalso
        have h1 := Lib.index_ge s [44]
        rw [hi, hn] at h1
        have h2 : Lib.indexByte s 44 = -1 := by rw [hn]; omega
        have hmem : 44 ∈ s := List.count_pos_iff.1 (by omega)
        obtain ⟨j, hj⟩ := List.mem_iff_getElem?.1 hmem
        exact Lib.indexByte_none h2 j hj
      | ofNat o =>
        have h2 : Lib.indexByte s 44 = (o : Int) := hn
        obtain ⟨hat, hno⟩ := Lib.indexByte_some h2
        have hol := (List.getElem?_eq_some_iff.1 hat).1
        have hs2 : s = s.take o ++ 44 :: s.drop (o + 1) := by
          have h3 : s.drop o = 44 :: s.drop (o + 1) := by
            rw [List.drop_eq_getElem_cons hol]
            rw [List.getElem?_eq_getElem hol] at hat
            rw [Option.some.inj hat]
          rw [← h3, List.take_append_drop]
        have hnm : 44 ∉ s.take o := fun hm => by
          obtain ⟨j, hj⟩ := List.mem_iff_getElem?.1 hm
          have hjl := (List.getElem?_eq_some_iff.1 hj).1
          rw [List.length_take] at hjl
          rw [List.getElem?_take, if_pos (by omega)] at hj
          exact hno j (by omega) hj
        have hct : (s.drop (o + 1)).count 44 = k := by
          have h4 := congrArg (List.count 44) hs2
          rw [List.count_append, List.count_cons_self, List.count_eq_zero.2 hnm] at h4
          omega
        have hc2 : cutC s = s.take o :: cutC (s.drop (o + 1)) := by
          conv => lhs; rw [hs2]
          exact cutC_at hnm
        rw [hc2]
        unfold Lib.splitK
        have h5 : Lib.index s [44] = (o : Int) := by rw [hi]; exact h2
        rw [h5, if_neg (by simp)]
        simp only [Int.toNat_natCast, Nat.add_zero, List.length_singleton]
        rw [ih _ hct]
  exact key _ s rfl

theorem dgt_nat {x : Int} (h : 0 ≤ x ∧ x < 7) : (dgt x).toNat = 48 + x.toNat := by
  unfold dgt
  rw [UInt8.toNat_ofNat_of_lt' (by simp [UInt8.size]; omega)]
theorem dgt_ne {x : Int} (h : 0 ≤ x ∧ x < 7) : dgt x ≠ 44 := fun e => by
  have := dgt_nat h
  rw [e] at this
  simp at this
  omega
theorem dgt_itoa {x : Int} (h : 0 ≤ x ∧ x < 7) : Lib.itoa x = [dgt x] := by
  unfold Lib.itoa
  rw [if_neg (by omega), Lib.decDigits, dif_pos (by omega)]
  unfold dgt; rfl
theorem numV_dgt {x : Int} (h : 0 ≤ x ∧ x < 7) : numV [dgt x] = (x, 0) := by
  have hn := dgt_nat h
  have hd : isDig (dgt x) = true := by unfold isDig; simp; omega
  have h45 : ([dgt x] : List UInt8).head? ≠ some 45 := by
    intro e
    simp at e
    rw [e] at hn
    simp at hn
    omega
  unfold numV
  rw [if_neg h45]
  unfold numD
  rw [if_pos]
  · simp only [Bool.false_eq_true, if_false, digL, hn]
    congr 1
    omega
  · constructor
    · unfold fineD; simp
    · simp [hd]
theorem textL_join (l : List Int) : textL l = Lib.join (l.map fun x => [dgt x]) [44] := by
  induction l with
  | nil => rfl
  | cons x l ih =>
    cases l with
    | nil => rfl
    | cons y l =>
      rw [textL, ih, List.map_cons, List.map_cons, List.map_cons, Lib.join_cons, Lib.join_cons, Lib.joinTail]
      simp [Lib.joinTail]
theorem textL_itoa (l : List Int) (h : ∀ x ∈ l, 0 ≤ x ∧ x < 7) : Lib.join (l.map Lib.itoa) [44] = textL l := by
  rw [textL_join]
  congr 1
  exact List.map_congr_left fun x hx => dgt_itoa (h x hx)
theorem cutC_text (l : List Int) (h : ∀ x ∈ l, 0 ≤ x ∧ x < 7) (hl : l ≠ []) : cutC (textL l) = l.map fun x => [dgt x] := by
  induction l with
  | nil => exact absurd rfl hl
  | cons x l ih =>
    have hx := dgt_ne (h x (by simp))
    cases l with
    | nil => exact cutC_no (a := [dgt x]) (by simp; exact fun e => hx e.symm)
    | cons y l =>
      rw [textL, show dgt x :: 44 :: textL (y :: l) = [dgt x] ++ 44 :: textL (y :: l) from rfl, cutC_at (by simp; exact fun e => hx e.symm), ih (fun z hz => h z (by simp [hz])) (by simp)]
      rfl
theorem right_in {l : List Int} (h : rightV l = true) : ∀ x ∈ l, 0 ≤ x ∧ x < 7 := fun x hx => by
  obtain ⟨i, hi⟩ := List.mem_iff_getElem?.1 hx
  exact rightV_at h hi
/-- A number from none to six is written with that one digit alone. -/
theorem numV_one {p : List UInt8} {x : Int} (hp : numV p = (x, 0)) (h : 0 ≤ x ∧ x < 7) : p = [dgt x] := by
  have pos : ∀ (d : List UInt8), fineD d true = true → d.all isDig = true → 0 < digL 0 d := by
    intro d hf ha
    cases d with
    | nil => simp [fineD] at hf
    | cons b d =>
      simp only [List.all_cons, Bool.and_eq_true] at ha
      have hb := ha.1
      unfold isDig at hb
      simp only [Bool.and_eq_true, decide_eq_true_eq] at hb
      have hb48 : b ≠ 48 := fun e => by subst e; simp [fineD] at hf
      have hbn : b.toNat ≠ 48 := fun e => hb48 (UInt8.toNat_inj.1 (by rw [e]; rfl))
      have mono : ∀ (d : List UInt8) (n : Int), d.all isDig = true → 1 ≤ n → 1 ≤ digL n d := by
        intro d
        induction d with
        | nil => intro n _ hn; exact hn
        | cons c d ih =>
          intro n hd hn
          simp only [List.all_cons, Bool.and_eq_true] at hd
          have hc := hd.1
          unfold isDig at hc
          simp only [Bool.and_eq_true, decide_eq_true_eq] at hc
          exact ih _ hd.2 (by omega)
      have := mono d (10 * 0 + ((b.toNat : Int) - 48)) ha.2 (by omega)
      rw [digL]
      omega
  unfold numV at hp
  split at hp
  · unfold numD at hp
    split at hp
    · rename_i hc
      have := pos _ hc.1 hc.2
      simp only [if_true, Prod.mk.injEq] at hp
      omega
    · simp at hp
  · unfold numD at hp
    split at hp
    · rename_i hc
      simp only [Bool.false_eq_true, if_false, Prod.mk.injEq, and_true] at hp
      obtain ⟨hf, ha⟩ := hc
      match p, hf, ha, hp with
      | [], hf, _, _ => simp [fineD] at hf
      | [b], _, ha, hp =>
        simp only [List.all_cons, List.all_nil, Bool.and_true] at ha
        unfold isDig at ha
        simp only [Bool.and_eq_true, decide_eq_true_eq] at ha
        simp only [digL] at hp
        congr 1
        apply UInt8.toNat_inj.1
        rw [dgt_nat h]
        omega
      | b :: c :: d, hf, ha, hp =>
        exfalso
        simp only [List.all_cons, Bool.and_eq_true] at ha
        obtain ⟨hb, hc, hd⟩ := ha
        unfold isDig at hb hc
        simp only [Bool.and_eq_true, decide_eq_true_eq] at hb hc
        have hb48 : b ≠ 48 := fun e => by subst e; simp [fineD] at hf
        have hbn : b.toNat ≠ 48 := fun e => hb48 (UInt8.toNat_inj.1 (by rw [e]; rfl))
        have mono : ∀ (d : List UInt8) (n : Int), d.all isDig = true → 10 ≤ n → 10 ≤ digL n d := by
          intro d
          induction d with
          | nil => intro n _ hn; exact hn
          | cons c d ih =>
            intro n hd hn
            simp only [List.all_cons, Bool.and_eq_true] at hd
            have hc := hd.1
            unfold isDig at hc
            simp only [Bool.and_eq_true, decide_eq_true_eq] at hc
            exact ih _ hd.2 (by omega)
        have := mono d (10 * (10 * 0 + ((b.toNat : Int) - 48)) + ((c.toNat : Int) - 48)) hd (by omega)
        simp only [digL] at hp
        omega
    · simp at hp
/-- What Text tells. -/
def textV (l : List Int) : List UInt8 × Int := if rightV l = true then (textL l, 0) else ([], 1)
/-- The bytes at even places, less that of 0. -/
def evens : List UInt8 → List Int
  | [] => []
  | [b] => [(b.toNat : Int) - 48]
  | b :: _ :: l => ((b.toNat : Int) - 48) :: evens l
/-- What Read tells. -/
def readV (s : List UInt8) : List Int × Int := if rightV (evens s) = true ∧ textL (evens s) = s then (evens s, 0) else ([], 6)
theorem evens_text (l : List Int) (h : ∀ x ∈ l, 0 ≤ x ∧ x < 7) : evens (textL l) = l := by
  induction l with
  | nil => rfl
  | cons x l ih =>
    have hx := dgt_nat (h x (by simp))
    have h0 := h x (by simp)
    cases l with
    | nil => simp only [textL, evens, hx]; congr 1; omega
    | cons y l =>
      simp only [textL, evens, hx, List.cons.injEq]
      exact ⟨by omega, ih fun z hz => h z (by simp [hz])⟩
theorem readV_text {l : List Int} (h : rightV l = true) : readV (textL l) = (l, 0) := by
  unfold readV
  rw [evens_text l (right_in h), if_pos ⟨h, rfl⟩]
/-- All pieces are numbers, and the members are right. -/
theorem readV_yes {s : List UInt8} {ns : List Int} (hp : (cutC s).map numV = ns.map fun x => (x, 0)) (hr : rightV ns = true) : readV s = (ns, 0) := by
  have hm := right_in hr
  have hc : cutC s = ns.map fun x => [dgt x] := by
    have hlen : (cutC s).length = ns.length := by have := congrArg List.length hp; simpa using this
    apply List.ext_getElem (by simpa using hlen)
    intro i h1 h2
    have e := congrArg (fun l => l[i]?) hp
    simp only [List.getElem?_map] at e
    rw [List.getElem?_eq_getElem h1, List.getElem?_eq_getElem (by omega)] at e
    simp only [Option.map_some, Option.some.injEq] at e
    rw [List.getElem_map]
    exact numV_one e (hm _ (List.getElem_mem _))
  have hs : s = textL ns := by rw [textL_join, ← hc, cutC_join]
  rw [hs]
  exact readV_text hr
theorem readV_no {s : List UInt8} (h : ∀ ns : List Int, (cutC s).map numV = (ns.map fun x => (x, 0)) → rightV ns = false) : readV s = ([], 6) := by
  unfold readV
  split
  · rename_i hc
    exfalso
    have hne : evens s ≠ [] := fun e => by have := hc.1; rw [e] at this; simp [rightV] at this
    have h2 : (cutC s).map numV = (evens s).map fun x => (x, 0) := by
      conv => lhs; rw [← hc.2]
      rw [cutC_text _ (right_in hc.1) hne, List.map_map]
      exact List.map_congr_left fun x hx => numV_dgt (right_in hc.1 x hx)
    rw [h _ h2] at hc
    exact absurd hc.1 (by simp)
  · rfl
end Go.Proofs.YtkbfcmkocgkdjaaGreatDoor
