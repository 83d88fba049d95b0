/-
  The document's answers on members: Text, Read, Add, Drop, Step. Conditions: no more than a thousand members; a text of no more than a thousand bytes.
-/
import Derived.Test.YtkbfcmkocgkdjaaGreatDoorConfL
import Derived.Test.YtkbfcmkocgkdjaaGreatDoorConfRQ
import Derived.Test.YtkbfcmkocgkdjaaGreatDoorConfJ
import Derived.Test.YtkbfcmkocgkdjaaGreatDoorPackDigW
namespace Go.Proofs.YtkbfcmkocgkdjaaGreatDoor
open Go Go.RowKit
attribute [local go_sem] cell_set_if

theorem textL_snoc (l : List Int) (x : Int) (h : l ≠ []) : textL (l ++ [x]) = textL l ++ [44, dgt x] := by
  induction l with
  | nil => exact absurd rfl h
  | cons y l ih =>
    cases l with
    | nil => rfl
    | cons z l =>
      have := ih (by simp)
      simp only [List.cons_append, textL] at this ⊢
      rw [this]
theorem textL_len (l : List Int) : (textL l).length ≤ 2 * l.length := by
  induction l with
  | nil => simp [textL]
  | cons x l ih =>
    cases l with
    | nil => simp [textL]
    | cons y l => simp only [textL, List.length_cons] at ih ⊢; omega

set_option maxRecDepth 100000 in
set_option maxHeartbeats 2000000 in
theorem rtext_any (A : Option Addr) (n c : Nat) (l : List Int) (w : World) (hr : Rd w A (flatZ l)) (hn : l.length = n) (hm : n ≤ 1000) :
    Calls Tryz.prog 7 #[.slice A n c] w fun e w' => e = .returned (.tuple #[.string (bs (textV l).1), .int .i64 (textV l).2]) ∧ Below w.heap.size w w' := by
  have HR := Lib.hid hr
  have HN := Lib.hid hn
  have hni : (n : Int) ≤ 1000 := by omega
  have hc := rright_any A n c l w hr hn (by omega)
  obtain ⟨ok, hok⟩ : ∃ ok, ok = rightV l := ⟨_, rfl⟩
  rw [← hok] at hc
  have HC := Lib.hid hc
  have HOK := Lib.hid hok
  clear hr hn hc hok
  cases ok
  · have HF : Hid (textV l = ([], 1)) := by unfold Hid textV; rw [if_neg (by rw [← HOK.out]; simp)]
    go_enter Tryz.func7, Tryz.ntmps7
    go_wp2_with (go_at_call 29; refine HC.out.mono ?_; rintro e w1 ⟨rfl, q1⟩)
    go_ret2
    exact ⟨by (rw [HF.out]) <;> rfl, q1.below _⟩
  · have HIN := Lib.hid (right_in HOK.out.symm)
    have HF : Hid (textV l = (textL l, 0)) := by unfold Hid textV; rw [if_pos HOK.out.symm]
    go_enter Tryz.func7, Tryz.ntmps7
    go_wp2_with (go_at_call 29; refine HC.out.mono ?_; rintro e w1 ⟨rfl, q1⟩)
    have B1 := q1.below w.heap.size
    go_loopw [4, 5] (fun u4 u5 wr => ∃ (k : Nat) (S : ByteArray), k ≤ n ∧ u5 = .int .i64 k ∧ u4 = .string S ∧ Hid (bts S = textL (l.take k)) ∧ S.size ≤ 2 * k ∧ Below w.heap.size w wr) (fun _ u5 _ => n - (intOf u5).toNat)
    case atStart => exact ⟨0, ⟨#[]⟩, by omega, rfl, rfl, rfl, Nat.le_refl _, B1⟩
    case round =>
      obtain ⟨k, S, hk, rfl, rfl, HS, hsz, hB⟩ := hrel
      by_cases hlt : k < n
      · obtain ⟨b1, o1, x, rfl, _, hx, d0⟩ := (HR.out.below hB).num (k := k) (by have := HN.out; omega)
        have hki : (k : Int) < (n : Int) := by omega
        have hx2 := HIN.out x (List.mem_of_getElem? hx)
        obtain ⟨D, hD⟩ : ∃ D, D = bs [dgt x] := ⟨_, rfl⟩
        have hd := rdigits_any x wr (by omega) (by omega)
        rw [dgt_itoa hx2, show str [dgt x] = .string D by rw [hD]] at hd
        have HD := Lib.hid hd
        have hD1 : D.size = 1 := by rw [hD, bs_size]; rfl
        have htk : l.take (k + 1) = l.take k ++ [x] := by rw [List.take_add_one, hx]; rfl
        by_cases hk0 : k = 0
        · subst hk0
          rw [Nat.add_zero] at d0
          have HT : Hid (bts (S ++ D) = textL (l.take (0 + 1))) := by
            unfold Hid
            rw [htk, bts_append, HS.out, hD, bts_bs]; rfl
          have hsum : ¬ (9223372036854775807 < S.size + D.size) := by omega
          clear hx hx2 hd hD htk
          go_wp2_with (go_at_call 30; refine HD.out.mono ?_; rintro e w2 ⟨rfl, b2⟩; have B2 := below_of b2 hB hB.size)
          go_roundw
          case rel => exact ⟨0 + 1, S ++ D, by omega, by go_num, by first | rfl | trivial, HT.out, by rw [ByteArray.size_append]; omega, B2⟩
          case measure => simp [intOf]; omega
        · have hk0i : (0 : Int) < (k : Int) := by omega
          have hne : l.take k ≠ [] := fun e => by have := congrArg List.length e; rw [List.length_take, List.length_nil] at this; have := HN.out; omega
          obtain ⟨C, hC⟩ : ∃ C : ByteArray, S ++ ⟨#[44]⟩ = C := ⟨_, rfl⟩
          have hCs : C.size = S.size + 1 := by rw [← hC, ByteArray.size_append]; rfl
          have HT : Hid (bts (C ++ D) = textL (l.take (k + 1))) := by
            unfold Hid
            rw [htk, textL_snoc _ _ hne, bts_append, ← hC, bts_append, HS.out, hD, bts_bs, List.append_assoc]; rfl
          have hsum0 : ¬ (9223372036854775807 < S.size + 1) := by omega
          have hsum : ¬ (9223372036854775807 < C.size + D.size) := by omega
          clear hx hx2 hd hD htk hne hk0
          go_wp2_with (go_at_call 30; refine HD.out.mono ?_; rintro e w2 ⟨rfl, b2⟩; have B2 := below_of b2 hB hB.size)
          go_roundw
          case rel => exact ⟨k + 1, C ++ D, by omega, by go_num, by first | rfl | trivial, HT.out, by rw [ByteArray.size_append]; omega, B2⟩
          case measure => simp [intOf]; omega
      · obtain rfl : n = k := by omega
        have HSS : Hid (Value.string (bs (textV l).1) = .string S ∧ (textV l).2 = 0) := by
          unfold Hid
          have h := HS.out
          rw [List.take_of_length_le (by have := HN.out; omega)] at h
          rw [HF.out]
          exact ⟨by show Value.string (bs (textL l)) = _; rw [← h, bs_bts], rfl⟩
        clear HS
        go_wp2
        go_ret2
        exact ⟨by (rw [HSS.out.1, HSS.out.2]) <;> rfl, hB⟩

theorem evens_at : ∀ (s : List UInt8) (k : Nat), (evens s)[k]? = (s[2 * k]?).map fun b => (b.toNat : Int) - 48
  | [], k => by simp [evens]
  | [b], 0 => by simp [evens]
  | [b], k + 1 => by simp [evens]
  | b :: c :: s, 0 => by simp [evens]
  | b :: c :: s, k + 1 => by
    rw [evens, List.getElem?_cons_succ, evens_at s k, show 2 * (k + 1) = 2 * k + 1 + 1 by omega, List.getElem?_cons_succ, List.getElem?_cons_succ]
theorem evens_len : ∀ (s : List UInt8), (evens s).length = (s.length + 1) / 2
  | [] => rfl
  | [b] => by simp [evens]
  | b :: c :: s => by rw [evens, List.length_cons, evens_len s, List.length_cons, List.length_cons]; omega

set_option maxRecDepth 100000 in
set_option maxHeartbeats 2000000 in
theorem rread_any (s : ByteArray) (w : World) (hs : s.size ≤ 1000) :
    Calls Tryz.prog 9 #[.string s] w fun e w' => OwnR w.heap.size (readV (bts s)) e w' ∧ Below w.heap.size w w' := by
  obtain ⟨i0, hi0, hz0, hz1, hz2⟩ := info_parts zinfo
  have hsi : (s.size : Int) ≤ 1000 := by omega
  obtain ⟨L, hL⟩ : ∃ L, L = evens (bts s) := ⟨_, rfl⟩
  have hlen : L.length = (s.size + 1) / 2 := by rw [hL, evens_len, bts_len]
  have HL := Lib.hid hL
  have HLen := Lib.hid hlen
  clear hL hlen
  go_enter Tryz.func9, Tryz.ntmps9
  go_wp2
  go_loopw [4, 5] (fun u4 u5 wr => ∃ k i : Nat, Hid (i = 2 * k) ∧ k ≤ 501 ∧ Hid (k ≤ L.length) ∧ i ≤ 1002 ∧ u5 = .int .i64 i ∧ wr.ownsRow w.heap.size 3 1 u4 k (flatZ (L.take k)) ∧ Below w.heap.size w wr) (fun _ u5 _ => 1002 - (intOf u5).toNat)
  case atStart => exact ⟨0, 0, rfl, by omega, Nat.zero_le _, by omega, rfl, World.ownsRow_nil _ _ _ _, Below.refl _ _⟩
  case round =>
    obtain ⟨k, i, HI, hk, HKL, hi, rfl, hO, hB⟩ := hrel
    by_cases hlt : i < s.size
    · have hii : (i : Int) < (s.size : Int) := by omega
      have hxk : L[k]? = some ((s[i].toNat : Int) - 48) := by
        rw [HL.out, evens_at]
        have e : 2 * k = i := HI.out.symm
        rw [e, show (bts s)[i]? = some s[i] from byte_at_ s i hlt]; rfl
      have htk : L.take (k + 1) = L.take k ++ [(s[i].toNat : Int) - 48] := by rw [List.take_add_one, hxk]; rfl
      have hkl : k < L.length := (List.getElem?_eq_some_iff.1 hxk).1
      have hk2 : k ≤ 500 := by have := HI.out; omega
      obtain ⟨y, hy⟩ : ∃ y : Int, y = (s[i].toNat : Int) - 48 := ⟨_, rfl⟩
      rw [← hy] at htk
      have hb1 : (s[i].toNat : Int) ≤ 255 := by have := s[i].toNat_lt; omega
      have hb0 : (0 : Int) ≤ (s[i].toNat : Int) := by omega
      have HT := Lib.hid htk
      have HY := Lib.hid hy
      have HKL2 : Hid (k + 1 ≤ L.length) := hkl
      clear hxk htk hkl hy
      go_wp2_with (at_builtin; refine wpList_app rfl (.tmp 14) (.tmp 20) 22 rfl w.heap.size 3 i0 _ 1 8 Tryz.underlying22 hi0 hz0 hz1 hz2 rfl (by omega) u4 k _ rfl (hO.alloc _) _ 1 1 [.int .i64 ((s[i].toNat : Int) - 48)] rfl (Rd.one _ _ _) rfl (one_int _ _) (by unfold maxLen; omega) (by omega) (by have := hB.size; simp; omega) ?_; intro v' w3 o3 hg3 b3 _)
      go_roundw
      case rel => exact ⟨k + 1, i + 2, by have := HI.out; unfold Hid; omega, by omega, HKL2, by omega, by go_num, by rw [HT.out, flatZ_app, HY.out]; exact o3, (hB.alloc hB.size _).trans b3⟩
      case measure => simp [intOf]; omega
    · have hge : (s.size : Int) ≤ (i : Int) := by omega
      have hkl : k = L.length := by have h1 := HI.out; have h2 := HLen.out; have h3 := HKL.out; omega
      obtain ⟨A, c, rfl, hc⟩ := own_form hO
      rw [hkl, List.take_length, ← hkl] at hO
      have hT := rtext_any A k c L wr (Rd.of_own hO) hkl.symm (by omega)
      have HKLe := Lib.hid hkl
      clear hkl
      cases hr : rightV L
      · have hv : textV L = ([], 1) := by unfold textV; rw [if_neg (by rw [hr]; simp)]
        have HF : Hid (readV (bts s) = ([], 6)) := by unfold Hid readV; rw [if_neg]; rw [← HL.out, hr]; simp
        rw [hv] at hT
        have HT := Lib.hid hT
        clear hT hv hr
        go_wp2_with (go_at_call 7; refine HT.out.mono ?_; rintro e w2 ⟨rfl, b2⟩)
        go_ret2
        exact ⟨OwnR.none _ _ _ HF.out, below_of b2 hB hB.size⟩
      · have hv : textV L = (textL L, 0) := by unfold textV; rw [if_pos hr]
        rw [hv] at hT
        obtain ⟨T, hTT⟩ : ∃ T, T = bs (textL L) := ⟨_, rfl⟩
        simp only [← hTT] at hT
        have HT := Lib.hid hT
        have hcmp : (T.toList == s.toList) = decide (textL L = bts s) := by rw [str_beq, hTT, bts_bs]
        clear hT hv
        by_cases he : textL L = bts s
        · have HF : Hid (readV (bts s) = (L, 0)) := by unfold Hid readV; rw [← HL.out, if_pos ⟨hr, he⟩]
          rw [decide_eq_true he] at hcmp
          have hcmp2 : (T.toList != s.toList) = false := by simp [bne, hcmp]
          clear hr he hTT
          go_wp2_with (go_at_call 7; refine HT.out.mono ?_; rintro e w2 ⟨rfl, b2⟩)
          go_ret2
          exact ⟨⟨A, k, c, by (rw [HF.out]) <;> rfl, by rw [HF.out]; exact HKLe.out.symm, by rw [HF.out]; exact own_frm hO (Frm.of_below (S := no) b2) (fun _ _ => id)⟩, below_of b2 hB hB.size⟩
        · have HF : Hid (readV (bts s) = ([], 6)) := by unfold Hid readV; rw [← HL.out, if_neg (fun h => he h.2)]
          rw [decide_eq_false he] at hcmp
          have hcmp2 : (T.toList != s.toList) = true := by simp [bne, hcmp]
          clear hr he hTT
          go_wp2_with (go_at_call 7; refine HT.out.mono ?_; rintro e w2 ⟨rfl, b2⟩)
          go_ret2
          exact ⟨OwnR.none _ _ _ HF.out, below_of b2 hB hB.size⟩

theorem rstep_comm (a b : List Int) : (rightV a && rightV b && decide (lackV b a + lackV a b ≤ 1)) = stepV a b := by unfold stepV; rw [Nat.add_comm]
set_option maxRecDepth 100000 in
set_option maxHeartbeats 2000000 in
theorem rdropZ_any (A : Option Addr) (n c : Nat) (l : List Int) (id : Int) (w : World) (hr : Rd w A (flatZ l)) (hn : l.length = n) (hm : n ≤ 1000) :
    Calls Tryz.prog 39 #[.slice A n c, .int .i64 id] w fun e w' => (∃ B m d, e = .returned (.slice B m d) ∧ (l.filter fun x => !(x == id)).length = m ∧ w'.ownsRow w.heap.size 3 1 (.slice B m d) m (flatZ (l.filter fun x => !(x == id)))) ∧ Below w.heap.size w w' := by
  obtain ⟨i0, hi0, hz0, hz1, hz2⟩ := info_parts zinfo
  have HR := Lib.hid hr
  have HN := Lib.hid hn
  have hni : (n : Int) ≤ 1000 := by omega
  clear hr hn
  go_enter Tryz.func39, Tryz.ntmps39
  go_wp2
  go_loopw [5, 6] (fun u5 u6 wr => ∃ k m : Nat, k ≤ n ∧ m ≤ k ∧ u6 = .int .i64 k ∧ Hid (((l.take k).filter fun x => !(x == id)).length = m) ∧ wr.ownsRow w.heap.size 3 1 u5 m (flatZ ((l.take k).filter fun x => !(x == id))) ∧ Below w.heap.size w wr) (fun _ u6 _ => n - (intOf u6).toNat)
  case atStart => exact ⟨0, 0, by omega, by omega, rfl, rfl, World.ownsRow_nil _ _ _ _, Below.refl _ _⟩
  case round =>
    obtain ⟨k, m, hk, hmk, rfl, HM, hO, hB⟩ := hrel
    by_cases hlt : k < n
    · obtain ⟨b1, o1, x, rfl, _, hx, d0⟩ := (HR.out.below hB).num (k := k) (by have := HN.out; omega)
      have hki : (k : Int) < (n : Int) := by omega
      have htk : l.take (k + 1) = l.take k ++ [x] := by rw [List.take_add_one, hx]; rfl
      by_cases hxi : x = id
      · have HT : Hid ((l.take (k + 1)).filter (fun x => !(x == id)) = (l.take k).filter (fun x => !(x == id))) := by unfold Hid; rw [htk, List.filter_append]; simp [hxi]
        have hne : (x != id) = false := by simp [hxi]
        clear htk hx hxi
        go_wp2
        go_roundw
        case rel => exact ⟨k + 1, m, by omega, by omega, by go_num, by rw [HT.out]; exact HM.out, by rw [HT.out]; exact hO, hB⟩
        case measure => simp [intOf]; omega
      · have HT : Hid ((l.take (k + 1)).filter (fun x => !(x == id)) = (l.take k).filter (fun x => !(x == id)) ++ [x]) := by unfold Hid; rw [htk, List.filter_append]; simp [hxi]
        have hne : (x != id) = true := by simp [hxi]
        clear htk hx hxi
        go_wp2_with (at_builtin; refine wpList_app rfl (.tmp 19) (.tmp 24) 22 rfl w.heap.size 3 i0 _ 1 8 Tryz.underlying22 hi0 hz0 hz1 hz2 rfl (by omega) u5 m _ rfl (hO.alloc _) _ 1 1 [.int .i64 x] rfl (Rd.one _ _ _) rfl (one_int _ _) (by unfold maxLen; omega) (by omega) (by have := hB.size; simp; omega) ?_; intro v' w3 o3 hg3 b3 _)
        go_roundw
        case rel => exact ⟨k + 1, m + 1, by omega, by omega, by go_num, by rw [HT.out, List.length_append, HM.out]; rfl, by rw [HT.out, flatZ_app]; exact o3, (hB.alloc hB.size _).trans b3⟩
        case measure => simp [intOf]; omega
    · obtain rfl : n = k := by omega
      have hall : l.take n = l := List.take_of_length_le (by have := HN.out; omega)
      rw [hall] at hO
      have HM2 : Hid ((l.filter fun x => !(x == id)).length = m) := by have := HM.out; rwa [hall] at this
      obtain ⟨A5, c5, rfl, hc⟩ := own_form hO
      clear hall
      go_wp2
      go_ret
      exact ⟨⟨A5, m, c5, rfl, HM2.out, hO⟩, hB⟩

/-- Where a member is put. -/
theorem put_eq {l : List Int} {id : Int} {k : Nat} (h : l.Pairwise (· < ·)) (hn : id ∉ l) (h1 : ∀ (j : Nat) x, j < k → l[j]? = some x → x < id) (h2 : ∀ (j : Nat) x, k ≤ j → l[j]? = some x → id < x) : l.take k ++ [id] ++ l.drop k = sortZ (l ++ [id]) := by
  refine up_eq ?_ (sort_up h hn) fun x => ?_
  · rw [List.append_assoc, List.pairwise_append]
    refine ⟨h.sublist (List.take_sublist _ _), ?_, fun a ha b hb => ?_⟩
    · rw [List.singleton_append, List.pairwise_cons]
      refine ⟨fun b hb => ?_, h.sublist (List.drop_sublist _ _)⟩
      obtain ⟨j, hj⟩ := List.mem_iff_getElem?.1 hb
      rw [List.getElem?_drop] at hj
      exact h2 _ b (by omega) hj
    · obtain ⟨i, hi⟩ := List.mem_iff_getElem?.1 ha
      have hil := (List.getElem?_eq_some_iff.1 hi).1
      rw [List.length_take] at hil
      rw [List.getElem?_take, if_pos (by omega)] at hi
      have ha2 := h1 i a (by omega) hi
      rw [List.singleton_append, List.mem_cons] at hb
      rcases hb with rfl | hb
      · exact ha2
      · obtain ⟨j, hj⟩ := List.mem_iff_getElem?.1 hb
        rw [List.getElem?_drop] at hj
        have := h2 _ b (by omega) hj
        omega
  · rw [sort_mem, List.mem_append, List.mem_append, List.mem_singleton]
    conv => rhs; rw [← List.take_append_drop k l, List.mem_append]
    constructor
    · rintro ((h | h) | h)
      · exact .inl (.inl h)
      · exact .inr h
      · exact .inl (.inr h)
    · rintro ((h | h) | h)
      · exact .inl (.inl h)
      · exact .inr h
      · exact .inl (.inr h)
set_option maxRecDepth 100000 in
set_option maxHeartbeats 4000000 in
theorem rputZ_any (A : Option Addr) (n c : Nat) (l : List Int) (id : Int) (w : World) (hr : Rd w A (flatZ l)) (hn : l.length = n) (hnc : n ≤ c) (hm : n ≤ 1000) (hR : l.Pairwise (· < ·)) (hno : id ∉ l) :
    Calls Tryz.prog 36 #[.slice A n c, .int .i64 id] w fun e w' => (∃ B d, e = .returned (.slice B (n + 1) d) ∧ w'.ownsRow w.heap.size 3 1 (.slice B (n + 1) d) (n + 1) (flatZ (sortZ (l ++ [id])))) ∧ Below w.heap.size w w' := by
  obtain ⟨i0, hi0, hz0, hz1, hz2⟩ := info_parts zinfo
  have HR := Lib.hid hr
  have HN := Lib.hid hn
  have HUp := Lib.hid hR
  have HNo := Lib.hid hno
  have hni : (n : Int) ≤ 1000 := by omega
  have hnci : (n : Int) ≤ (c : Int) := by omega
  clear hr hn hR hno
  go_enter Tryz.func36, Tryz.ntmps36
  go_wp2
  go_loopw [5] (fun u5 wr => ∃ k : Nat, k ≤ n ∧ u5 = .int .i64 k ∧ Hid (∀ (j : Nat) x, j < k → l[j]? = some x → x < id) ∧ wr = w) (fun u5 _ => n - (intOf u5).toNat)
  case atStart => exact ⟨0, by omega, rfl, fun j x hj => by omega, rfl⟩
  case round =>
    obtain ⟨k, hk, rfl, HL, rfl⟩ := hrel
    by_cases hgo : k < n ∧ ∃ x, l[k]? = some x ∧ x < id
    · obtain ⟨hlt, x, hx, hxi⟩ := hgo
      obtain ⟨b1, o1, x', rfl, _, hx', d0⟩ := HR.out.num (k := k) (by have := HN.out; omega)
      obtain rfl : x' = x := Option.some.inj (hx'.symm.trans hx)
      have hki : (k : Int) < (n : Int) := by omega
      have HL2 : Hid (∀ (j : Nat) y, j < k + 1 → l[j]? = some y → y < id) := fun j y hj hy => by
        by_cases e : j = k
        · subst e; rw [hx] at hy; rw [← Option.some.inj hy]; exact hxi
        · exact HL.out j y (by omega) hy
      clear hx hx'
      go_wp2
      go_roundw
      case rel => exact ⟨k + 1, by omega, by go_num, HL2, by first | rfl | trivial⟩
      case measure => simp [intOf]; omega
    · have h2 : ∀ (j : Nat) x, k ≤ j → l[j]? = some x → id < x := fun j x hj hx => by
        have hjl := (List.getElem?_eq_some_iff.1 hx).1
        have hkl : k < l.length := by omega
        have hxk : l[k]? = some l[k] := List.getElem?_eq_getElem hkl
        have h3 : ¬ l[k] < id := fun h => hgo ⟨by have := HN.out; omega, _, hxk, h⟩
        have h4 : l[k] ≠ id := fun e => HNo.out (e ▸ List.getElem_mem hkl)
        by_cases e : j = k
        · subst e; rw [hxk] at hx; rw [← Option.some.inj hx]; omega
        · have h5 := List.pairwise_iff_getElem.1 HUp.out k j hkl hjl (by omega)
          rw [List.getElem?_eq_getElem hjl] at hx
          rw [← Option.some.inj hx]
          omega
      have HP := Lib.hid (put_eq HUp.out HNo.out HL.out h2)
      have hcase : (k = n) ∨ (k < n ∧ ∃ x, l[k]? = some x ∧ id < x) := by
        by_cases e : k = n
        · exact .inl e
        · exact .inr ⟨by omega, l[k]'(by have := HN.out; omega), List.getElem?_eq_getElem _, h2 k _ (Nat.le_refl _) (List.getElem?_eq_getElem (by have := HN.out; omega))⟩
      have HT1 : Hid (Rd wr A (flatZ (l.take k))) := by
        have := HR.out.take k
        unfold Hid; rw [flatZ_map, List.map_take, ← flatZ_map]; exact this
      have hl1 := flatZ_len (l.take k)
      rw [List.length_take, HN.out, Nat.min_eq_left hk] at hl1
      have HL1 := Lib.hid hl1
      clear hl1 h2
      rcases hcase with rfl | ⟨hlt, x, hx, hxi⟩
      · have hdr : l.drop k = [] := List.drop_eq_nil_of_le (by have := HN.out; omega)
        have HPP : Hid (flatZ (l.take k) ++ [.int .i64 id] ++ [] = flatZ (sortZ (l ++ [id]))) := by
          unfold Hid
          have h := HP.out
          rw [hdr, List.append_nil] at h
          rw [← h, List.append_nil, flatZ_app]; rfl
        clear hdr
        by_cases hck : c = k
        · obtain rfl : k = c := hck.symm
          go_wp2_with fail
          go_region_held3 (fun _ => True) (trivial)
            (first
            | (refine step_app rfl (.const (.slice none 0 0)) (.tmp 35) 22 rfl _ 3 i0 _ 1 8 Tryz.underlying22 hi0 hz0 hz1 hz2 rfl (by omega) (.slice none 0 0) 0 [] rfl (World.ownsRow_nil _ _ _ _) _ k _ (flatZ (l.take k)) rfl (by first | exact HT1.out | exact HT1.out.alloc _) HL1.out (flatZ_one _) (by unfold maxLen; omega) (by omega) (Nat.le_refl _) ?_
               intro v11 w11 ho11 hg11 hb11 hat11
               rw [Nat.zero_add, List.nil_append] at ho11
               have b11 : Below wr.heap.size wr w11 := by first | exact below_of hb11 ((Below.refl _ wr).drew) (Nat.le_refl _) | exact below_of hb11 (((Below.refl _ wr).drew).alloc (Nat.le_refl _) _) (by simp)
               try (have RN := (Rd.one wr.drew (.int .i64 id) 3).below hb11))
            | (refine step_app rfl (.tmp 36) (.tmp 38) 22 rfl _ 3 i0 _ 1 8 Tryz.underlying22 hi0 hz0 hz1 hz2 rfl (by omega) v11 k (flatZ (l.take k)) rfl (by first | exact ho11 | exact ho11.alloc _) _ 1 1 [.int .i64 id] rfl (by first | exact RN | exact Rd.one _ _ _) rfl (one_int _ _) (by unfold maxLen; omega) (by omega) (by have := hb11.size; simp at this ⊢; omega) ?_
               intro v12 w12 ho12 hg12 hb12 hat12
               have b12 : Below wr.heap.size wr w12 := by first | exact below_of hb12 b11 (by simp) | exact below_of hb12 (b11.alloc b11.size _) (by simp))
            | (refine step_app rfl (.tmp 39) (.tmp 42) 22 rfl _ 3 i0 _ 1 8 Tryz.underlying22 hi0 hz0 hz1 hz2 rfl (by omega) v12 (k + 1) (flatZ (l.take k) ++ [.int .i64 id]) rfl ho12 _ (0) _ ([]) rfl (Rd.nil _ _) (by simp) (by simp) (by unfold maxLen; omega) (by omega) (by have := hb12.size; have := hb11.size; simp at *; omega) ?_
               intro v13 w13 ho13 hg13 hb13 hat13
               have b13 : Below wr.heap.size wr w13 := below_of hb13 b12 (by simp)))
          all_goals
            obtain ⟨A13, c13, hv13, _⟩ := own_form ho13
            subst hv13
            go_wp2
            go_ret
            exact ⟨⟨A13, c13, rfl, by rw [HPP.out] at ho13; exact own_base ho13 (by first | (simp; done) | (simp; omega))⟩, b13⟩
        · go_wp2_with fail
          go_region_held3 (fun _ => True) (trivial)
            (first
            | (refine step_app rfl (.const (.slice none 0 0)) (.tmp 35) 22 rfl _ 3 i0 _ 1 8 Tryz.underlying22 hi0 hz0 hz1 hz2 rfl (by omega) (.slice none 0 0) 0 [] rfl (World.ownsRow_nil _ _ _ _) _ k _ (flatZ (l.take k)) rfl (by first | exact HT1.out | exact HT1.out.alloc _) HL1.out (flatZ_one _) (by unfold maxLen; omega) (by omega) (Nat.le_refl _) ?_
               intro v11 w11 ho11 hg11 hb11 hat11
               rw [Nat.zero_add, List.nil_append] at ho11
               have b11 : Below wr.heap.size wr w11 := by first | exact below_of hb11 ((Below.refl _ wr).drew) (Nat.le_refl _) | exact below_of hb11 (((Below.refl _ wr).drew).alloc (Nat.le_refl _) _) (by simp)
               try (have RN := (Rd.one wr.drew (.int .i64 id) 3).below hb11))
            | (refine step_app rfl (.tmp 36) (.tmp 38) 22 rfl _ 3 i0 _ 1 8 Tryz.underlying22 hi0 hz0 hz1 hz2 rfl (by omega) v11 k (flatZ (l.take k)) rfl (by first | exact ho11 | exact ho11.alloc _) _ 1 1 [.int .i64 id] rfl (by first | exact RN | exact Rd.one _ _ _) rfl (one_int _ _) (by unfold maxLen; omega) (by omega) (by have := hb11.size; simp at this ⊢; omega) ?_
               intro v12 w12 ho12 hg12 hb12 hat12
               have b12 : Below wr.heap.size wr w12 := by first | exact below_of hb12 b11 (by simp) | exact below_of hb12 (b11.alloc b11.size _) (by simp))
            | (refine step_app rfl (.tmp 39) (.tmp 42) 22 rfl _ 3 i0 _ 1 8 Tryz.underlying22 hi0 hz0 hz1 hz2 rfl (by omega) v12 (k + 1) (flatZ (l.take k) ++ [.int .i64 id]) rfl ho12 _ (0) _ ([]) rfl (Rd.nil _ _) (by simp) (by simp) (by unfold maxLen; omega) (by omega) (by have := hb12.size; have := hb11.size; simp at *; omega) ?_
               intro v13 w13 ho13 hg13 hb13 hat13
               have b13 : Below wr.heap.size wr w13 := below_of hb13 b12 (by simp)))
          all_goals
            obtain ⟨A13, c13, hv13, _⟩ := own_form ho13
            subst hv13
            go_wp2
            go_ret
            exact ⟨⟨A13, c13, rfl, by rw [HPP.out] at ho13; exact own_base ho13 (by first | (simp; done) | (simp; omega))⟩, b13⟩
      · obtain ⟨b1, o1, x', rfl, _, hx', d0⟩ := HR.out.num (k := k) (by have := HN.out; omega)
        obtain rfl : x' = x := Option.some.inj (hx'.symm.trans hx)
        have hki : (k : Int) < (n : Int) := by omega
        have hck : ¬ c = k := by omega
        have hkci : (k : Int) ≤ (c : Int) := by omega
        have hkni : (k : Int) ≤ (n : Int) := by omega
        have hne : (x' == id) = false := by rw [beq_eq_false_iff_ne]; omega
        have hnl : ¬ x' < id := by omega
        have HT2 : Hid (∀ W, Below wr.heap.size wr W → Rd W (some ⟨b1, o1 + k, none⟩) (flatZ (l.drop k))) := fun W hW => by
          have h := (HR.out.below hW).cut (k := k) (cap := c) (by rw [flatZ_len, HN.out]; omega) (by rw [flatZ_len, HN.out]; omega)
          rw [if_neg hck, Option.map_some, add_flat] at h
          rw [flatZ_map, List.map_drop, ← flatZ_map]; exact h
        have hl2 := flatZ_len (l.drop k)
        rw [List.length_drop, HN.out] at hl2
        have HL2 := Lib.hid hl2
        have HPP : Hid (flatZ (l.take k) ++ [.int .i64 id] ++ flatZ (l.drop k) = flatZ (sortZ (l ++ [id]))) := by
          unfold Hid
          rw [← HP.out, flatZ_app, flatZ_app]; rfl
        have hnk : Hid (k + 1 + (n - k) = n + 1) := by unfold Hid; omega
        clear hx hx' hl2
        go_wp2_with fail
        go_region_held3 (fun _ => True) (trivial)
          (first
          | (refine step_app rfl (.const (.slice none 0 0)) (.tmp 35) 22 rfl _ 3 i0 _ 1 8 Tryz.underlying22 hi0 hz0 hz1 hz2 rfl (by omega) (.slice none 0 0) 0 [] rfl (World.ownsRow_nil _ _ _ _) _ k _ (flatZ (l.take k)) rfl (by first | exact HT1.out | exact HT1.out.alloc _) HL1.out (flatZ_one _) (by unfold maxLen; omega) (by omega) (Nat.le_refl _) ?_
             intro v11 w11 ho11 hg11 hb11 hat11
             rw [Nat.zero_add, List.nil_append] at ho11
             have b11 : Below wr.heap.size wr w11 := by first | exact below_of hb11 ((Below.refl _ wr).drew) (Nat.le_refl _) | exact below_of hb11 (((Below.refl _ wr).drew).alloc (Nat.le_refl _) _) (by simp)
             try (have RN := (Rd.one wr.drew (.int .i64 id) 3).below hb11))
          | (refine step_app rfl (.tmp 36) (.tmp 38) 22 rfl _ 3 i0 _ 1 8 Tryz.underlying22 hi0 hz0 hz1 hz2 rfl (by omega) v11 k (flatZ (l.take k)) rfl (by first | exact ho11 | exact ho11.alloc _) _ 1 1 [.int .i64 id] rfl (by first | exact RN | exact Rd.one _ _ _) rfl (one_int _ _) (by unfold maxLen; omega) (by omega) (by have := hb11.size; simp at this ⊢; omega) ?_
             intro v12 w12 ho12 hg12 hb12 hat12
             have b12 : Below wr.heap.size wr w12 := by first | exact below_of hb12 b11 (by simp) | exact below_of hb12 (b11.alloc b11.size _) (by simp))
          | (refine step_app rfl (.tmp 39) (.tmp 42) 22 rfl _ 3 i0 _ 1 8 Tryz.underlying22 hi0 hz0 hz1 hz2 rfl (by omega) v12 (k + 1) (flatZ (l.take k) ++ [.int .i64 id]) rfl ho12 _ (n - k) _ (flatZ (l.drop k)) rfl (HT2.out _ b12) (HL2.out) (flatZ_one _) (by unfold maxLen; omega) (by omega) (by have := hb12.size; have := hb11.size; simp at *; omega) ?_
             intro v13 w13 ho13 hg13 hb13 hat13
             have b13 : Below wr.heap.size wr w13 := below_of hb13 b12 (by simp)))
        all_goals
          obtain ⟨A13, c13, hv13, _⟩ := own_form ho13
          subst hv13
          go_wp2
          go_ret
          exact ⟨⟨A13, c13, by (rw [hnk.out]) <;> rfl, by rw [HPP.out, hnk.out] at ho13; exact own_base ho13 (by first | (simp; done) | (simp; omega))⟩, b13⟩

set_option maxRecDepth 100000 in
set_option maxHeartbeats 2000000 in
theorem radd_any (A : Option Addr) (n c : Nat) (l : List Int) (id : Int) (w : World) (hr : Rd w A (flatZ l)) (hn : l.length = n) (hnc : n ≤ c) (hm : n ≤ 1000) :
    Calls Tryz.prog 11 #[.slice A n c, .int .i64 id] w fun e w' => OwnR w.heap.size (addV l id) e w' ∧ Below w.heap.size w w' := by
  have HR := Lib.hid hr
  have HN := Lib.hid hn
  have hc := rright_any A n c l w hr hn (by omega)
  have hh := fun w hr => in_ints A n c l id w hr hn (by omega)
  obtain ⟨ok, hok⟩ : ∃ ok, ok = rightV l := ⟨_, rfl⟩
  obtain ⟨q, hq⟩ : ∃ q, q = decide (id ∈ l) := ⟨_, rfl⟩
  rw [← hok] at hc
  simp only [← hq] at hh
  have HC := Lib.hid hc
  have HH := Lib.hid hh
  have HOK := Lib.hid hok
  have HQ := Lib.hid hq
  have hni : (n : Int) ≤ 1000 := by omega
  clear hr hn hc hh hok hq
  by_cases hbad : ok = false ∨ id < 0 ∨ 7 ≤ id
  · have HF : Hid (addV l id = ([], 1)) := by
      unfold Hid addV; rw [if_neg]
      rw [← HOK.out]
      rcases hbad with h | h | h
      · rw [h]; simp
      · omega
      · omega
    have hc3 : ok = false ∨ (ok = true ∧ id < 0) ∨ (ok = true ∧ 0 ≤ id ∧ 7 ≤ id) := by
      cases ok
      · exact .inl rfl
      · rcases hbad with h | h | h
        · cases h
        · exact .inr (.inl ⟨rfl, h⟩)
        · exact .inr (.inr ⟨rfl, by omega, h⟩)
    clear hbad
    rcases hc3 with rfl | ⟨rfl, h1⟩ | ⟨rfl, h1, h2⟩
    all_goals
      go_enter Tryz.func11, Tryz.ntmps11
      go_wp2_with (go_at_call 29; refine HC.out.mono ?_; rintro e w1 ⟨rfl, q1⟩)
      go_ret2
      exact ⟨OwnR.none _ _ _ HF.out, q1.below _⟩
  · obtain ⟨rfl, h1, h2⟩ : ok = true ∧ 0 ≤ id ∧ id < 7 := by
      cases ok
      · exact absurd (.inl rfl) hbad
      · exact ⟨rfl, by omega, by omega⟩
    clear hbad
    cases q
    · have hno := of_decide_eq_false HQ.out.symm
      have HF : Hid (addV l id = (sortZ (l ++ [id]), 0)) := by
        unfold Hid addV; rw [if_pos ⟨HOK.out.symm, h1, h2⟩, if_neg hno]
      have HPu := Lib.hid fun w hr => rputZ_any A n c l id w hr HN.out hnc hm (right_up HOK.out.symm) hno
      clear hno
      go_enter Tryz.func11, Tryz.ntmps11
      go_wp2_with (first
        | (go_at_call 29; refine HC.out.mono ?_; rintro e w1 ⟨rfl, q1⟩; have R1 := HR.out.below (q1.below _))
        | (go_at_call 35; refine (HH.out _ R1).mono ?_; rintro e w2 ⟨rfl, hw2⟩; subst hw2)
        | (go_at_call 36; refine (HPu.out _ R1).mono ?_; rintro e w3 ⟨⟨B3, d3, rfl, r3⟩, b3⟩))
      go_ret2
      exact ⟨⟨B3, n + 1, d3, by (rw [HF.out]) <;> rfl, by rw [HF.out]; show (sortZ _).length = _; rw [sortZ_len, List.length_append, HN.out]; rfl, by rw [HF.out]; exact own_base r3 (q1.below 0).size⟩, below_of b3 (q1.below _) (q1.below 0).size⟩
    · have HF : Hid (addV l id = ([], 9)) := by
        unfold Hid addV; rw [if_pos ⟨HOK.out.symm, h1, h2⟩, if_pos (of_decide_eq_true HQ.out.symm)]
      go_enter Tryz.func11, Tryz.ntmps11
      go_wp2_with (first
        | (go_at_call 29; refine HC.out.mono ?_; rintro e w1 ⟨rfl, q1⟩; have R1 := HR.out.below (q1.below _))
        | (go_at_call 35; refine (HH.out _ R1).mono ?_; rintro e w2 ⟨rfl, hw2⟩; subst hw2))
      go_ret2
      exact ⟨OwnR.none _ _ _ HF.out, q1.below _⟩

set_option maxRecDepth 100000 in
set_option maxHeartbeats 2000000 in
theorem rdrop_any (A : Option Addr) (n c : Nat) (l : List Int) (id : Int) (w : World) (hr : Rd w A (flatZ l)) (hn : l.length = n) (hm : n ≤ 1000) :
    Calls Tryz.prog 13 #[.slice A n c, .int .i64 id] w fun e w' => OwnR w.heap.size (dropV l id) e w' ∧ Below w.heap.size w w' := by
  have HR := Lib.hid hr
  have HN := Lib.hid hn
  have hc := rright_any A n c l w hr hn (by omega)
  have hh := fun w hr => in_ints A n c l id w hr hn (by omega)
  obtain ⟨ok, hok⟩ : ∃ ok, ok = rightV l := ⟨_, rfl⟩
  obtain ⟨q, hq⟩ : ∃ q, q = decide (id ∈ l) := ⟨_, rfl⟩
  rw [← hok] at hc
  simp only [← hq] at hh
  have HC := Lib.hid hc
  have HH := Lib.hid hh
  have HOK := Lib.hid hok
  have HQ := Lib.hid hq
  have hni : (n : Int) ≤ 1000 := by omega
  clear hr hn hc hh hok hq
  by_cases hbad : ok = false ∨ id < 0 ∨ 7 ≤ id
  · have HF : Hid (dropV l id = ([], 1)) := by
      unfold Hid dropV; rw [if_neg]
      rw [← HOK.out]
      rcases hbad with h | h | h
      · rw [h]; simp
      · omega
      · omega
    have hc3 : ok = false ∨ (ok = true ∧ id < 0) ∨ (ok = true ∧ 0 ≤ id ∧ 7 ≤ id) := by
      cases ok
      · exact .inl rfl
      · rcases hbad with h | h | h
        · cases h
        · exact .inr (.inl ⟨rfl, h⟩)
        · exact .inr (.inr ⟨rfl, by omega, h⟩)
    clear hbad
    rcases hc3 with rfl | ⟨rfl, h1⟩ | ⟨rfl, h1, h2⟩
    all_goals
      go_enter Tryz.func13, Tryz.ntmps13
      go_wp2_with (go_at_call 29; refine HC.out.mono ?_; rintro e w1 ⟨rfl, q1⟩)
      go_ret2
      exact ⟨OwnR.none _ _ _ HF.out, q1.below _⟩
  · obtain ⟨rfl, h1, h2⟩ : ok = true ∧ 0 ≤ id ∧ id < 7 := by
      cases ok
      · exact absurd (.inl rfl) hbad
      · exact ⟨rfl, by omega, by omega⟩
    clear hbad
    cases q
    · have HF : Hid (dropV l id = ([], 8)) := by
        unfold Hid dropV; rw [if_pos ⟨HOK.out.symm, h1, h2⟩, if_neg (of_decide_eq_false HQ.out.symm)]
      go_enter Tryz.func13, Tryz.ntmps13
      go_wp2_with (first
        | (go_at_call 29; refine HC.out.mono ?_; rintro e w1 ⟨rfl, q1⟩; have R1 := HR.out.below (q1.below _))
        | (go_at_call 35; refine (HH.out _ R1).mono ?_; rintro e w2 ⟨rfl, hw2⟩; subst hw2))
      go_ret2
      exact ⟨OwnR.none _ _ _ HF.out, q1.below _⟩
    · by_cases hn1 : n = 1
      · have HF : Hid (dropV l id = ([], 1)) := by
          unfold Hid dropV; rw [if_pos ⟨HOK.out.symm, h1, h2⟩, if_pos (of_decide_eq_true HQ.out.symm), if_pos (by rw [HN.out]; exact hn1)]
        subst hn1
        go_enter Tryz.func13, Tryz.ntmps13
        go_wp2_with (first
          | (go_at_call 29; refine HC.out.mono ?_; rintro e w1 ⟨rfl, q1⟩; have R1 := HR.out.below (q1.below _))
          | (go_at_call 35; refine (HH.out _ R1).mono ?_; rintro e w2 ⟨rfl, hw2⟩; subst hw2))
        go_ret2
        exact ⟨OwnR.none _ _ _ HF.out, q1.below _⟩
      · have HF : Hid (dropV l id = (l.filter fun x => !(x == id), 0)) := by
          unfold Hid dropV; rw [if_pos ⟨HOK.out.symm, h1, h2⟩, if_pos (of_decide_eq_true HQ.out.symm), if_neg (by rw [HN.out]; exact hn1)]
        have hn1' : ((n : Int) == 1) = false := by rw [beq_eq_false_iff_ne]; omega
        have HDz := Lib.hid fun w hr => rdropZ_any A n c l id w hr HN.out hm
        clear hn1
        go_enter Tryz.func13, Tryz.ntmps13
        go_wp2_with (first
          | (go_at_call 29; refine HC.out.mono ?_; rintro e w1 ⟨rfl, q1⟩; have R1 := HR.out.below (q1.below _))
          | (go_at_call 35; refine (HH.out _ R1).mono ?_; rintro e w2 ⟨rfl, hw2⟩; subst hw2)
          | (go_at_call 39; refine (HDz.out _ R1).mono ?_; rintro e w3 ⟨⟨B3, m3, d3, rfl, hm3, r3⟩, b3⟩; have HM3 := Lib.hid hm3; clear hm3))
        go_ret2
        exact ⟨⟨B3, m3, d3, by (rw [HF.out]) <;> rfl, by rw [HF.out]; exact HM3.out, by rw [HF.out]; exact own_base r3 (q1.below 0).size⟩, below_of b3 (q1.below _) (q1.below 0).size⟩
set_option maxRecDepth 100000 in
set_option maxHeartbeats 2000000 in
theorem rstep_any (A B : Option Addr) (n c m d : Nat) (a b : List Int) (w : World) (hr : Rd w A (flatZ a)) (hn : a.length = n) (hb : Rd w B (flatZ b)) (hm : b.length = m) (h1 : n ≤ 1000) (h2 : m ≤ 1000) :
    Calls Tryz.prog 18 #[.slice A n c, .slice B m d] w fun e w' => e = .returned (.bool (stepV a b)) ∧ Qt w w' := by
  have HR := Lib.hid hr
  have HB := Lib.hid hb
  have HN := Lib.hid hn
  have HM := Lib.hid hm
  have hni : (n : Int) ≤ 1000 := by omega
  have hmi : (m : Int) ≤ 1000 := by omega
  have hca := fun w hr => rright_any A n c a w hr hn (by omega)
  have hcb := fun w hb => rright_any B m d b w hb hm (by omega)
  have hha := fun x w hr => in_ints A n c a x w hr hn (by omega)
  have hhb := fun x w hb => in_ints B m d b x w hb hm (by omega)
  obtain ⟨p, hp⟩ : ∃ p, p = rightV a := ⟨_, rfl⟩
  obtain ⟨q, hq⟩ : ∃ q, q = rightV b := ⟨_, rfl⟩
  simp only [← hp] at hca
  simp only [← hq] at hcb
  have HCa := Lib.hid hca
  have HCb := Lib.hid hcb
  have HHa := Lib.hid hha
  have HHb := Lib.hid hhb
  have HP := Lib.hid hp
  have HQ := Lib.hid hq
  clear hr hb hn hm hca hcb hha hhb hp hq
  cases p
  · have HF : Hid (stepV a b = false) := by unfold Hid stepV; rw [← HP.out]; rfl
    go_enter Tryz.func18, Tryz.ntmps18
    go_wp2_with (go_at_call 29; with_reducible refine (HCa.out _ HR.out).mono ?_; rintro e w1 ⟨rfl, q1⟩)
    go_ret
    exact ⟨by (rw [HF.out]) <;> rfl, q1⟩
  cases q
  · have HF : Hid (stepV a b = false) := by unfold Hid stepV; rw [← HP.out, ← HQ.out]; rfl
    go_enter Tryz.func18, Tryz.ntmps18
    go_wp2_with fail
    refine (HCa.out _ HR.out).mono ?_
    rintro e w1 ⟨rfl, q1⟩
    have RB := HB.out.below (q1.below _)
    go_wp2_with (go_at_call 29; refine (HCb.out _ RB).mono ?_; rintro e w2 ⟨rfl, q2⟩)
    go_ret
    exact ⟨by (rw [HF.out]) <;> rfl, q1.trans q2⟩
  · go_enter Tryz.func18, Tryz.ntmps18
    go_wp2_with fail
    refine (HCa.out _ HR.out).mono ?_
    rintro e w1 ⟨rfl, q1⟩
    have RB := HB.out.below (q1.below _)
    go_wp2_with (go_at_call 29; refine (HCb.out _ RB).mono ?_; rintro e w2 ⟨rfl, q2⟩)
    have q12 := q1.trans q2
    go_loopw [5, 7] (fun u5 u7 wr => ∃ k z : Nat, k ≤ n ∧ u7 = .int .i64 k ∧ u5 = .int .i64 z ∧ z ≤ k ∧ Hid (lackV b (a.take k) = z) ∧ wr = w2) (fun _ u7 _ => n - (intOf u7).toNat)
    case atStart => exact ⟨0, 0, by omega, rfl, rfl, Nat.le_refl _, rfl, rfl⟩
    case round =>
      obtain ⟨k, z, hk, rfl, rfl, hzk, HZ, rfl⟩ := hrel
      by_cases hlt : k < n
      · obtain ⟨b1, o1, x, rfl, _, hx, d0⟩ := (HR.out.below (q12.below _)).num (k := k) (by have := HN.out; omega)
        have hki : (k : Int) < (n : Int) := by omega
        have hct := HHb.out x _ (HB.out.below (q12.below _))
        have hst := lack_take b a k x hx
        rw [HZ.out] at hst
        obtain ⟨y, hy⟩ : ∃ y, y = decide (x ∈ b) := ⟨_, rfl⟩
        rw [← hy] at hct hst
        have HCT := Lib.hid hct
        have HST := Lib.hid hst
        clear hct hst hy hx
        cases y
        · have HS2 : Hid (lackV b (a.take (k + 1)) = z + 1) := by unfold Hid; rw [HST.out]; rfl
          clear HST
          go_wp2_with (go_at_call 35; refine HCT.out.mono ?_; rintro e w3 ⟨rfl, hw3⟩; subst hw3)
          go_roundw
          case rel => exact ⟨k + 1, z + 1, by omega, by go_num, by go_num, by omega, HS2.out, by first | rfl | trivial⟩
          case measure => simp [intOf]; omega
        · have HS2 : Hid (lackV b (a.take (k + 1)) = z) := by unfold Hid; rw [HST.out]; rfl
          clear HST
          go_wp2_with (go_at_call 35; refine HCT.out.mono ?_; rintro e w3 ⟨rfl, hw3⟩; subst hw3)
          go_roundw
          case rel => exact ⟨k + 1, z, by omega, by go_num, rfl, by omega, HS2.out, by first | rfl | trivial⟩
          case measure => simp [intOf]; omega
      · obtain rfl : n = k := by omega
        have HL1 : Hid (lackV b a = z) := by
          have := HZ.out
          rwa [List.take_of_length_le (by have := HN.out; omega)] at this
        clear HZ
        obtain ⟨wo, rfl⟩ : ∃ wo : World, wo = wr := ⟨_, rfl⟩
        go_wp2_with fail
        go_loopw [6, 8] (fun u6 u8 wr => ∃ k y : Nat, k ≤ m ∧ u8 = .int .i64 k ∧ u6 = .int .i64 y ∧ y ≤ k ∧ Hid (lackV a (b.take k) = y) ∧ wr = wo) (fun _ u8 _ => m - (intOf u8).toNat)
        case atStart => exact ⟨0, 0, by omega, rfl, rfl, Nat.le_refl _, rfl, rfl⟩
        case round =>
          obtain ⟨k, y, hk, rfl, rfl, hyk, HZ, rfl⟩ := hrel
          by_cases hlt : k < m
          · obtain ⟨b1, o1, x, rfl, _, hx, d0⟩ := (HB.out.below (q12.below _)).num (k := k) (by have := HM.out; omega)
            have hki : (k : Int) < (m : Int) := by omega
            have hct := HHa.out x _ (HR.out.below (q12.below _))
            have hst := lack_take a b k x hx
            rw [HZ.out] at hst
            obtain ⟨v, hv⟩ : ∃ v, v = decide (x ∈ a) := ⟨_, rfl⟩
            rw [← hv] at hct hst
            have HCT := Lib.hid hct
            have HST := Lib.hid hst
            clear hct hst hv hx
            cases v
            · have HS2 : Hid (lackV a (b.take (k + 1)) = y + 1) := by unfold Hid; rw [HST.out]; rfl
              clear HST
              go_wp2_with (go_at_call 35; refine HCT.out.mono ?_; rintro e w3 ⟨rfl, hw3⟩; subst hw3)
              go_roundw
              case rel => exact ⟨k + 1, y + 1, by omega, by go_num, by go_num, by omega, HS2.out, by first | rfl | trivial⟩
              case measure => simp [intOf]; omega
            · have HS2 : Hid (lackV a (b.take (k + 1)) = y) := by unfold Hid; rw [HST.out]; rfl
              clear HST
              go_wp2_with (go_at_call 35; refine HCT.out.mono ?_; rintro e w3 ⟨rfl, hw3⟩; subst hw3)
              go_roundw
              case rel => exact ⟨k + 1, y, by omega, by go_num, rfl, by omega, HS2.out, by first | rfl | trivial⟩
              case measure => simp [intOf]; omega
          · obtain rfl : m = k := by omega
            have HL2 : Hid (lackV a b = y) := by
              have := HZ.out
              rwa [List.take_of_length_le (by have := HM.out; omega)] at this
            have HF : Hid (stepV a b = decide ((z : Int) + (y : Int) ≤ 1)) := by
              unfold Hid
              rw [← rstep_comm, ← HP.out, ← HQ.out, HL1.out, HL2.out, Bool.true_and, Bool.true_and, decide_eq_decide]
              omega
            clear HZ
            go_wp2
            go_ret
            exact ⟨ret_bool (by rw [HF.out]), q12⟩
end Go.Proofs.YtkbfcmkocgkdjaaGreatDoor
