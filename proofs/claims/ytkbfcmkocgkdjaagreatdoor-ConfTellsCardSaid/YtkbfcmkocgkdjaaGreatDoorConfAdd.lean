/-
  conf.Has, conf.Add, conf.Drop and conf.Step: what they give. Condition: no more than a thousand members.
-/
import Derived.Test.YtkbfcmkocgkdjaaGreatDoorConfText
import Derived.Test.YtkbfcmkocgkdjaaGreatDoorConfQ
import Derived.Test.YtkbfcmkocgkdjaaGreatDoorDelInts
import Derived.Test.YtkbfcmkocgkdjaaGreatDoorLaySort
namespace Go.Proofs.YtkbfcmkocgkdjaaGreatDoor
open Go Go.RowKit
attribute [local go_sem] cell_set_if

/-- With one more. -/
def addV (l : List Int) (id : Int) : List Int × Int := if rightV l = true ∧ 0 ≤ id ∧ id < 7 then (if id ∈ l then ([], 9) else (sortZ (l ++ [id]), 0)) else ([], 1)
/-- With one less. -/
def dropV (l : List Int) (id : Int) : List Int × Int := if rightV l = true ∧ 0 ≤ id ∧ id < 7 then (if id ∈ l then (if l.length = 1 then ([], 1) else (l.filter fun x => !(x == id), 0)) else ([], 8)) else ([], 1)
/-- How many of these are not among those. -/
def lackV (a b : List Int) : Nat := b.countP fun x => !decide (x ∈ a)
/-- May members follow others? -/
def stepV (a b : List Int) : Bool := rightV a && rightV b && decide (lackV a b + lackV b a ≤ 1)

theorem chas_any (A : Option Addr) (n c : Nat) (l : List Int) (x : Int) (w : World) (hr : Rd w A (flatZ l)) (hn : l.length = n) (hm : n ≤ 100000) :
    Calls Tryz.prog 16 #[.slice A n c, .int .i64 x] w fun e w' => e = .returned (.bool (decide (x ∈ l))) ∧ w' = w := by
  have HC := Lib.hid (contains_any A n c l x w hr hn hm)
  obtain ⟨q, hq⟩ : ∃ q, q = decide (x ∈ l) := ⟨_, rfl⟩
  rw [← hq]
  rw [← hq] at HC
  clear hr hn hq
  go_enter Tryz.func16, Tryz.ntmps16
  go_wp2_with (go_at_call 40; refine HC.out.mono ?_; rintro e w2 ⟨rfl, hw2⟩; subst hw2)
  go_ret
  exact ⟨rfl, rfl⟩

set_option maxRecDepth 100000 in
set_option maxHeartbeats 2000000 in
theorem cadd_any (A : Option Addr) (n c : Nat) (l : List Int) (id : Int) (w : World) (hr : Rd w A (flatZ l)) (hn : l.length = n) (hm : n ≤ 1000) :
    Calls Tryz.prog 10 #[.slice A n c, .int .i64 id] w fun e w' => OwnR w.heap.size (addV l id) e w' ∧ Below w.heap.size w w' := by
  obtain ⟨i0, hi0, hz0, hz1, hz2⟩ := info_parts zinfo
  have HR := Lib.hid hr
  have HN := Lib.hid hn
  have hc := cright_any A n c l w hr hn (by omega)
  have hh := fun w hr => chas_any A n c l id w hr hn (by omega)
  have hcl := fun w hr => cloneZ_any w A n c l hr hn (by omega)
  obtain ⟨ok, hok⟩ : ∃ ok, ok = rightV l := ⟨_, rfl⟩
  obtain ⟨q, hq⟩ : ∃ q, q = decide (id ∈ l) := ⟨_, rfl⟩
  rw [← hok] at hc
  simp only [← hq] at hh
  have HC := Lib.hid hc
  have HH := Lib.hid hh
  have HCl := Lib.hid hcl
  have HOK := Lib.hid hok
  have HQ := Lib.hid hq
  have hni : (n : Int) ≤ 1000 := by omega
  clear hr hn hc hh hcl hok hq
  by_cases hbad : ok = false ∨ id < 0 ∨ 7 ≤ id
  · have HF : Hid (addV l id = ([], 1)) := by
      unfold Hid addV; rw [if_neg]
      rw [← HOK.out]
      rcases hbad with h | h | h
      · rw [h]; simp
      · omega
      · omega
    have hc3 : ok = false ∨ (ok = true ∧ id < 0) ∨ (ok = true ∧ 0 ≤ id ∧ 7 ≤ id) := by
      cases ok
      · exact .inl rfl
      · rcases hbad with h | h | h
        · cases h
        · exact .inr (.inl ⟨rfl, h⟩)
        · exact .inr (.inr ⟨rfl, by omega, h⟩)
    clear hbad
    rcases hc3 with rfl | ⟨rfl, h1⟩ | ⟨rfl, h1, h2⟩
    all_goals
      go_enter Tryz.func10, Tryz.ntmps10
      go_wp2_with (go_at_call 26; refine HC.out.mono ?_; rintro e w1 ⟨rfl, q1⟩)
      go_ret2
      exact ⟨OwnR.none _ _ _ HF.out, q1.below _⟩
  · obtain ⟨rfl, h1, h2⟩ : ok = true ∧ 0 ≤ id ∧ id < 7 := by
      cases ok
      · exact absurd (.inl rfl) hbad
      · exact ⟨rfl, by omega, by omega⟩
    clear hbad
    cases q
    · have HF : Hid (addV l id = (sortZ (l ++ [id]), 0)) := by
        unfold Hid addV; rw [if_pos ⟨HOK.out.symm, h1, h2⟩, if_neg (of_decide_eq_false HQ.out.symm)]
      go_enter Tryz.func10, Tryz.ntmps10
      go_wp2_with (first
        | (go_at_call 26; refine HC.out.mono ?_; rintro e w1 ⟨rfl, q1⟩; have R1 := HR.out.below (q1.below _))
        | (go_at_call 16; refine (HH.out _ R1).mono ?_; rintro e w2 ⟨rfl, hw2⟩; subst hw2)
        | (go_at_call 33; refine (HCl.out _ R1).mono ?_; rintro e w3 ⟨⟨B3, d3, rfl, o3⟩, b3⟩)
        | (at_builtin; refine wpList_app rfl (.tmp 24) (.tmp 26) 22 rfl w2.heap.size 3 i0 _ 1 8 Tryz.underlying22 hi0 hz0 hz1 hz2 rfl (by omega) (.slice B3 n d3) n _ rfl (o3.alloc _) _ 1 1 [.int .i64 id] rfl (Rd.one _ _ _) rfl (one_int _ _) (by unfold maxLen; omega) (by omega) (by have := b3.size; simp; omega) ?_; intro v4 w4 o4 hg4 b4 _; obtain ⟨g4, c4, hv4, hb4, hl4⟩ := o4.form (by omega); subst hv4; have o4' : w4.ownsRow w2.heap.size 3 1 (.slice (some ⟨g4, 0, none⟩) (n + 1) c4) (n + 1) ((l ++ [id]).map (Value.int .i64)) := by { rw [List.map_append, ← flatZ_map]; exact o4 }
           have hso := sortI_any w2.heap.size g4 c4 (n + 1) (l ++ [id]) w4 (by rw [List.length_append, HN.out]; rfl) o4' (by omega)
           have HSO := Lib.hid hso
           clear hso)
        | (go_at_call 34; refine HSO.out.mono ?_; rintro e w5 ⟨rfl, o5, hg5⟩))
      have B5 : Below w2.heap.size w2 w5 := (((b3.alloc b3.size _).trans b4).grown hg5 (by have := b3.size; have := b4.size; simp at this; omega) (fun k hk => by injection hk with hk; omega))
      go_ret2
      exact ⟨⟨some ⟨g4, 0, none⟩, n + 1, c4, by (rw [HF.out]) <;> rfl, by rw [HF.out]; show (sortZ _).length = _; rw [sortZ_len, List.length_append, HN.out]; rfl, by rw [HF.out, flatZ_map]; exact own_base o5 (q1.below 0).size⟩, below_of B5 (q1.below _) (q1.below 0).size⟩
    · have HF : Hid (addV l id = ([], 9)) := by
        unfold Hid addV; rw [if_pos ⟨HOK.out.symm, h1, h2⟩, if_pos (of_decide_eq_true HQ.out.symm)]
      go_enter Tryz.func10, Tryz.ntmps10
      go_wp2_with (first
        | (go_at_call 26; refine HC.out.mono ?_; rintro e w1 ⟨rfl, q1⟩; have R1 := HR.out.below (q1.below _))
        | (go_at_call 16; refine (HH.out _ R1).mono ?_; rintro e w2 ⟨rfl, hw2⟩; subst hw2))
      go_ret2
      exact ⟨OwnR.none _ _ _ HF.out, q1.below _⟩

set_option maxRecDepth 100000 in
set_option maxHeartbeats 2000000 in
theorem cdrop_any (A : Option Addr) (n c : Nat) (l : List Int) (id : Int) (w : World) (hr : Rd w A (flatZ l)) (hn : l.length = n) (hm : n ≤ 1000) :
    Calls Tryz.prog 12 #[.slice A n c, .int .i64 id] w fun e w' => OwnR w.heap.size (dropV l id) e w' ∧ Below w.heap.size w w' := by
  have HR := Lib.hid (hr.alloc (.cells #[.int .i64 id] 3))
  have HN := Lib.hid hn
  have B0 : Below w.heap.size w (w.alloc (.cells #[.int .i64 id] 3)) := (Below.refl _ _).alloc (Nat.le_refl _) _
  have T0 := Blk.new w 3 #[.int .i64 id]
  have c0 : (w.alloc (.cells #[.int .i64 id] 3)).cell? ⟨w.heap.size, 0, none⟩ = some (.int .i64 id) := T0.cell 0
  have hc := fun w hr => cright_any A n c l w hr hn (by omega)
  have hh := fun w hr => chas_any A n c l id w hr hn (by omega)
  have hcl := fun w hr => cloneZ_any w A n c l hr hn (by omega)
  obtain ⟨ok, hok⟩ : ∃ ok, ok = rightV l := ⟨_, rfl⟩
  obtain ⟨q, hq⟩ : ∃ q, q = decide (id ∈ l) := ⟨_, rfl⟩
  simp only [← hok] at hc
  simp only [← hq] at hh
  have HC := Lib.hid (hc _ HR.out)
  have HH := Lib.hid hh
  have HCl := Lib.hid hcl
  have HOK := Lib.hid hok
  have HQ := Lib.hid hq
  have hni : (n : Int) ≤ 1000 := by omega
  clear hr hn hc hh hcl hok hq
  by_cases hbad : ok = false ∨ id < 0 ∨ 7 ≤ id
  · have HF : Hid (dropV l id = ([], 1)) := by
      unfold Hid dropV; rw [if_neg]
      rw [← HOK.out]
      rcases hbad with h | h | h
      · rw [h]; simp
      · omega
      · omega
    have hc3 : ok = false ∨ (ok = true ∧ id < 0) ∨ (ok = true ∧ 0 ≤ id ∧ 7 ≤ id) := by
      cases ok
      · exact .inl rfl
      · rcases hbad with h | h | h
        · cases h
        · exact .inr (.inl ⟨rfl, h⟩)
        · exact .inr (.inr ⟨rfl, by omega, h⟩)
    clear hbad
    rcases hc3 with rfl | ⟨rfl, h1⟩ | ⟨rfl, h1, h2⟩
    all_goals
      go_enter Tryz.func12, Tryz.ntmps12
      go_wp2_with (go_at_call 26; refine HC.out.mono ?_; rintro e w1 ⟨rfl, q1⟩; have c1 := cell_b (q1.below _) c0)
      go_ret2
      exact ⟨OwnR.none _ _ _ HF.out, below_of (q1.below _) B0 B0.size⟩
  · obtain ⟨rfl, h1, h2⟩ : ok = true ∧ 0 ≤ id ∧ id < 7 := by
      cases ok
      · exact absurd (.inl rfl) hbad
      · exact ⟨rfl, by omega, by omega⟩
    clear hbad
    cases q
    · have HF : Hid (dropV l id = ([], 8)) := by
        unfold Hid dropV; rw [if_pos ⟨HOK.out.symm, h1, h2⟩, if_neg (of_decide_eq_false HQ.out.symm)]
      go_enter Tryz.func12, Tryz.ntmps12
      go_wp2_with (first
        | (go_at_call 26; refine HC.out.mono ?_; rintro e w1 ⟨rfl, q1⟩; have c1 := cell_b (q1.below _) c0; have R1 := HR.out.below (q1.below _))
        | (go_at_call 16; refine (HH.out _ R1).mono ?_; rintro e w2 ⟨rfl, hw2⟩; subst hw2))
      go_ret2
      exact ⟨OwnR.none _ _ _ HF.out, below_of (q1.below _) B0 B0.size⟩
    · by_cases hn1 : n = 1
      · have HF : Hid (dropV l id = ([], 1)) := by
          unfold Hid dropV; rw [if_pos ⟨HOK.out.symm, h1, h2⟩, if_pos (of_decide_eq_true HQ.out.symm), if_pos (by rw [HN.out]; exact hn1)]
        subst hn1
        go_enter Tryz.func12, Tryz.ntmps12
        go_wp2_with (first
          | (go_at_call 26; refine HC.out.mono ?_; rintro e w1 ⟨rfl, q1⟩; have c1 := cell_b (q1.below _) c0; have R1 := HR.out.below (q1.below _))
          | (go_at_call 16; refine (HH.out _ R1).mono ?_; rintro e w2 ⟨rfl, hw2⟩; subst hw2))
        go_ret2
        exact ⟨OwnR.none _ _ _ HF.out, below_of (q1.below _) B0 B0.size⟩
      · have HF : Hid (dropV l id = (l.filter fun x => !(x == id), 0)) := by
          unfold Hid dropV; rw [if_pos ⟨HOK.out.symm, h1, h2⟩, if_pos (of_decide_eq_true HQ.out.symm), if_neg (by rw [HN.out]; exact hn1)]
        have hn1' : ((n : Int) == 1) = false := by rw [beq_eq_false_iff_ne]; omega
        have hpos : 0 < n := by have := rightV_pos HOK.out.symm; have := HN.out; omega
        clear hn1
        go_enter Tryz.func12, Tryz.ntmps12
        go_wp2_with (first
          | (go_at_call 26; refine HC.out.mono ?_; rintro e w1 ⟨rfl, q1⟩; have c1 := cell_b (q1.below _) c0; have R1 := HR.out.below (q1.below _); have T1 := T0.below (q1.below _))
          | (go_at_call 16; refine (HH.out _ R1).mono ?_; rintro e w2 ⟨rfl, hw2⟩; subst hw2)
          | (go_at_call 33; refine (HCl.out _ R1).mono ?_; rintro e w3 ⟨⟨B3, d3, rfl, o3⟩, b3⟩; obtain ⟨g3, c3, hv3, hb3, hl3⟩ := o3.form hpos; obtain rfl : B3 = some ⟨g3, 0, none⟩ := by { injection hv3 }; obtain rfl : d3 = c3 := by { injection hv3 }; clear hv3; have c3' := cell_b b3 c1; have hsz := T1.lt
             have hde := delZ_any _ g3 n d3 w.heap.size l id w3 o3 HN.out c3' (by omega) (by omega)
             have HDE := Lib.hid hde
             clear hde)
          | (go_at_call 37; refine HDE.out.mono ?_; rintro e w4 ⟨m, hm4, hml, rfl, o4, f4⟩; have HML := Lib.hid hml; clear hml))
        have B3 := below_of b3 (below_of (q1.below _) B0 B0.size) (Nat.le_trans B0.size (q1.below 0).size)
        have B4 : Below w.heap.size w w4 := below_frm B3 f4 (Nat.le_refl _) (fun i hi => by unfold at1 at hi; omega)
        go_ret2
        exact ⟨⟨some ⟨g3, 0, none⟩, m, d3, by (rw [HF.out]) <;> rfl, by rw [HF.out]; exact HML.out, by rw [HF.out]; exact own_base o4 (Nat.le_trans B0.size (q1.below 0).size)⟩, B4⟩

theorem lack_take (a b : List Int) (k : Nat) (x : Int) (h : b[k]? = some x) : lackV a (b.take (k + 1)) = lackV a (b.take k) + if (!decide (x ∈ a)) = true then 1 else 0 := cntP_take (fun x => !decide (x ∈ a)) b k x h
set_option maxRecDepth 100000 in
set_option maxHeartbeats 2000000 in
theorem cstep_any (A B : Option Addr) (n c m d : Nat) (a b : List Int) (w : World) (hr : Rd w A (flatZ a)) (hn : a.length = n) (hb : Rd w B (flatZ b)) (hm : b.length = m) (h1 : n ≤ 1000) (h2 : m ≤ 1000) :
    Calls Tryz.prog 17 #[.slice A n c, .slice B m d] w fun e w' => e = .returned (.bool (stepV a b)) ∧ Qt w w' := by
  have HR := Lib.hid hr
  have HB := Lib.hid hb
  have HN := Lib.hid hn
  have HM := Lib.hid hm
  have hni : (n : Int) ≤ 1000 := by omega
  have hmi : (m : Int) ≤ 1000 := by omega
  have hca := fun w hr => cright_any A n c a w hr hn (by omega)
  have hcb := fun w hb => cright_any B m d b w hb hm (by omega)
  have hha := fun x w hr => chas_any A n c a x w hr hn (by omega)
  have hhb := fun x w hb => chas_any B m d b x w hb hm (by omega)
  obtain ⟨p, hp⟩ : ∃ p, p = rightV a := ⟨_, rfl⟩
  obtain ⟨q, hq⟩ : ∃ q, q = rightV b := ⟨_, rfl⟩
  simp only [← hp] at hca
  simp only [← hq] at hcb
  have HCa := Lib.hid hca
  have HCb := Lib.hid hcb
  have HHa := Lib.hid hha
  have HHb := Lib.hid hhb
  have HP := Lib.hid hp
  have HQ := Lib.hid hq
  clear hr hb hn hm hca hcb hha hhb hp hq
  cases p
  · have HF : Hid (stepV a b = false) := by unfold Hid stepV; rw [← HP.out]; rfl
    go_enter Tryz.func17, Tryz.ntmps17
    go_wp2_with (go_at_call 26; with_reducible refine (HCa.out _ HR.out).mono ?_; rintro e w1 ⟨rfl, q1⟩)
    go_ret
    exact ⟨by (rw [HF.out]) <;> rfl, q1⟩
  cases q
  · have HF : Hid (stepV a b = false) := by unfold Hid stepV; rw [← HP.out, ← HQ.out]; rfl
    go_enter Tryz.func17, Tryz.ntmps17
    go_wp2_with fail
    refine (HCa.out _ HR.out).mono ?_
    rintro e w1 ⟨rfl, q1⟩
    have RB := HB.out.below (q1.below _)
    go_wp2_with (go_at_call 26; refine (HCb.out _ RB).mono ?_; rintro e w2 ⟨rfl, q2⟩)
    go_ret
    exact ⟨by (rw [HF.out]) <;> rfl, q1.trans q2⟩
  · go_enter Tryz.func17, Tryz.ntmps17
    go_wp2_with fail
    refine (HCa.out _ HR.out).mono ?_
    rintro e w1 ⟨rfl, q1⟩
    have RB := HB.out.below (q1.below _)
    go_wp2_with (go_at_call 26; refine (HCb.out _ RB).mono ?_; rintro e w2 ⟨rfl, q2⟩)
    have q12 := q1.trans q2
    go_loopw [5, 21] (fun u5 u21 wr => ∃ k z : Nat, k ≤ m ∧ u21 = .int .i64 k ∧ u5 = .int .i64 z ∧ z ≤ k ∧ Hid (lackV a (b.take k) = z) ∧ wr = w2) (fun _ u21 _ => m - (intOf u21).toNat)
    case atStart => exact ⟨0, 0, by omega, rfl, rfl, Nat.le_refl _, rfl, rfl⟩
    case round =>
      obtain ⟨k, z, hk, rfl, rfl, hzk, HZ, rfl⟩ := hrel
      by_cases hlt : k < m
      · obtain ⟨b1, o1, x, rfl, _, hx, d0⟩ := (HB.out.below (q12.below _)).num (k := k) (by have := HM.out; omega)
        have hki : (k : Int) < (m : Int) := by omega
        have hct := HHa.out x _ (HR.out.below (q12.below _))
        have hst := lack_take a b k x hx
        rw [HZ.out] at hst
        obtain ⟨y, hy⟩ : ∃ y, y = decide (x ∈ a) := ⟨_, rfl⟩
        rw [← hy] at hct hst
        have HCT := Lib.hid hct
        have HST := Lib.hid hst
        clear hct hst hy hx
        cases y
        · have HS2 : Hid (lackV a (b.take (k + 1)) = z + 1) := by unfold Hid; rw [HST.out]; rfl
          clear HST
          go_wp2_with (go_at_call 16; refine HCT.out.mono ?_; rintro e w3 ⟨rfl, hw3⟩; subst hw3)
          go_roundw
          case rel => exact ⟨k + 1, z + 1, by omega, by go_num, by go_num, by omega, HS2.out, by first | rfl | trivial⟩
          case measure => simp [intOf]; omega
        · have HS2 : Hid (lackV a (b.take (k + 1)) = z) := by unfold Hid; rw [HST.out]; rfl
          clear HST
          go_wp2_with (go_at_call 16; refine HCT.out.mono ?_; rintro e w3 ⟨rfl, hw3⟩; subst hw3)
          go_roundw
          case rel => exact ⟨k + 1, z, by omega, by go_num, rfl, by omega, HS2.out, by first | rfl | trivial⟩
          case measure => simp [intOf]; omega
      · obtain rfl : m = k := by omega
        have HL1 : Hid (lackV a b = z) := by
          have := HZ.out
          rwa [List.take_of_length_le (by have := HM.out; omega)] at this
        clear HZ
        obtain ⟨wo, rfl⟩ : ∃ wo : World, wo = wr := ⟨_, rfl⟩
        go_wp2_with fail
        go_loopw [6, 34] (fun u6 u34 wr => ∃ k y : Nat, k ≤ n ∧ u34 = .int .i64 k ∧ u6 = .int .i64 y ∧ y ≤ k ∧ Hid (lackV b (a.take k) = y) ∧ wr = wo) (fun _ u34 _ => n - (intOf u34).toNat)
        case atStart => exact ⟨0, 0, by omega, rfl, rfl, Nat.le_refl _, rfl, rfl⟩
        case round =>
          obtain ⟨k, y, hk, rfl, rfl, hyk, HZ, rfl⟩ := hrel
          by_cases hlt : k < n
          · obtain ⟨b1, o1, x, rfl, _, hx, d0⟩ := (HR.out.below (q12.below _)).num (k := k) (by have := HN.out; omega)
            have hki : (k : Int) < (n : Int) := by omega
            have hct := HHb.out x _ (HB.out.below (q12.below _))
            have hst := lack_take b a k x hx
            rw [HZ.out] at hst
            obtain ⟨v, hv⟩ : ∃ v, v = decide (x ∈ b) := ⟨_, rfl⟩
            rw [← hv] at hct hst
            have HCT := Lib.hid hct
            have HST := Lib.hid hst
            clear hct hst hv hx
            cases v
            · have HS2 : Hid (lackV b (a.take (k + 1)) = y + 1) := by unfold Hid; rw [HST.out]; rfl
              clear HST
              go_wp2_with (go_at_call 16; refine HCT.out.mono ?_; rintro e w3 ⟨rfl, hw3⟩; subst hw3)
              go_roundw
              case rel => exact ⟨k + 1, y + 1, by omega, by go_num, by go_num, by omega, HS2.out, by first | rfl | trivial⟩
              case measure => simp [intOf]; omega
            · have HS2 : Hid (lackV b (a.take (k + 1)) = y) := by unfold Hid; rw [HST.out]; rfl
              clear HST
              go_wp2_with (go_at_call 16; refine HCT.out.mono ?_; rintro e w3 ⟨rfl, hw3⟩; subst hw3)
              go_roundw
              case rel => exact ⟨k + 1, y, by omega, by go_num, rfl, by omega, HS2.out, by first | rfl | trivial⟩
              case measure => simp [intOf]; omega
          · obtain rfl : n = k := by omega
            have HL2 : Hid (lackV b a = y) := by
              have := HZ.out
              rwa [List.take_of_length_le (by have := HN.out; omega)] at this
            have HF : Hid (stepV a b = decide ((z : Int) + (y : Int) ≤ 1)) := by
              unfold Hid stepV
              rw [← HP.out, ← HQ.out, HL1.out, HL2.out, Bool.true_and, Bool.true_and, decide_eq_decide]
              omega
            clear HZ
            go_wp2
            go_ret
            exact ⟨ret_bool (by rw [HF.out]), q12⟩
end Go.Proofs.YtkbfcmkocgkdjaaGreatDoor
