/-
  What the functions of big give: Need, Ref, Unref, Ids, Lay. Conditions: a value no longer than memory holds.
-/
import Derived.Test.YtejmpfmkaiaklaaPackAny
import Derived.Test.YtejmpfmkaiaklaaPageRead
namespace Go.Proofs.Ytejmpfmkaiaklaa
open Go Go.RowKit
attribute [local go_sem] cell_set_if

/-- How many pages a value of so many bytes needs. -/
def needN (n : Nat) : Nat := if n = 0 then 1 else (n - 1) / 232 + 1
theorem needN_pos (n : Nat) : 1 ≤ needN n := by unfold needN; split <;> omega
theorem needN_le (n : Nat) (h : n ≤ 2000) : needN n ≤ 9 := by unfold needN; split <;> omega
/-- The same, of every int. -/
def needI (n : Int) : Int := if n < 0 then 0 else needN n.toNat
theorem need_any (n : Int) (w : World) (hn : n ≤ 9223372036854775807) : Calls Try.prog 14 #[.int .i64 n] w fun e w' => e = .returned (.int .i64 (needI n)) ∧ w' = w := by
  obtain ⟨r, hr⟩ : ∃ r, r = needI n := ⟨_, rfl⟩
  rw [← hr]
  unfold needI needN at hr
  by_cases h0 : n < 0
  · have HR : Hid (r = 0) := by unfold Hid; rw [hr, if_pos h0]
    clear hr
    go_enter Try.func14, Try.ntmps14
    go_wp2
    go_ret
    exact ⟨ret_int HR.out.symm, rfl⟩
  · by_cases h1 : n = 0
    · have HR : Hid (r = 1) := by unfold Hid; rw [hr, if_neg h0, if_pos (by omega)]; rfl
      subst h1
      clear hr
      go_enter Try.func14, Try.ntmps14
      go_wp2
      go_ret
      exact ⟨ret_int HR.out.symm, rfl⟩
    · have HR : Hid (r = (n - 1) / 232 + 1) := by unfold Hid; rw [hr, if_neg h0, if_neg (by omega)]; omega
      have h2 : 1 ≤ n := by omega
      have h3 : (n == 0) = false := by simpa using h1
      clear hr h0 h1
      go_enter Try.func14, Try.ntmps14
      go_wp2
      go_ret
      exact ⟨ret_int HR.out.symm, rfl⟩

/-- What Ref answers. -/
def refE (first n : Int) : List UInt8 × Int := if first < 2 ∨ 4000 ≤ first ∨ n < 0 ∨ 2000 < n then ([], 1) else (lowB first.toNat 2 ++ lowB n.toNat 2, 0)
theorem refE_ok {first n : Int} (h : ¬ (first < 2 ∨ 4000 ≤ first ∨ n < 0 ∨ 2000 < n)) : refE first n = (lowB first.toNat 2 ++ lowB n.toNat 2, 0) := if_neg h
theorem new_put (w : World) : PutS w.heap.size (w.alloc (.cells #[.slice none 0 0, .int .i64 0] 80)) w.heap.size ([], 0) :=
  ⟨Nat.le_refl _, _, Blk.new _ _ _, World.ownsRow_nil _ _ _ _⟩
theorem putSmall_ok (n : Nat) (v : Int) (l : List UInt8) (h0 : 0 ≤ v) (h1 : v < (256 : Int) ^ n) : putSmall n v (l, 0) = (l ++ lowB v.toNat n, 0) := by
  unfold putSmall; simp only [if_true]; rw [if_neg (by omega)]
theorem ref_any (first n : Int) (w : World) :
    Calls Try.prog 16 #[.int .i64 first, .int .i64 n] w fun e w' => e = .returned (.tuple #[str (refE first n).1, .int .i64 (refE first n).2]) ∧ Below w.heap.size w w' := by
  by_cases hc : first < 2 ∨ 4000 ≤ first ∨ n < 0 ∨ 2000 < n
  · have hE : refE first n = ([], 1) := if_pos hc
    rw [hE]
    have hcs : first < 2 ∨ (2 ≤ first ∧ 4000 ≤ first) ∨ (2 ≤ first ∧ first < 4000 ∧ n < 0) ∨ (2 ≤ first ∧ first < 4000 ∧ 0 ≤ n ∧ 2000 < n) := by omega
    clear hc hE
    rcases hcs with h | ⟨h0, h⟩ | ⟨h0, h1, h⟩ | ⟨h0, h1, h2, h⟩
    all_goals
      go_enter Try.func16, Try.ntmps16
      go_wp2
      go_ret2
      exact ⟨rfl, Below.refl _ _⟩
  · have hE := refE_ok hc
    rw [hE]
    have h0 : 2 ≤ first := by omega
    have h1 : first < 4000 := by omega
    have h2 : 0 ≤ n := by omega
    have h3 : n ≤ 2000 := by omega
    have E1 := Lib.hid (putSmall_ok 2 first [] (by omega) (by omega))
    have E2 := Lib.hid (putSmall_ok 2 n ([] ++ lowB first.toNat 2) (by omega) (by omega))
    have E3 : Hid (endP ([] ++ lowB first.toNat 2 ++ lowB n.toNat 2, 0) = (lowB first.toNat 2 ++ lowB n.toNat 2, 0)) := by unfold Hid endP; simp only [if_true, List.nil_append]
    have L1 : Hid (([] ++ lowB first.toNat 2 : List UInt8).length ≤ 10) := by unfold Hid; simp [lowB_len]
    obtain ⟨S, hS⟩ : ∃ S, S = bs (lowB first.toNat 2 ++ lowB n.toNat 2) := ⟨_, rfl⟩
    have hst : str (lowB first.toNat 2 ++ lowB n.toNat 2) = .string S := by rw [hS]
    dsimp only
    rw [hst]
    have HST := Lib.hid hst
    have P0 := new_put w
    have B0 : Below w.heap.size w (w.alloc (.cells #[.slice none 0 0, .int .i64 0] 80)) := (Below.refl _ _).alloc (Nat.le_refl _) _
    clear hc hE hS hst
    go_enter Try.func16, Try.ntmps16
    go_wp2_with (first
      | (go_at_call 48; have h := (phalf_s _ _ _ first _ P0 (by decide)); rw [E1.out] at h; with_reducible refine h.mono ?_; clear h; rintro e w1 ⟨rfl, P1, b1⟩; have B1 := B0.trans b1)
      | (go_at_call 48; have h := (phalf_s _ _ _ n _ P1 (by have := L1.out; dsimp only; omega)); rw [E2.out] at h; with_reducible refine h.mono ?_; clear h; rintro e w2 ⟨rfl, P2, b2⟩; have B2 := B1.trans b2)
      | (go_at_call 49; have h := (pend_s _ _ _ _ P2); rw [E3.out] at h; dsimp only at h; rw [HST.out] at h; with_reducible refine h.mono ?_; clear h; rintro e w3 ⟨rfl, m3, h3⟩; have B3 : Below w.heap.size w w3 := h3 ▸ below_drewN B2 m3; clear h3))
    go_ret2
    exact ⟨rfl, B3⟩

/-- What Unref answers. -/
def unrefE (l : List UInt8) : Int × Int × Int :=
  let a := getNum 2 (l, 0)
  let b := getNum 2 a.2
  if (refE a.1 b.1).2 = 0 ∧ (refE a.1 b.1).1 = l then (a.1, b.1, 0) else (0, 0, 6)
theorem getNum2_len (s : PS) : (getNum 2 s).2.1.length ≤ s.1.length := by
  unfold getNum getRaw
  simp only
  split
  · split
    · simp
    · split
      · simp
      · simp
  · simp
set_option maxHeartbeats 1000000 in
theorem unref_any (s : ByteArray) (w : World) (hs : s.size ≤ 100000) :
    Calls Try.prog 17 #[.string s] w fun e w' => e = .returned (.tuple #[.int .i64 (unrefE (bts s)).1, .int .i64 (unrefE (bts s)).2.1, .int .i64 (unrefE (bts s)).2.2]) ∧ Below w.heap.size w w' := by
  have hl : (bts s).length ≤ 100000 := by rw [bts_len]; exact hs
  obtain ⟨u, hu⟩ : ∃ u, u = unrefE (bts s) := ⟨_, rfl⟩
  rw [← hu]
  unfold unrefE at hu
  have hl1 := getNum2_len (bts s, 0)
  obtain ⟨a, s1, h1⟩ : ∃ a s1, getNum 2 (bts s, 0) = (a, s1) := ⟨_, _, rfl⟩
  rw [h1] at hu hl1
  dsimp only at hu hl1
  obtain ⟨b, s2, h2⟩ : ∃ b s2, getNum 2 s1 = (b, s2) := ⟨_, _, rfl⟩
  rw [h2] at hu
  dsimp only at hu
  obtain ⟨R, hR⟩ : ∃ R, R = bs (refE a b).1 := ⟨_, rfl⟩
  have hRb : (refE a b).1 = bts R := by rw [hR]; rfl
  obtain ⟨x, hx⟩ : ∃ x, x = (refE a b).2 := ⟨_, rfl⟩
  have hRef : ∀ w, Calls Try.prog 16 #[.int .i64 a, .int .i64 b] w fun e w' => e = .returned (.tuple #[.string R, .int .i64 x]) ∧ Below w.heap.size w w' := fun w => by
    rw [hR, hx]; exact ref_any a b w
  rw [← hx, hRb] at hu
  have hcase : (x ≠ 0 ∧ u = (0, 0, 6)) ∨ (x = 0 ∧ R ≠ s ∧ u = (0, 0, 6)) ∨ (x = 0 ∧ R = s ∧ u = (a, b, 0)) := by
    by_cases hx0 : x = 0
    · by_cases hr : R = s
      · right; right; exact ⟨hx0, hr, by rw [hu, if_pos ⟨hx0, by rw [hr]⟩]⟩
      · right; left; exact ⟨hx0, hr, by rw [hu, if_neg (fun h => hr (bts_inj h.2))]⟩
    · left; exact ⟨hx0, by rw [hu, if_neg (fun h => hx0 h.1)]⟩
  have HREF := Lib.hid hRef
  have H1 := Lib.hid h1
  have H2 := Lib.hid h2
  have HL := Lib.hid hl
  have HL1 := Lib.hid hl1
  clear hRef h1 h2 hR hRb hx hu hl hl1
  have hsx : ∀ R : ByteArray, R ≠ s → (R.toList == s.toList) = false := fun R h => by
    rw [beq_eq_false_iff_ne]; intro e; apply h; apply bts_inj; rw [ByteArray.toList_eq, ByteArray.toList_eq] at e; exact e
  rcases hcase with ⟨hx0, hu⟩ | ⟨hx0, hr, hu⟩ | ⟨hx0, hr, hu⟩
  · have e2 : (x != 0) = true := by simpa using hx0
    subst hu
    clear hx0 hsx
    go_enter Try.func17, Try.ntmps17
    go_wp2_with (first
      | (go_at_call 50; refine (from_s s _).mono ?_; rintro e w1 ⟨rfl, G1, b1⟩)
      | (go_at_call 51; with_reducible refine (as_num (ghalf_s _ _ _ G1 (by have := HL.out; dsimp only; omega)) H1.out).mono ?_; rintro e w2 ⟨rfl, G2, f2⟩; clear G1; have B2 := below_frm b1 f2 (Nat.le_refl _) (fun i hi => by unfold at1 at hi; omega))
      | (go_at_call 51; with_reducible refine (as_num (ghalf_s _ _ _ G2 (by have := HL.out; have := HL1.out; omega)) H2.out).mono ?_; rintro e w3 ⟨rfl, G3, f3⟩; have B3 := below_frm B2 f3 (Nat.le_refl _) (fun i hi => by unfold at1 at hi; omega))
      | (go_at_call 16; refine (HREF.out _).mono ?_; rintro e w4 ⟨rfl, b4⟩; have B4 := below_of b4 B3 B3.size))
    go_ret3
    exact ⟨rfl, B4⟩
  · have e3 := hsx R hr
    subst hu
    subst hx0
    clear hsx hr
    go_enter Try.func17, Try.ntmps17
    go_wp2_with (first
      | (go_at_call 50; refine (from_s s _).mono ?_; rintro e w1 ⟨rfl, G1, b1⟩)
      | (go_at_call 51; with_reducible refine (as_num (ghalf_s _ _ _ G1 (by have := HL.out; dsimp only; omega)) H1.out).mono ?_; rintro e w2 ⟨rfl, G2, f2⟩; clear G1; have B2 := below_frm b1 f2 (Nat.le_refl _) (fun i hi => by unfold at1 at hi; omega))
      | (go_at_call 51; with_reducible refine (as_num (ghalf_s _ _ _ G2 (by have := HL.out; have := HL1.out; omega)) H2.out).mono ?_; rintro e w3 ⟨rfl, G3, f3⟩; have B3 := below_frm B2 f3 (Nat.le_refl _) (fun i hi => by unfold at1 at hi; omega))
      | (go_at_call 16; refine (HREF.out _).mono ?_; rintro e w4 ⟨rfl, b4⟩; have B4 := below_of b4 B3 B3.size))
    go_ret3
    exact ⟨rfl, B4⟩
  · subst hu
    subst hx0
    subst hr
    clear hsx
    go_enter Try.func17, Try.ntmps17
    go_wp2_with (first
      | (go_at_call 50; refine (from_s R _).mono ?_; rintro e w1 ⟨rfl, G1, b1⟩)
      | (go_at_call 51; with_reducible refine (as_num (ghalf_s _ _ _ G1 (by have := HL.out; dsimp only; omega)) H1.out).mono ?_; rintro e w2 ⟨rfl, G2, f2⟩; clear G1; have B2 := below_frm b1 f2 (Nat.le_refl _) (fun i hi => by unfold at1 at hi; omega))
      | (go_at_call 51; with_reducible refine (as_num (ghalf_s _ _ _ G2 (by have := HL.out; have := HL1.out; omega)) H2.out).mono ?_; rintro e w3 ⟨rfl, G3, f3⟩; have B3 := below_frm B2 f3 (Nat.le_refl _) (fun i hi => by unfold at1 at hi; omega))
      | (go_at_call 16; refine (HREF.out _).mono ?_; rintro e w4 ⟨rfl, b4⟩; have B4 := below_of b4 B3 B3.size))
    go_ret3
    exact ⟨rfl, B4⟩

/-- Ids, of a place's text. -/
def idsV (first : Int) (n : Nat) : List Value := (List.range n).map fun (j : Nat) => Value.int .i64 (first + j)
theorem idsV_succ (first : Int) (n : Nat) : idsV first (n + 1) = idsV first n ++ [.int .i64 (first + n)] := by simp [idsV, List.range_succ]
theorem intinfo : (Try.prog.info? 3).map (fun i => (i.zero, i.size, i.bytes)) = some (some (.int .i64 0), 1, 8) := by kernel_rfl
set_option maxHeartbeats 1000000 in
theorem ids_ok (s : ByteArray) (first : Int) (n : Nat) (w : World) (hs : s.size ≤ 100000) (hu : unrefE (bts s) = (first, (n : Int), 0)) (h0 : 0 ≤ first) (h1 : first ≤ 5000) (hn : n ≤ 2000) :
    Calls Try.prog 18 #[.string s] w fun e w' => (∃ A c, e = .returned (.tuple #[.slice A (needN n) c, .int .i64 0]) ∧ w'.ownsRow w.heap.size 3 1 (.slice A (needN n) c) (needN n) (idsV first (needN n))) ∧ Below w.heap.size w w' := by
  have hU : ∀ w, Calls Try.prog 17 #[.string s] w fun e w' => e = .returned (.tuple #[.int .i64 first, .int .i64 n, .int .i64 0]) ∧ Below w.heap.size w w' := fun w => by
    have := unref_any s w hs
    rw [hu] at this; exact this
  have hN : ∀ w, Calls Try.prog 14 #[.int .i64 n] w fun e w' => e = .returned (.int .i64 (needN n)) ∧ w' = w := fun w => by
    have := need_any n w (by omega)
    unfold needI at this
    rw [if_neg (by omega), Int.toNat_natCast] at this; exact this
  have hle := needN_le n hn
  generalize needN n = N at *
  obtain ⟨i0, hi0, hz0, hz1, hz2⟩ := info_parts intinfo
  have HU := Lib.hid hU
  have HN := Lib.hid hN
  clear hU hN hu
  go_enter Try.func18, Try.ntmps18
  go_wp2_with (first
    | (go_at_call 17; refine (HU.out _).mono ?_; rintro e w1 ⟨rfl, b1⟩)
    | (go_at_call 14; refine (HN.out _).mono ?_; rintro e w2 ⟨rfl, hw2⟩; subst hw2))
  go_loopw [7, 20] (fun u7 u20 wr => ∃ k : Nat, k ≤ N ∧ u20 = .int .i64 k ∧ wr.ownsRow w.heap.size 3 1 u7 k (idsV first k) ∧ Below w.heap.size w wr) (fun _ u20 _ => N - (intOf u20).toNat)
  case atStart => exact ⟨0, by omega, rfl, World.ownsRow_nil _ _ _ _, b1⟩
  case round =>
    obtain ⟨k, hk, rfl, hown, hB⟩ := hrel
    by_cases hlt : k < N
    · have HT := Lib.hid (idsV_succ first k)
      go_wp2_with (at_builtin
                   refine wpList_app rfl (.tmp 23) (.tmp 27) 35 rfl w.heap.size 3 i0 _ 1 8 Try.underlying35 hi0 hz0 hz1 hz2 rfl (by omega) u7 k _ rfl (own_frm hown (S := no) ((Frm.refl _ _).alloc _) (fun _ _ => id)) _ 1 1 [.int .i64 (first + k)] rfl (Rd.one _ _ _) rfl (one_int _ _) (by unfold maxLen; omega) (by omega) (by have := hB.size; simp; omega) ?_
                   intro v2 w2 hown2 hg2 hb2 hat2)
      go_roundw
      case rel => exact ⟨k + 1, by omega, by go_num, by rw [HT.out]; exact hown2, (hB.alloc hB.size _).trans hb2⟩
      case measure => simp [intOf]; omega
    · obtain rfl : k = N := by omega
      obtain ⟨A1, c1, rfl, hc1⟩ := own_form hown
      go_wp2
      go_ret2
      exact ⟨⟨A1, c1, rfl, hown⟩, hB⟩
end Go.Proofs.Ytejmpfmkaiaklaa
