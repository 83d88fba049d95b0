/-
  free.List's Pages, Free, Pending and All, and Need: what they give. Conditions: the list is in order.
-/
import Derived.Test.YtdpgeoiehbijlaaGreatFreeG
import Derived.Test.YtdpgeoiehbijlaaGreatSortNil
import Derived.Test.YtdpgeoiehbijlaaGreatOne
namespace Go.Proofs.YtdpgeoiehbijlaaGreat
open Go Go.RowKit
attribute [local go_sem] cell_set_if

/-- Ints of the call's own. -/
def GivesZ (base : Nat) (l : List Int) (e : Ending) (w' : World) : Prop := ∃ A c, e = .returned (.slice A l.length c) ∧ w'.ownsRow base 3 1 (.slice A l.length c) l.length (flatZ l)
theorem fpages_any (base g : Nat) (s : Fs) (v1 v2 : Value) (w : World) (h : FreeAt w base g s v1 v2) :
    Calls Tryz.prog 25 #[.pointer (some ⟨g, 0, none⟩)] w fun e w' => e = .returned (.int .i64 s.pages) ∧ w' = w := by
  have c0 := h.blk.cell 0
  simp only [List.getElem?_toArray, List.getElem?_cons_zero] at c0
  clear h
  go_enter Tryz.func25, Tryz.ntmps25
  go_wp2
  go_ret
  exact ⟨rfl, rfl⟩
set_option maxRecDepth 100000 in
theorem ffree_any (base g : Nat) (s : Fs) (v1 v2 : Value) (w : World) (h : FreeAt w base g s v1 v2) (hm : s.fr.length ≤ 4000) :
    Calls Tryz.prog 18 #[.pointer (some ⟨g, 0, none⟩)] w fun e w' => GivesZ w.heap.size s.fr e w' ∧ Below w.heap.size w w' := by
  obtain ⟨A1, c1, A2, c2, hv1, hv2, r1, _, _, _⟩ := h.reads
  have c0 : w.cell? ⟨g, 1, none⟩ = some (.slice A1 s.fr.length c1) := by rw [← hv1]; exact h.blk.cell 1
  have HC := Lib.hid (cloneZ_any w A1 s.fr.length c1 s.fr r1 rfl (by omega))
  clear h hv1 hv2 r1
  go_enter Tryz.func18, Tryz.ntmps18
  go_wp2_with (go_at_call 29; refine HC.out.mono ?_; rintro e w2 ⟨⟨B2, d2, rfl, o2⟩, b2⟩)
  go_ret
  exact ⟨⟨B2, d2, rfl, o2⟩, b2⟩
/-- What is pending of the first k. -/
def outK (p : Int → Bool) (pd : List (Int × Int)) (k : Nat) : List Int := idsP ((pd.take k).filter fun q => p q.1)
theorem outK_yes {p : Int → Bool} {pd : List (Int × Int)} {k : Nat} {x : Int × Int} (hx : pd[k]? = some x) (h : p x.1 = true) : outK p pd (k + 1) = outK p pd k ++ [x.2] := by
  unfold outK idsP; rw [List.take_add_one, hx, List.filter_append, List.map_append]; simp [h]
theorem outK_no {p : Int → Bool} {pd : List (Int × Int)} {k : Nat} {x : Int × Int} (hx : pd[k]? = some x) (h : p x.1 = false) : outK p pd (k + 1) = outK p pd k := by
  unfold outK idsP; rw [List.take_add_one, hx, List.filter_append, List.map_append]; simp [h]
theorem outK_all (p : Int → Bool) (s : Fs) : outK p s.pd s.pd.length = outS p s := by unfold outK outS; rw [List.take_length]
theorem outK_len (p : Int → Bool) (pd : List (Int × Int)) (k : Nat) : (outK p pd k).length ≤ k := by
  unfold outK idsP; rw [List.length_map]
  exact Nat.le_trans (List.length_filter_le _ _) (by rw [List.length_take]; omega)
set_option maxRecDepth 100000 in
set_option maxHeartbeats 4000000 in
theorem fpend_any (base g : Nat) (s : Fs) (tx : Int) (v1 v2 : Value) (w : World) (h : FreeAt w base g s v1 v2) (hm : s.pd.length ≤ 4000) :
    Calls Tryz.prog 19 #[.pointer (some ⟨g, 0, none⟩), .int .i64 tx] w fun e w' => GivesZ w.heap.size (pendS s tx) e w' ∧ Below w.heap.size w w' := by
  obtain ⟨i0, hi0, hz0, hz1, hz2⟩ := info_parts zinfo
  obtain ⟨A1, c1, A2, c2, hv1, hv2, _, r2, _, _⟩ := h.reads
  obtain ⟨n, hn⟩ : ∃ n, n = s.pd.length := ⟨_, rfl⟩
  have c0 : w.cell? ⟨g, 2, none⟩ = some (.slice A2 n c2) := by rw [hn, ← hv2]; exact h.blk.cell 2
  have HR := Lib.hid r2
  have HN := Lib.hid hn
  have hni : (n : Int) ≤ 4000 := by omega
  clear h hv1 hv2 r2 hn hm
  go_enter Tryz.func19, Tryz.ntmps19
  go_wp2
  go_loopw [5, 15] (fun u5 u15 wr => ∃ (k m : Nat), k ≤ n ∧ u15 = .int .i64 k ∧ Hid ((outK (fun t => t == tx) s.pd k).length = m) ∧ m ≤ k ∧ Hid (wr.ownsRow w.heap.size 3 1 u5 m (flatZ (outK (fun t => t == tx) s.pd k))) ∧ Hid (Below w.heap.size w wr)) (fun _ u15 _ => n - (intOf u15).toNat)
  case atStart => exact ⟨0, 0, by omega, rfl, rfl, by omega, World.ownsRow_nil _ _ _ _, Below.refl _ _⟩
  case round =>
    obtain ⟨k, m, hk, rfl, HL, hmk, HO, HB⟩ := hrel
    by_cases hlt : k < n
    · obtain ⟨b1, o1, x, rfl, _, hx, d0, d1⟩ := (HR.out.below HB.out).pair (k := k) (by have := HN.out; omega)
      have hki : (k : Int) < (n : Int) := by omega
      have K := Blk.new wr 71 #[.int .i64 x.1, .int .i64 x.2]
      by_cases hxt : x.1 = tx
      · have HE : Hid (outK (fun t => t == tx) s.pd (k + 1) = outK (fun t => t == tx) s.pd k ++ [x.2]) := outK_yes hx (by simpa using hxt)
        have hb : (x.1 == tx) = true := by simpa using hxt
        have hd : decide (x.1 = tx) = true := decide_eq_true hxt
        obtain ⟨x1, x2⟩ := x
        simp only at hxt d0 d1 K HE hb hd ⊢
        subst hxt
        have O2 := HO.out.alloc (.cells #[.int .i64 x1, .int .i64 x2] 71)
        have hW := HB.out.alloc HB.out.size (.cells #[.int .i64 x1, .int .i64 x2] 71)
        have RN : Rd ((wr.alloc (.cells #[.int .i64 x1, .int .i64 x2] 71)).alloc (.cells #[.int .i64 x2] 3)) (some ⟨wr.heap.size + 1, 0, none⟩) [.int .i64 x2] := by
          have := Rd.one (wr.alloc (.cells #[.int .i64 x1, .int .i64 x2] 71)) (.int .i64 x2) 3
          simpa using this
        have HW := Lib.hid hW
        clear hx hW
        go_wp2_with (first
          | (at_builtin
             refine wpList_app rfl (.tmp 23) (.tmp 26) 22 rfl w.heap.size 3 i0 _ 1 8 Tryz.underlying22 hi0 hz0 hz1 hz2 rfl (by omega) u5 m _ rfl (O2.alloc _) _ 1 1 [.int .i64 x2] rfl RN rfl (by simp [Value.oneCell']) (by unfold maxLen; omega) (by omega) (by have := HB.out.size; simp; omega) ?_
             intro v3 w3 ho3 hg3 hb3 hat3))
        go_roundw
        case rel => exact ⟨k + 1, m + 1, by omega, by go_num, by unfold Hid; rw [HE.out, List.length_append, HL.out]; rfl, by omega, by rw [HE.out, flatZ_app]; exact ho3, (HW.out.alloc HW.out.size _).trans hb3⟩
        case measure => simp [intOf]; omega
      · have HE : Hid (outK (fun t => t == tx) s.pd (k + 1) = outK (fun t => t == tx) s.pd k) := outK_no hx (by simpa using hxt)
        have hb : (x.1 == tx) = false := by simpa using hxt
        have hd : decide (x.1 = tx) = false := decide_eq_false hxt
        clear hx
        go_wp2
        go_roundw
        case rel => exact ⟨k + 1, m, by omega, by go_num, by rw [HE.out]; exact HL, by omega, by rw [HE.out]; exact HO.out.alloc _, HB.out.alloc HB.out.size _⟩
        case measure => simp [intOf]; omega
    · obtain rfl : n = k := by omega
      have hall : outK (fun t => t == tx) s.pd n = outS (fun t => t == tx) s := by rw [HN.out]; exact outK_all _ _
      obtain ⟨B, d, rfl, hd⟩ := own_form HO.out
      have HS := Lib.hid (sortO_any w.heap.size m d B (outK (fun t => t == tx) s.pd n) wr HL.out HO.out (by omega))
      have HL2 : Hid ((pendS s tx).length = m) := by unfold Hid pendS; rw [sortZ_len, ← hall]; exact HL.out
      have HE : Hid (sortZ (outK (fun t => t == tx) s.pd n) = pendS s tx) := by unfold Hid pendS; rw [hall]
      clear hall
      go_wp2_with (go_at_call 35; refine HS.out.mono ?_; rintro e w5 ⟨rfl, o5, F5⟩)
      go_ret
      exact ⟨⟨B, d, by (rw [HL2.out]) <;> rfl, by rw [HL2.out, ← HE.out]; exact o5⟩, below_frm HB.out F5 (Nat.le_refl _) (fun i hi => (HO.out.lt i hi).1)⟩
theorem idsP_next {pd : List (Int × Int)} {k : Nat} {x : Int × Int} (hx : pd[k]? = some x) : idsP (pd.take (k + 1)) = idsP (pd.take k) ++ [x.2] := by
  unfold idsP; rw [List.take_add_one, hx, List.map_append]; rfl
set_option maxRecDepth 100000 in
set_option maxHeartbeats 4000000 in
theorem fall_any (base g : Nat) (s : Fs) (v1 v2 : Value) (w : World) (h : FreeAt w base g s v1 v2) (hm1 : s.fr.length ≤ 4000) (hm2 : s.pd.length ≤ 4000) :
    Calls Tryz.prog 20 #[.pointer (some ⟨g, 0, none⟩)] w fun e w' => GivesZ w.heap.size (allS s) e w' ∧ Below w.heap.size w w' := by
  obtain ⟨i0, hi0, hz0, hz1, hz2⟩ := info_parts zinfo
  obtain ⟨A1, c1, A2, c2, hv1, hv2, r1, r2, _, _⟩ := h.reads
  obtain ⟨n, hn⟩ : ∃ n, n = s.pd.length := ⟨_, rfl⟩
  obtain ⟨f, hf⟩ : ∃ f, f = s.fr.length := ⟨_, rfl⟩
  have c0 : w.cell? ⟨g, 2, none⟩ = some (.slice A2 n c2) := by rw [hn, ← hv2]; exact h.blk.cell 2
  have k0 : w.cell? ⟨g, 1, none⟩ = some (.slice A1 f c1) := by rw [hf, ← hv1]; exact h.blk.cell 1
  have HR := Lib.hid r2
  have HN := Lib.hid hn
  have HFF := Lib.hid hf
  have HC := Lib.hid (cloneZ_any w A1 f c1 s.fr r1 hf.symm (by omega))
  have hni : (n : Int) ≤ 4000 := by omega
  have hfi : f ≤ 4000 := by omega
  clear h hv1 hv2 r1 r2 hn hm1 hm2 hf
  go_enter Tryz.func20, Tryz.ntmps20
  go_wp2_with (go_at_call 29; refine HC.out.mono ?_; rintro e w2 ⟨⟨B2, d2, rfl, o2⟩, b2⟩; have c2 := cell_b b2 c0)
  go_loopw [3, 18] (fun u3 u18 wr => ∃ (k : Nat), k ≤ n ∧ u18 = .int .i64 k ∧ Hid (wr.ownsRow w.heap.size 3 1 u3 (f + k) (flatZ (s.fr ++ idsP (s.pd.take k)))) ∧ Hid (Below w.heap.size w wr)) (fun _ u18 _ => n - (intOf u18).toNat)
  case atStart => exact ⟨0, by omega, rfl, by unfold Hid; rw [List.take_zero, show idsP [] = [] from rfl, List.append_nil]; exact o2, b2⟩
  case round =>
    obtain ⟨k, hk, rfl, HO, HB⟩ := hrel
    by_cases hlt : k < n
    · obtain ⟨b1, o1, x, rfl, _, hx, d0, d1⟩ := (HR.out.below HB.out).pair (k := k) (by have := HN.out; omega)
      have hki : (k : Int) < (n : Int) := by omega
      have K := Blk.new wr 71 #[.int .i64 x.1, .int .i64 x.2]
      have HE : Hid (s.fr ++ idsP (s.pd.take (k + 1)) = s.fr ++ idsP (s.pd.take k) ++ [x.2]) := by unfold Hid; rw [idsP_next hx, List.append_assoc]
      obtain ⟨x1, x2⟩ := x
      simp only at d0 d1 K HE ⊢
      have O2 := HO.out.alloc (.cells #[.int .i64 x1, .int .i64 x2] 71)
      have hW := HB.out.alloc HB.out.size (.cells #[.int .i64 x1, .int .i64 x2] 71)
      have RN : Rd ((wr.alloc (.cells #[.int .i64 x1, .int .i64 x2] 71)).alloc (.cells #[.int .i64 x2] 3)) (some ⟨wr.heap.size + 1, 0, none⟩) [.int .i64 x2] := by
        have := Rd.one (wr.alloc (.cells #[.int .i64 x1, .int .i64 x2] 71)) (.int .i64 x2) 3
        simpa using this
      have HW := Lib.hid hW
      clear hx hW
      go_wp2_with (first
        | (at_builtin
           refine wpList_app rfl (.tmp 22) (.tmp 25) 22 rfl w.heap.size 3 i0 _ 1 8 Tryz.underlying22 hi0 hz0 hz1 hz2 rfl (by omega) u3 (f + k) _ rfl (O2.alloc _) _ 1 1 [.int .i64 x2] rfl RN rfl (by simp [Value.oneCell']) (by unfold maxLen; omega) (by omega) (by have := HB.out.size; simp; omega) ?_
           intro v3 w3 ho3 hg3 hb3 hat3))
      go_roundw
      case rel => exact ⟨k + 1, by omega, by go_num, by rw [HE.out, flatZ_app]; exact ho3, (HW.out.alloc HW.out.size _).trans hb3⟩
      case measure => simp [intOf]; omega
    · obtain rfl : n = k := by omega
      have hall : s.fr ++ idsP (s.pd.take n) = s.fr ++ idsP s.pd := by rw [HN.out, List.take_length]
      have hlen : (s.fr ++ idsP (s.pd.take n)).length = f + n := by rw [hall, List.length_append, ← HFF.out]; unfold idsP; rw [List.length_map, ← HN.out]
      obtain ⟨m, hmm⟩ : ∃ m, m = f + n := ⟨_, rfl⟩
      have ho := HO.out
      rw [← hmm] at hlen ho
      obtain ⟨B, d, rfl, hd⟩ := own_form ho
      have HS := Lib.hid (sortO_any w.heap.size m d B _ wr hlen ho (by omega))
      have HL2 : Hid ((allS s).length = m) := by unfold Hid allS; rw [sortZ_len, ← hall]; exact hlen
      have HE : Hid (sortZ (s.fr ++ idsP (s.pd.take n)) = allS s) := by unfold Hid allS; rw [hall]
      have HOO := Lib.hid ho
      clear hall hlen ho hmm
      go_wp2_with (go_at_call 35; refine HS.out.mono ?_; rintro e w5 ⟨rfl, o5, F5⟩)
      go_ret
      exact ⟨⟨B, d, by (rw [HL2.out]) <;> rfl, by rw [HL2.out, ← HE.out]; exact o5⟩, below_frm HB.out F5 (Nat.le_refl _) (fun i hi => (HOO.out.lt i hi).1)⟩
theorem fneed_any (n : Nat) (hn : n ≤ 100000) (w : World) :
    Calls Tryz.prog 27 #[.int .i64 n] w fun e w' => e = .returned (.int .i64 (((n + 112) / 113 : Nat) : Int)) ∧ w' = w := by
  by_cases h0 : n = 0
  · subst h0
    go_enter Tryz.func27, Tryz.ntmps27
    go_wp2
    go_ret
    exact ⟨rfl, rfl⟩
  · obtain ⟨m, rfl⟩ : ∃ m, n = m + 1 := ⟨n - 1, by omega⟩
    have h1 : ((m + 1 : Nat) : Int) - 1 = (m : Int) := by omega
    have h2 : Int.tdiv (m : Int) 113 = ((m / 113 : Nat) : Int) := by rw [Int.tdiv_eq_ediv_of_nonneg (by omega)]; omega
    have h3 : ((m / 113 : Nat) : Int) + 1 = (((m + 1 + 112) / 113 : Nat) : Int) := by omega
    obtain ⟨q, hq⟩ : ∃ q, q = m / 113 := ⟨_, rfl⟩
    rw [← hq] at h2 h3
    have hq1 : (q : Int) ≤ 1000 := by omega
    have hq0 : (0 : Int) ≤ (q : Int) := by omega
    have hm : (m : Int) + 1 ≤ 100000 := by omega
    have hm0 : (0 : Int) ≤ (m : Int) := by omega
    have hd : decide ((m : Int) + 1 < 1) = false := decide_eq_false (by omega)
    have H3 := Lib.hid h3
    clear h3 hq h0 hn
    go_enter Tryz.func27, Tryz.ntmps27
    go_wp2
    go_ret
    exact ⟨by (rw [← H3.out]) <;> rfl, rfl⟩
end Go.Proofs.YtdpgeoiehbijlaaGreat
