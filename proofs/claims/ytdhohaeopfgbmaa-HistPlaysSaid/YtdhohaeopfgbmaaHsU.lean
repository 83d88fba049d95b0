/-
  The document's log of any entries: Slice. Conditions: no more than a million entries.
-/
import Derived.Test.YtdhohaeopfgbmaaHsR
namespace Go.Proofs.Ytdhohaeopfgbmaa
open Go Go.RowKit
attribute [local go_sem] cell_set_if

/-- Of the first entries, those from an index on. -/
def sliceJ (idx : Int) (es : List En) (i : Int) (j : Nat) : List En := if i ≤ idx then [] else (es.take j).drop (i - idx - 1).toNat
theorem sliceJ_next {idx : Int} {es : List En} {i : Int} {j : Nat} {x : En} (hx : es[j]? = some x) : sliceJ idx es i (j + 1) = if idx < i ∧ i ≤ idx + j + 1 then sliceJ idx es i j ++ [x] else sliceJ idx es i j := by
  have hj := (List.getElem?_eq_some_iff.1 hx).1
  unfold sliceJ
  by_cases h1 : i ≤ idx
  · rw [if_pos h1, if_pos h1, if_neg (by omega)]
  · rw [if_neg h1, if_neg h1, List.take_add_one, hx]
    by_cases h2 : i ≤ idx + j + 1
    · rw [if_pos ⟨by omega, h2⟩, List.drop_append_of_le_length (by rw [List.length_take]; omega)]; rfl
    · rw [if_neg (by omega), List.drop_of_length_le (by rw [List.length_append, List.length_take]; show _ + 1 ≤ _; omega), List.drop_of_length_le (by rw [List.length_take]; omega)]
theorem sliceJ_all (idx : Int) (es : List En) (i m : Int) (h : ((sliceJ idx es i es.length).length : Int) ≤ max m 0) : sliceN idx es i m = sliceJ idx es i es.length := by
  unfold sliceJ at h ⊢
  unfold sliceN
  by_cases h1 : i ≤ idx
  · rw [if_pos h1, if_pos (.inl h1)]
  · rw [if_neg h1] at h ⊢
    rw [List.take_length] at h ⊢
    by_cases h2 : idx + es.length < i
    · rw [if_pos (.inr h2), List.drop_of_length_le (by omega)]
    · rw [if_neg (by omega), List.take_of_length_le (by omega)]
theorem sliceJ_cut (idx : Int) (es : List En) (i m : Int) (j : Nat) (hj : j ≤ es.length) (h : ((sliceJ idx es i j).length : Int) ≤ max m 0) (h2 : m ≤ (sliceJ idx es i j).length) : sliceN idx es i m = sliceJ idx es i j := by
  unfold sliceJ at h h2 ⊢
  unfold sliceN
  by_cases h1 : i ≤ idx
  · rw [if_pos h1, if_pos (.inl h1)]
  · rw [if_neg h1] at h h2 ⊢
    rw [List.length_drop, List.length_take] at h h2
    by_cases h3 : idx + es.length < i
    · rw [if_pos (.inr h3), List.drop_of_length_le (by rw [List.length_take]; omega)]
    · rw [if_neg (by omega), List.drop_take]
      by_cases h4 : (i - idx - 1).toNat ≤ j
      · rw [show m.toNat = j - (i - idx - 1).toNat by omega]
      · rw [show m.toNat = 0 by omega, show j - (i - idx - 1).toNat = 0 by omega]
/-- A list that shares its entries' commands. -/
inductive SliceEn (base : Nat) (e : Ending) (w' : World) (xs : List En) : Prop
  | mk (A : Option Addr) (n c : Nat) (hn : xs.length = n) (he : e = .returned (.slice A n c)) (ho : w'.ownsRow base 53 5 (.slice A n c) n (flatEn xs)) : SliceEn base e w' xs
set_option maxRecDepth 100000 in
set_option maxHeartbeats 4000000 in
theorem rslice_m (w : World) (base g : Nat) (idx trm : Int) (es : List En) (A : Option Addr) (c : Nat) (h : RefM w base g idx trm es A c) (i m : Int) :
    Calls Try.prog 34 #[.pointer (some ⟨g, 0, none⟩), .int .i64 i, .int .i64 m] w fun e w' => SliceEn w.heap.size e w' (sliceN idx es i m) ∧ Below w.heap.size w w' := by
  have HH := Lib.hid h
  have i0 := h.i0
  have i1 := h.i1
  have n1 := h.n1
  obtain ⟨n, hn⟩ : ∃ n, n = es.length := ⟨_, rfl⟩
  have c2 := h.blk.cell 2
  simp at c2
  rw [← hn] at c2 n1
  have HN := Lib.hid hn
  have hni : (n : Int) ≤ 1000000 := by omega
  obtain ⟨i0', hi0, hz0, hz1, hz2⟩ := info_parts enInfo
  clear h hn
  go_enter Try.func34, Try.ntmps34
  go_wp2
  go_loopw [7, 8] (fun u7 u8 wr => ∃ (j : Nat) (zs : List En), j ≤ n ∧ u8 = .int .i64 j ∧ Hid (zs = sliceJ idx es i j) ∧ Hid ((zs.length : Int) ≤ max m 0) ∧ zs.length ≤ j ∧ wr.ownsRow w.heap.size 53 5 u7 zs.length (flatEn zs) ∧ Below w.heap.size w wr) (fun _ u8 _ => n - (intOf u8).toNat)
  case atStart => exact ⟨0, [], by omega, rfl, by unfold Hid sliceJ; split <;> simp, by unfold Hid; simp; omega, Nat.le_refl _, World.ownsRow_nil _ _ _ _, Below.refl _ _⟩
  case round =>
    clear c2
    obtain ⟨j, zs, hj, rfl, HZ, HL, hzj, hown, hB⟩ := hrel
    obtain ⟨A2, c3, rfl, hc3⟩ := own_form hown
    have KR := HH.out.blk.below hB
    have c0 := KR.cell 0
    have c2 := KR.cell 2
    simp only [← HN.out] at c2
    simp at c0 c2
    obtain ⟨z, hz⟩ : ∃ z, z = zs.length := ⟨_, rfl⟩
    rw [← hz] at hown hzj HL hc3 ⊢
    have HZL := Lib.hid hz
    clear KR hz
    by_cases hlt : j < n
    · have t1 : decide ((j : Int) < (n : Int)) = true := decide_eq_true (by omega)
      have hji : (j : Int) < (n : Int) := by omega
      by_cases hm : (z : Int) < m
      · have t2 : decide ((z : Int) < m) = true := decide_eq_true hm
        obtain ⟨b', o', x, hA', hbb, hx, d0, d1, d2, d3, d4⟩ := (HH.out.rd.below hB).en (k := j) (by have := HN.out; omega)
        have hA'' : A = some ⟨b', o', none⟩ := hA'
        subst hA''
        have hix := HH.out.ix j x hx
        rw [hix] at d0
        have hnx := sliceJ_next (idx := idx) (i := i) hx
        have hix2 := Lib.hid hix
        by_cases h1 : i ≤ idx + j + 1
        · have t3 : decide (i ≤ idx + (j : Int) + 1) = true := decide_eq_true h1
          by_cases h2 : idx < i
          · have t4 : decide (idx < i) = true := decide_eq_true h2
            rw [if_pos ⟨h2, h1⟩, ← HZ.out] at hnx
            have HNX := Lib.hid hnx
            clear hnx hx hix hbb
            rw [← hix2.out] at d0
            go_upto_region 5 with fail
            rw [hix2.out] at d0
            go_upto_region 6 with fail
            rw [← hix2.out] at d0
            go_wp2_with (at_builtin
                         refine wpList_app rfl (.tmp 42) (.tmp 50) 41 rfl w.heap.size 53 i0' _ 5 56 Try.underlying41 hi0 hz0 hz1 hz2 rfl (by omega) (.slice A2 z c3) z _ rfl (hown.alloc _) _ 1 1 [.int .i64 x.index, .int .i64 x.term, .int .i64 x.client, .int .i64 x.seq, .slice x.A x.n x.c] rfl (by simpa using Rd.new wr #[.int .i64 x.index, .int .i64 x.term, .int .i64 x.client, .int .i64 x.seq, .slice x.A x.n x.c] 53) rfl (by simp [Value.oneCell']) (by unfold maxLen; omega) (by omega) (by have := hB.size; simp; omega) ?_
                         intro v5 w5 hown5 hg5 hb5 hat5)
            go_roundw
            case rel =>
              refine ⟨j + 1, zs ++ [x], by omega, by go_num, HNX.out.symm, ?_, by rw [List.length_append]; have := HZL.out; show _ + 1 ≤ _; omega, ?_, (hB.alloc hB.size _).trans hb5⟩
              · unfold Hid; rw [List.length_append, ← HZL.out]; show ((z + 1 : Nat) : Int) ≤ _; omega
              · rw [flatEn_app, List.length_append, ← HZL.out]; exact hown5
            case measure => simp [intOf]; omega
          · have t4 : decide (idx < i) = false := decide_eq_false h2
            rw [if_neg (by omega), ← HZ.out] at hnx
            have HNX := Lib.hid hnx
            clear hnx hx hix hbb
            go_wp2
            go_roundw
            case rel => exact ⟨j + 1, zs, by omega, by go_num, HNX.out.symm, by unfold Hid; rw [← HZL.out]; exact HL.out, by rw [← HZL.out]; omega, by rw [← HZL.out]; exact hown, hB⟩
            case measure => simp [intOf]; omega
        · have t3 : decide (i ≤ idx + (j : Int) + 1) = false := decide_eq_false h1
          rw [if_neg (by omega), ← HZ.out] at hnx
          have HNX := Lib.hid hnx
          clear hnx hx hix hbb
          go_wp2
          go_roundw
          case rel => exact ⟨j + 1, zs, by omega, by go_num, HNX.out.symm, by unfold Hid; rw [← HZL.out]; exact HL.out, by rw [← HZL.out]; omega, by rw [← HZL.out]; exact hown, hB⟩
          case measure => simp [intOf]; omega
      · have t2 : decide ((z : Int) < m) = false := decide_eq_false hm
        have HF : Hid (sliceN idx es i m = zs) := by
          have h1 := HL.out
          have h2 := HZL.out
          have h3 := HN.out
          unfold Hid
          rw [HZ.out] at h2 ⊢
          exact sliceJ_cut idx es i m j (by omega) (by omega) (by omega)
        go_wp2
        go_ret
        exact ⟨⟨A2, z, c3, by rw [HF.out]; exact HZL.out.symm, rfl, by rw [HF.out]; exact hown⟩, hB⟩
    · obtain rfl : j = n := by omega
      have t1 : decide ((j : Int) < (j : Int)) = false := decide_eq_false (by omega)
      have HF : Hid (sliceN idx es i m = zs) := by
        have h1 := HL.out
        have h2 := HZL.out
        have h3 := HN.out
        unfold Hid
        rw [HZ.out, h3] at h2 ⊢
        exact sliceJ_all idx es i m (by omega)
      go_wp2
      go_ret
      exact ⟨⟨A2, z, c3, by rw [HF.out]; exact HZL.out.symm, rfl, by rw [HF.out]; exact hown⟩, hB⟩
end Go.Proofs.Ytdhohaeopfgbmaa
