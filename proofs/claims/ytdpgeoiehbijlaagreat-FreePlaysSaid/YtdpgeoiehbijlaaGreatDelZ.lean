/-
  slices.Delete of ints, on a row of the call's own. Condition: no more than a million.
-/
import Derived.Test.YtdpgeoiehbijlaaGreatClear
import Derived.Test.YtdpgeoiehbijlaaGreatOne
import Derived.Deep.AppendLies
namespace Go.Proofs.YtdpgeoiehbijlaaGreat
open Go Go.RowKit
attribute [local go_sem] cell_set_if

theorem flatZ_take (ks : List Int) (k : Nat) : (flatZ ks).take k = flatZ (ks.take k) := by rw [flatZ_map, flatZ_map, List.map_take]
theorem flatZ_drop (ks : List Int) (k : Nat) : (flatZ ks).drop k = flatZ (ks.drop k) := by rw [flatZ_map, flatZ_map, List.map_drop]

set_option maxRecDepth 100000 in
set_option maxHeartbeats 2000000 in
theorem zdelete_any (base g n c i j m : Nat) (ks : List Int) (w : World) (ho : w.ownsRow base 3 1 (.slice (some ⟨g, 0, none⟩) n c) n (flatZ ks)) (hn : ks.length = n) (hij : i < j) (hjn : j ≤ n) (hm : n ≤ 1000000) (hmm : m = i + (n - j)) :
    Calls Tryz.prog 31 #[.slice (some ⟨g, 0, none⟩) n c, .int .i64 i, .int .i64 j] w fun e w' => e = .returned (.slice (some ⟨g, 0, none⟩) m c) ∧ w'.ownsRow base 3 1 (.slice (some ⟨g, 0, none⟩) m c) m (flatZ (ks.take i ++ ks.drop j)) ∧ Frm (at1 g) w w' := by
  subst hmm
  obtain ⟨i0, hi0, hz0, hz1, hz2⟩ := info_parts zinfo
  obtain ⟨cur, hB, hbg, hnc, hcm, hcs, htk⟩ := own_open ho
  rw [Nat.mul_one] at hcs htk
  have hfl := flatZ_len ks
  rw [hn, Nat.mul_one] at hfl
  obtain ⟨news, hnews⟩ : ∃ news, news = (flatZ ks).drop j := ⟨_, rfl⟩
  have hnl : news.length = (n - j) * 1 := by rw [hnews, List.length_drop, hfl]; omega
  have hn1 : ∀ u ∈ news, u.oneCell' = true := fun u hu => flatZ_one ks u (by rw [hnews] at hu; exact List.mem_of_mem_drop hu)
  have hcell : ∀ j, j < c → (w.cell? ⟨g, j, none⟩).isSome = true := fun j hj => by rw [hB.cell j, Array.getElem?_eq_getElem (by omega)]; rfl
  have hsrc0 : ∀ t u, news[t]? = some u → w.cell? ⟨g, j + t, none⟩ = some u := fun t u hu => by
    obtain ⟨ad, e, hc⟩ := Rd.of_own ho (j + t) u (by rw [hnews, List.getElem?_drop] at hu; exact hu)
    injection e with e; subst e
    rw [add_flat, Nat.zero_add] at hc; exact hc
  obtain ⟨A, hA, hsrc⟩ : ∃ A : Addr, (if c = j then (some (⟨g, 0, none⟩ : Addr)) else some ⟨g, j, none⟩) = some A ∧ Hid (∀ t u, news[t]? = some u → w.drew.cell? (A.add t) = some u) := by
    by_cases h : c = j
    · refine ⟨⟨g, 0, none⟩, by simp [h], fun t u hu => ?_⟩
      have h0 : news.length = 0 := by rw [hnl]; omega
      rw [List.length_eq_zero_iff.1 h0] at hu
      simp at hu
    · refine ⟨⟨g, j, none⟩, by simp [h], fun t u hu => ?_⟩
      rw [add_flat]
      exact hsrc0 t u hu
  obtain ⟨W1, hW1⟩ : ∃ W1, W1 = w.drew.setCells g (0 + i * 1) news := ⟨_, rfl⟩
  obtain ⟨L1, hL1⟩ : ∃ L1, L1 = splice cur.toList (0 + i * 1) news := ⟨_, rfl⟩
  have hB1 : Blk W1 g 3 L1.toArray := by rw [hW1, hL1]; exact Blk.cells_ (w := w) news _ cur _ hB.drew (by rw [hnl, hcs]; omega)
  have hF1 : Frm (at1 g) w W1 := by rw [hW1]; exact ((Frm.refl _ w).drew).then_ (Frm.cells_ _ _ _)
  have hl1 : L1.length = c := by rw [hL1, splice_len (by rw [hnl, Array.length_toList, hcs]; omega), Array.length_toList, hcs]
  obtain ⟨zs, hzs⟩ : ∃ zs : List Value, zs = List.replicate (j - i) (.int .i64 0) := ⟨_, rfl⟩
  have hzl : zs.length = j - i := by rw [hzs]; simp
  have hB2 : Blk (W1.setCells g (i + (n - j)) zs) g 3 (splice L1 (i + (n - j)) zs).toArray := Blk.cells_ (w := w) zs _ L1.toArray W1 hB1 (by rw [List.size_toArray, hl1, hzl]; omega)
  have hO2 : (W1.setCells g (i + (n - j)) zs).ownsRow base 3 1 (.slice (some ⟨g, 0, none⟩) (i + (n - j)) c) (i + (n - j)) (flatZ (ks.take i ++ ks.drop j)) := by
    refine own_close hB2 hbg (by omega) hcm ?_ ?_
    · rw [List.size_toArray, splice_len (by rw [hl1, hzl]; omega), hl1, Nat.mul_one]
    · show (splice L1 _ _).take _ = _
      rw [Nat.mul_one]
      have e1 : (splice L1 (i + (n - j)) zs).take (i + (n - j)) = L1.take (i + (n - j)) := by
        show (L1.take (i + (n - j)) ++ _).take (i + (n - j)) = _
        rw [List.take_append_of_le_length (by rw [List.length_take, hl1]; omega), List.take_take, Nat.min_self]
      rw [e1, flatZ_app, ← flatZ_take, ← flatZ_drop, ← hnews, hL1]
      unfold splice
      have e2 : cur.toList.take (0 + i * 1) = (flatZ ks).take i := by rw [← htk, List.take_take]; congr 1; omega
      rw [e2, ← List.append_assoc, List.take_append_of_le_length (by rw [List.length_append, hnl, List.length_take, hfl]; omega), List.take_of_length_le (by rw [List.length_append, hnl, List.length_take, hfl]; omega)]
  have hF2 : Frm (at1 g) w (W1.setCells g (i + (n - j)) zs) := hF1.then_ (Frm.cells_ _ _ _)
  have hclr : ∀ ty, (Builtin.clear_ #[22] ty #[.slice (some ⟨g, i + (n - j), none⟩) (n - (i + (n - j))) (c - (i + (n - j)))]).run Tryz.prog W1 = .ok (.tuple #[]) (W1.setCells g (i + (n - j)) zs) := fun ty => by
    rw [show n - (i + (n - j)) = j - i by omega]
    refine run_clear_sz W1 _ _ ty (.int .i64 0) Tryz.underlying22 (by simp [zeroValue, typeInfo, hi0, hz0]) g _ _ _ zs ?_ (by omega) (by intro u hu; rw [hzs] at hu; rw [List.eq_of_mem_replicate hu]; rfl)
      (fun t ht => by rw [hB1.cell, List.getElem?_toArray, List.getElem?_eq_getElem (by rw [hl1]; rw [hzl] at ht; omega)]; rfl)
      (fun t ht => hB1.free _)
    rw [hzs]; simp [Builtin.zeroCells, Value.cells, Nat.mod_one, List.map_const']
  have HO2 := Lib.hid hO2
  have HF2 := Lib.hid hF2
  have HW1 := Lib.hid hW1
  have hfz : ∀ j, w.frozen? ⟨g, j, none⟩ = false := fun j => hB.free j
  have s1 := Lib.hid hnl
  have s2 := Lib.hid hn1
  have s3 : Hid (∀ t, t < news.length → (w.drew.cell? ⟨g, 0 + i * 1 + t, none⟩).isSome = true ∧ w.drew.frozen? ⟨g, 0 + i * 1 + t, none⟩ = false) := fun t ht => ⟨hcell _ (by rw [hnl] at ht; omega), hfz _⟩
  have hq : ((i : Int) == (j : Int)) = false := by rw [beq_eq_false_iff_ne]; omega
  have hic : i ≤ c := by omega
  have hjc : j ≤ c := by omega
  have hmi : (n : Int) ≤ 1000000 := by omega
  clear hO2 hF2 hB2 hl1 hF1 hB1 hW1 hL1 hcell hsrc0 hn1 hnl hfz hcs htk hB ho hfl hnews hzl hzs
  go_enter Tryz.func31, Tryz.ntmps31
  go_wp2
  go_region_law (refine step_append_room rfl (.tmp 22) (.tmp 25) 22 rfl 3 i0 1 Tryz.underlying22 hi0 hz1 g 0 i c (by simp [Act.eval, Act.put]) A (n - j) (c - j) news (by simp [Act.eval, Act.put]) s1.out hsrc.out s2.out (by omega) s3.out ?_; rw [← HW1.out])
  go_wp2_with ((at_builtin; (refine wpList_clear_run _ rfl (.tmp 31) 22 rfl _ rfl _ _ (hclr _) ?_)))
  go_ret
  exact ⟨rfl, HO2.out, HF2.out⟩
end Go.Proofs.YtdpgeoiehbijlaaGreat
