/-
  What slices.Delete of one packet gives, on a row of the call's own. Conditions: the place is there; no more than a million.
-/
import Derived.Test.YtgigkekajdgngaaGreatNetA
import Derived.Test.YtgigkekajdgngaaGreatClear
import Derived.Deep.AppendLies
namespace Go.Proofs.YtgigkekajdgngaaGreat
open Go Go.RowKit
attribute [local go_sem] cell_set_if

theorem flatK_drop (ks : List Pk) (k : Nat) : (flatK ks).drop (k * 3) = flatK (ks.drop k) := by
  induction ks generalizing k with
  | nil => simp [flatK]
  | cons x ks ih =>
    cases k with
    | zero => simp
    | succ k =>
      rw [List.drop_succ_cons, ← ih k]
      rw [show (k + 1) * 3 = k * 3 + 1 + 1 + 1 by omega]
      rfl
theorem flatK_take (ks : List Pk) (k : Nat) : (flatK ks).take (k * 3) = flatK (ks.take k) := by
  induction ks generalizing k with
  | nil => simp [flatK]
  | cons x ks ih =>
    cases k with
    | zero => simp [flatK]
    | succ k =>
      rw [List.take_succ_cons]
      show ([Value.int .i64 x.src, Value.int .i64 x.dst, Value.string x.data] ++ flatK ks).take ((k + 1) * 3) = [Value.int .i64 x.src, Value.int .i64 x.dst, Value.string x.data] ++ flatK (ks.take k)
      rw [← ih k, show (k + 1) * 3 = k * 3 + 1 + 1 + 1 by omega]
      rfl
def zeroK : List Value := [.int .i64 0, .int .i64 0, .string ⟨#[]⟩]
theorem zeroK_cells : (Builtin.zeroCells (pkV noPk).cells 1).toList = zeroK := by first | kernel_rfl | rfl | decide | simp [Builtin.zeroCells, Value.cells, zeroK]

set_option maxRecDepth 100000 in
set_option maxHeartbeats 2000000 in
theorem kdelete_n (base g n c i j : Nat) (ks : List Pk) (w : World) (ho : w.ownsRow base 65 3 (.slice (some ⟨g, 0, none⟩) n c) n (flatK ks)) (hn : ks.length = n) (hij : j = i + 1) (hjn : j ≤ n) (hm : n ≤ 1000000) :
    Calls Tryz.prog 89 #[.slice (some ⟨g, 0, none⟩) n c, .int .i64 i, .int .i64 j] w fun e w' => e = .returned (.slice (some ⟨g, 0, none⟩) (i + (n - j)) c) ∧ w'.ownsRow base 65 3 (.slice (some ⟨g, 0, none⟩) (i + (n - j)) c) (i + (n - j)) (flatK (ks.take i ++ ks.drop j)) ∧ Frm (at1 g) w w' := by
  obtain ⟨i0, hi0, hz0, hz1, hz2⟩ := info_parts pkInfo
  obtain ⟨cur, hB, hbg, hnc, hcm, hcs, htk⟩ := own_open ho
  have hfl := flatK_len ks
  rw [hn] at hfl
  obtain ⟨news, hnews⟩ : ∃ news, news = (flatK ks).drop (j * 3) := ⟨_, rfl⟩
  have hnl : news.length = (n - j) * 3 := by rw [hnews, List.length_drop, hfl]; omega
  have hn1 : ∀ u ∈ news, u.oneCell' = true := fun u hu => flatK_one ks u (by rw [hnews] at hu; exact List.mem_of_mem_drop hu)
  have hcell : ∀ j, j < c * 3 → (w.cell? ⟨g, j, none⟩).isSome = true := fun j hj => by rw [hB.cell j, Array.getElem?_eq_getElem (by omega)]; rfl
  have hsrc0 : ∀ t u, news[t]? = some u → w.cell? ⟨g, j * 3 + t, none⟩ = some u := fun t u hu => by
    obtain ⟨ad, e, hc⟩ := Rd.of_own ho (j * 3 + t) u (by rw [hnews, List.getElem?_drop] at hu; exact hu)
    injection e with e; subst e
    rw [add_flat, Nat.zero_add] at hc; exact hc
  obtain ⟨A, hA, hsrc⟩ : ∃ A : Addr, (if c = j then (some (⟨g, 0, none⟩ : Addr)) else some ⟨g, j * 3, none⟩) = some A ∧ Hid (∀ t u, news[t]? = some u → w.drew.cell? (A.add t) = some u) := by
    by_cases h : c = j
    · refine ⟨⟨g, 0, none⟩, by simp [h], fun t u hu => ?_⟩
      have h0 : news.length = 0 := by rw [hnl]; omega
      rw [List.length_eq_zero_iff.1 h0] at hu
      simp at hu
    · refine ⟨⟨g, j * 3, none⟩, by simp [h], fun t u hu => ?_⟩
      rw [add_flat]
      exact hsrc0 t u hu
  obtain ⟨W1, hW1⟩ : ∃ W1, W1 = w.drew.setCells g (0 + i * 3) news := ⟨_, rfl⟩
  obtain ⟨L1, hL1⟩ : ∃ L1, L1 = splice cur.toList (0 + i * 3) news := ⟨_, rfl⟩
  have hB1 : Blk W1 g 65 L1.toArray := by rw [hW1, hL1]; exact Blk.cells_ news _ cur _ hB.drew (by rw [hnl, hcs]; omega)
  have hF1 : Frm (at1 g) w W1 := by rw [hW1]; exact ((Frm.refl _ w).drew).then_ (Frm.cells_ _ _ _)
  have hl1 : L1.length = c * 3 := by rw [hL1, splice_len (by rw [hnl, Array.length_toList, hcs]; omega), Array.length_toList, hcs]
  have hB2 : Blk (W1.setCells g ((i + (n - j)) * 3) zeroK) g 65 (splice L1 ((i + (n - j)) * 3) zeroK).toArray := Blk.cells_ zeroK _ L1.toArray W1 hB1 (by rw [List.size_toArray, hl1]; show (i + (n - j)) * 3 + 3 ≤ _; omega)
  have hO2 : (W1.setCells g ((i + (n - j)) * 3) zeroK).ownsRow base 65 3 (.slice (some ⟨g, 0, none⟩) (i + (n - j)) c) (i + (n - j)) (flatK (ks.take i ++ ks.drop j)) := by
    refine own_close hB2 hbg (by omega) hcm ?_ ?_
    · rw [List.size_toArray, splice_len (by rw [hl1]; show (i + (n - j)) * 3 + 3 ≤ _; omega), hl1]
    · show (splice L1 _ _).take _ = _
      have e1 : (splice L1 ((i + (n - j)) * 3) zeroK).take ((i + (n - j)) * 3) = L1.take ((i + (n - j)) * 3) := by
        show (L1.take ((i + (n - j)) * 3) ++ _).take ((i + (n - j)) * 3) = _
        rw [List.take_append_of_le_length (by rw [List.length_take, hl1]; omega), List.take_take, Nat.min_self]
      rw [e1, flatK_app, ← flatK_take, ← flatK_drop, ← hnews, hL1]
      unfold splice
      have e2 : cur.toList.take (0 + i * 3) = (flatK ks).take (i * 3) := by rw [← htk, List.take_take]; congr 1; omega
      rw [e2, ← List.append_assoc, List.take_append_of_le_length (by rw [List.length_append, hnl, List.length_take, hfl]; omega), List.take_of_length_le (by rw [List.length_append, hnl, List.length_take, hfl]; omega)]
  have hF2 : Frm (at1 g) w (W1.setCells g ((i + (n - j)) * 3) zeroK) := hF1.then_ (Frm.cells_ _ _ _)
  have hclr : ∀ ty, (Builtin.clear_ #[118] ty #[.slice (some ⟨g, (i + (n - j)) * 3, none⟩) (n - (i + (n - j))) (c - (i + (n - j)))]).run Tryz.prog W1 = .ok (.tuple #[]) (W1.setCells g ((i + (n - j)) * 3) zeroK) := fun ty => by
    rw [show n - (i + (n - j)) = 1 by omega]
    exact run_clear_sz W1 _ _ ty (pkV noPk) Tryz.underlying118 (by simp [zeroValue, typeInfo, hi0, hz0]; rfl) g _ 1 _ zeroK zeroK_cells (by omega) (by intro u hu; simp [zeroK] at hu; rcases hu with rfl | rfl <;> rfl)
      (fun t ht => by rw [hB1.cell, List.getElem?_toArray, List.getElem?_eq_getElem (by rw [hl1]; have : t < 3 := ht; omega)]; rfl)
      (fun t ht => hB1.free _)
  have HO2 := Lib.hid hO2
  have HF2 := Lib.hid hF2
  have HW1 := Lib.hid hW1
  have hfz : ∀ j, w.frozen? ⟨g, j, none⟩ = false := fun j => hB.free j
  have s1 := Lib.hid hnl
  have s2 := Lib.hid hn1
  have s3 : Hid (∀ t, t < news.length → (w.drew.cell? ⟨g, 0 + i * 3 + t, none⟩).isSome = true ∧ w.drew.frozen? ⟨g, 0 + i * 3 + t, none⟩ = false) := fun t ht => ⟨hcell _ (by rw [hnl] at ht; omega), hfz _⟩
  have hq : ((i : Int) == (j : Int)) = false := by rw [beq_eq_false_iff_ne]; omega
  have hic : i ≤ c := by omega
  have hjc : j ≤ c := by omega
  have hijl : i < j := by omega
  have hmi : (n : Int) ≤ 1000000 := by omega
  clear hO2 hF2 hB2 hl1 hF1 hB1 hW1 hL1 hcell hsrc0 hn1 hnl hfz hcs htk hB ho hfl hnews hij
  go_enter Tryz.func89, Tryz.ntmps89
  go_wp2
  go_region_law (refine step_append_room rfl (.tmp 22) (.tmp 25) 118 rfl 65 i0 3 Tryz.underlying118 hi0 hz1 g 0 i c (by simp [Act.eval, Act.put]) A (n - j) (c - j) news (by simp [Act.eval, Act.put]) s1.out hsrc.out s2.out (by omega) s3.out ?_; rw [← HW1.out])
  go_wp2
  go_ret
  exact ⟨rfl, HO2.out, HF2.out⟩
end Go.Proofs.YtgigkekajdgngaaGreat
