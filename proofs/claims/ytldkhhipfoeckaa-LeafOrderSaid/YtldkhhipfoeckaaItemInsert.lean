/-
  What Insert of one item gives, on a row of the call's own. Conditions: the item lies in a block of its own; no more items than a million.
-/
import Derived.Test.YtldkhhipfoeckaaItemPut
namespace Go.Proofs.Ytldkhhipfoeckaa
open Go Go.RowKit
attribute [local go_sem] cell_set_if

/-- At the end. -/
theorem iinsert_end (base n c : Nat) (A : Option Addr) (b : Nat) (x : Im) (ks : List Im) (w : World) (ho : w.ownsRow base 108 3 (.slice A n c) n (flatI ks)) (hb : Blk w b 108 #[.string x.key, .string x.val, .int .i64 x.kind]) (hlo : base ≤ w.heap.size) (hm : n ≤ 1000000) :
    Calls Try.prog 132 #[.slice A n c, .int .i64 n, .slice (some ⟨b, 0, none⟩) 1 1] w fun e w' => ∃ B d, e = .returned (.slice B (n + 1) d) ∧ w'.ownsRow base 108 3 (.slice B (n + 1) d) (n + 1) (flatI (ks ++ [x])) ∧ Below base w w' := by
  obtain ⟨i0, hi0, hz0, hz1, hz2⟩ := info_parts iteminfo
  have hnc : n ≤ c := by
    obtain ⟨B, d, hv, h⟩ := own_form ho
    injection hv with _ _ e3
    omega
  have hnci : (n : Int) ≤ (c : Int) := by omega
  have hmi : (n : Int) ≤ 1000000 := by omega
  have hsrc : Rd w (some ⟨b, 0, none⟩) [.string x.key, .string x.val, .int .i64 x.kind] := Rd.row fun j u hu => by
    rw [Nat.zero_add, hb.cell j]
    simpa using hu
  have HX : Hid (flatI ks ++ [.string x.key, .string x.val, .int .i64 x.kind] = flatI (ks ++ [x])) := by unfold Hid; rw [flatI_app]; rfl
  have HO := Lib.hid ho
  have hq : ((n : Int) == (n : Int)) = true := by simp
  clear ho hb
  by_cases hcn : c = n
  · obtain rfl : n = c := hcn.symm
    go_enter Try.func132, Try.ntmps132
    go_wp2_with (at_builtin
                 refine wpList_app rfl (.tmp 23) (.tmp 24) 96 rfl base 108 i0 _ 3 40 Try.underlying96 hi0 hz0 hz1 hz2 rfl (by omega) (.slice A n n) n (flatI ks) rfl HO.out _ 1 1 _ rfl hsrc rfl (by simp [Value.oneCell']) (by unfold maxLen; omega) (by omega) hlo ?_
                 intro v5 w5 hown5 hg5 hb5 hat5
                 rw [HX.out] at hown5
                 obtain ⟨A5, c5, rfl, hc5⟩ := own_form hown5)
    go_ret
    exact ⟨A5, c5, rfl, hown5, hb5⟩
  · have hcn2 : (n : Int) < (c : Int) := by omega
    go_enter Try.func132, Try.ntmps132
    go_wp2_with (at_builtin
                 refine wpList_app rfl (.tmp 23) (.tmp 24) 96 rfl base 108 i0 _ 3 40 Try.underlying96 hi0 hz0 hz1 hz2 rfl (by omega) (.slice A n c) n (flatI ks) rfl HO.out _ 1 1 _ rfl hsrc rfl (by simp [Value.oneCell']) (by unfold maxLen; omega) (by omega) hlo ?_
                 intro v5 w5 hown5 hg5 hb5 hat5
                 rw [HX.out] at hown5
                 obtain ⟨A5, c5, rfl, hc5⟩ := own_form hown5)
    go_ret
    exact ⟨A5, c5, rfl, hown5, hb5⟩

theorem overlaps_no (w : World) (b g lb cb c' : Nat) (o : Nat) {cb1 cg : Array Value} (hb : Blk w b 108 cb1) (hg : Blk w g 108 cg) (hne : b ≠ g) (hcg : cg.size ≠ 0) :
    (callFunc 162 #[.slice (some ⟨b, 0, none⟩) 1 c', .slice (some ⟨g, o, none⟩) lb cb]).run Try.prog w = .ok (.value (.bool false)) w := by
  obtain ⟨i0, hi0, hz0, hz1, hz2⟩ := info_parts iteminfo
  have hsz : ∀ w, (Go.sizeOf 108).run Try.prog w = .ok 3 w := fun w => by simp [sizeOf, typeInfo, hi0, hz1]
  have hsb : w.shape? b = some (108, cb1.size) := by unfold World.shape?; rw [show w.heap[b]? = some (.cells cb1 108 (0, 0)) from hb]
  have hsg : w.shape? g = some (108, cg.size) := by unfold World.shape?; rw [show w.heap[g]? = some (.cells cg 108 (0, 0)) from hg]
  rw [run_callFunc_extern Try.func162 (by kernel_rfl) (by kernel_rfl) (by kernel_rfl) (e := Extern.SlicesOverlaps.overlaps #[96, 96] #[4]) (by kernel_rfl),
    Lib.run_overlaps_apart w 96 4 108 Try.underlying96 3 hsz ⟨b, 0, none⟩ ⟨g, o, none⟩ 1 c' lb cb hne 108 108 cb1.size cg.size hsb hsg hcg (hb.free 0) (hb.free _)]
  rfl
set_option maxRecDepth 100000 in
set_option maxHeartbeats 2000000 in
/-- Ahead of the end, and there is room. -/
theorem iinsert_room (base g n c i b : Nat) (x : Im) (ks : List Im) (w : World) (ho : w.ownsRow base 108 3 (.slice (some ⟨g, 0, none⟩) n c) n (flatI ks)) (hn : ks.length = n) (hb : Blk w b 108 #[.string x.key, .string x.val, .int .i64 x.kind]) (hbg : b ≠ g) (hi : i < n) (hroom : n + 1 ≤ c) (hm : n ≤ 1000000) :
    Calls Try.prog 132 #[.slice (some ⟨g, 0, none⟩) n c, .int .i64 i, .slice (some ⟨b, 0, none⟩) 1 1] w fun e w' => e = .returned (.slice (some ⟨g, 0, none⟩) (n + 1) c) ∧ w'.ownsRow base 108 3 (.slice (some ⟨g, 0, none⟩) (n + 1) c) (n + 1) (flatI (ks.take i ++ [x] ++ ks.drop i)) ∧ Frm (at1 g) w w' := by
  obtain ⟨i0, hi0, hz0, hz1, hz2⟩ := info_parts iteminfo
  obtain ⟨cur, hB, hlo, hnc, hcm, hcs, htk⟩ := own_open ho
  have hfl := flatI_len ks
  rw [hn] at hfl
  obtain ⟨mv, hmv⟩ : ∃ mv, mv = (flatI ks).drop (i * 3) := ⟨_, rfl⟩
  obtain ⟨xc, hxc⟩ : ∃ xc, xc = [Value.string x.key, .string x.val, .int .i64 x.kind] := ⟨_, rfl⟩
  have hxl : xc.length = 3 := by rw [hxc]; rfl
  have hml : mv.length = (n - i) * 3 := by rw [hmv, List.length_drop, hfl]; omega
  have hm1 : ∀ u ∈ mv, u.oneCell' = true := fun u hu => flatI_one ks u (by rw [hmv] at hu; exact List.mem_of_mem_drop hu)
  have hx1 : ∀ u ∈ xc, u.oneCell' = true := by rw [hxc]; simp [Value.oneCell']
  have hsrc : ∀ t u, mv[t]? = some u → w.cell? ⟨g, i * 3 + t, none⟩ = some u := fun t u hu => by
    obtain ⟨ad, e, hc⟩ := Rd.of_own ho (i * 3 + t) u (by rw [hmv, List.getElem?_drop] at hu; exact hu)
    injection e with e; subst e
    rw [add_flat, Nat.zero_add] at hc; exact hc
  have hov := fun o lb cb => overlaps_no w b g lb cb 1 o hb hB hbg (by rw [hcs]; omega)
  obtain ⟨W1, hW1⟩ : ∃ W1, W1 = w.drew.setCells g ((i + 1) * 3) mv := ⟨_, rfl⟩
  obtain ⟨L1, hL1⟩ : ∃ L1, L1 = splice cur.toList ((i + 1) * 3) mv := ⟨_, rfl⟩
  have hB1 : Blk W1 g 108 L1.toArray := by rw [hW1, hL1]; exact Blk.cells_ (w := w) mv _ cur _ hB.drew (by rw [hml, hcs]; omega)
  have hF1 : Frm (at1 g) w W1 := by rw [hW1]; exact ((Frm.refl _ w).drew).then_ (Frm.cells_ _ _ _)
  have hl1 : L1.length = c * 3 := by rw [hL1, splice_len (by rw [hml, Array.length_toList, hcs]; omega), Array.length_toList, hcs]
  have hb1 : Blk W1 b 108 #[.string x.key, .string x.val, .int .i64 x.kind] := hb.frm hF1 hbg
  have hB2 : Blk (W1.setCells g (i * 3) xc) g 108 (splice L1 (i * 3) xc).toArray := Blk.cells_ (w := w) xc _ L1.toArray W1 hB1 (by rw [List.size_toArray, hl1, hxl]; omega)
  have hO2 : (W1.setCells g (i * 3) xc).ownsRow base 108 3 (.slice (some ⟨g, 0, none⟩) (n + 1) c) (n + 1) (flatI (ks.take i ++ [x] ++ ks.drop i)) := by
    refine own_close hB2 hlo hroom hcm ?_ ?_
    · rw [List.size_toArray, splice_len (by rw [hl1, hxl]; omega), hl1]
    · show (splice L1 _ _).take _ = _
      rw [flatI_app, flatI_app, ← flatI_take, ← flatI_drop, ← hmv, show flatI [x] = xc from hxc.symm]
      have e2 : cur.toList.take (i * 3) = (flatI ks).take (i * 3) := by rw [← htk, List.take_take]; congr 1; omega
      have e3 : L1.take (i * 3) = (flatI ks).take (i * 3) := by
        rw [hL1, ← e2]
        unfold splice
        rw [List.take_append_of_le_length (by rw [List.length_take, Array.length_toList, hcs]; omega), List.take_take, Nat.min_eq_left (by omega)]
      have e4 : L1.drop (i * 3 + xc.length) = mv ++ cur.toList.drop ((i + 1) * 3 + mv.length) := by
        rw [hL1]
        unfold splice
        have h1 : (cur.toList.take ((i + 1) * 3)).length = i * 3 + xc.length := by rw [List.length_take, Array.length_toList, hcs, hxl]; omega
        rw [List.drop_append_of_le_length (by omega), ← h1, List.drop_length, List.nil_append]
      unfold splice
      rw [e3, e4, ← List.append_assoc, ← List.append_assoc, List.take_append_of_le_length (by simp only [List.length_append, List.length_take, hml, hxl, hfl]; omega), List.take_of_length_le (by simp only [List.length_append, List.length_take, hml, hxl, hfl]; omega)]
  have hF2 : Frm (at1 g) w (W1.setCells g (i * 3) xc) := hF1.then_ (Frm.cells_ _ _ _)
  have hcp1 : ∀ ty dl dc sl sc, dl = n - i → sl = n + 1 - i → (Builtin.copy_ #[96, 96] ty #[.slice (some ⟨g, (i + 1) * 3, none⟩) dl dc, .slice (some ⟨g, i * 3, none⟩) sl sc]).run Try.prog w.drew = .ok (goInt (n - i : Nat)) W1 := fun ty dl dc sl sc hdl hslq => by
    subst hdl hslq
    rw [hW1]
    exact run_copy_sz w.drew _ _ ty 108 i0 3 g ((i + 1) * 3) _ dc ⟨g, i * 3, none⟩ _ sc (n - i) mv Try.underlying96 hi0 hz1 (by show min _ _ = _; omega) hml
      (fun t u hu => by rw [add_flat]; exact hsrc t u hu) (fun t ht => by show (w.cell? _).isSome = true; rw [hB.cell, Array.getElem?_eq_getElem (by rw [hcs]; rw [hml] at ht; omega)]; rfl) (fun t ht => hB.free _) hm1
  have hcp2 : ∀ ty dc, (Builtin.copy_ #[96, 96] ty #[.slice (some ⟨g, i * 3, none⟩) (n + 1 - i) dc, .slice (some ⟨b, 0, none⟩) 1 1]).run Try.prog W1 = .ok (goInt (1 : Nat)) (W1.setCells g (i * 3) xc) := fun ty dc =>
    run_copy_sz W1 _ _ ty 108 i0 3 g (i * 3) _ dc ⟨b, 0, none⟩ 1 1 1 xc Try.underlying96 hi0 hz1 (by show min _ _ = _; omega) hxl
      (fun t u hu => by rw [add_flat, Nat.zero_add, hb1.cell t]; rw [hxc] at hu; simpa using hu) (fun t ht => by rw [hB1.cell, List.getElem?_toArray, List.getElem?_eq_getElem (by rw [hl1]; rw [hxl] at ht; omega)]; rfl) (fun t ht => hB1.free _) hx1
  have HO2 := Lib.hid hO2
  have HF2 := Lib.hid hF2
  have HCP1 := Lib.hid hcp1
  have HCP2 := Lib.hid hcp2
  have hq : ((i : Int) == (n : Int)) = false := by rw [beq_eq_false_iff_ne]; omega
  have hic : i ≤ c := by omega
  have hici : (i : Int) ≤ (n : Int) := by omega
  have hnci : (n : Int) + 1 ≤ (c : Int) := by omega
  have hmi : (n : Int) ≤ 1000000 := by omega
  have hi1 : (i : Int) + 1 ≤ (n : Int) := by omega
  have hi2 : ¬ c = i := by omega
  have hi3 : ¬ c = i + 1 := by omega
  have hw1 : IntKind.i64.wrap ((i : Int) + 1) = (i : Int) + 1 := IntWalk.i64_in _ (by omega)
  have hn0 : ((i : Int) + 1).toNat = i + 1 := by omega
  have hi4 : (0 : Int) ≤ (i : Int) + 1 := by omega
  have hi5 : (i : Int) ≤ (n : Int) + 1 := by omega
  have hi6 : i ≤ n + 1 := by omega
  have hi7 : i ≤ n := by omega
  clear hO2 hF2 hB2 hl1 hF1 hB1 hW1 hL1 hcp1 hcp2 hsrc hm1 hml hcs htk hB ho hfl hmv hb hb1 hx1 hxl hxc
  go_enter Try.func132, Try.ntmps132
  go_wp2_with (simp only [hov])
  go_region_law (refine step_copy_run rfl (.tmp 73) (.tmp 76) 96 96 rfl (.slice (some ⟨g, (i + 1) * 3, none⟩) (n - i) (c - (i + 1))) (.slice (some ⟨g, i * 3, none⟩) (n + 1 - i) (c - i)) (by simp [Act.eval, Act.put]) (by simp [Act.eval, Act.put]) _ _ (HCP1.out _ _ _ _ _ rfl rfl) ?_)
  go_wp2_with (refine wpList_copy_run (o := ⟨some 82, _, _, _, _, _⟩) _ rfl (.tmp 80) (.tmp 81) 96 96 rfl (.slice (some ⟨g, i * 3, none⟩) (n + 1 - i) (c - i)) (.slice (some ⟨b, 0, none⟩) 1 1) rfl rfl _ _ (HCP2.out _ _) ?_)
  go_ret
  exact ⟨rfl, HO2.out, HF2.out⟩
theorem zeros_len (m : Nat) : (Builtin.zeroCells (itemV ⟨⟨#[]⟩, ⟨#[]⟩, 0⟩).cells m).size = m * 3 := by
  rw [size_zeroCells]; rfl
set_option maxRecDepth 100000 in
set_option maxHeartbeats 2000000 in
/-- Ahead of the end, and there is no room. -/
theorem iinsert_grow (base g n c i b : Nat) (x : Im) (ks : List Im) (w : World) (ho : w.ownsRow base 108 3 (.slice (some ⟨g, 0, none⟩) n c) n (flatI ks)) (hn : ks.length = n) (hb : Blk w b 108 #[.string x.key, .string x.val, .int .i64 x.kind]) (hi : i < n) (hroom : c < n + 1) (hm : n ≤ 1000000) (hbw : base ≤ w.heap.size) :
    Calls Try.prog 132 #[.slice (some ⟨g, 0, none⟩) n c, .int .i64 i, .slice (some ⟨b, 0, none⟩) 1 1] w fun e w' => (∃ d, e = .returned (.slice (some ⟨w.heap.size, 0, none⟩) (n + 1) d) ∧ w'.ownsRow base 108 3 (.slice (some ⟨w.heap.size, 0, none⟩) (n + 1) d) (n + 1) (flatI (ks.take i ++ [x] ++ ks.drop i))) ∧ Below w.heap.size w w' := by
  obtain ⟨i0, hi0, hz0, hz1, hz2⟩ := info_parts iteminfo
  obtain ⟨cur, hB, hlo, hnc, hcm, hcs, htk⟩ := own_open ho
  have hfl := flatI_len ks
  rw [hn] at hfl
  obtain ⟨mv, hmv⟩ : ∃ mv, mv = (flatI ks).drop (i * 3) := ⟨_, rfl⟩
  obtain ⟨fr, hfr⟩ : ∃ fr, fr = (flatI ks).take (i * 3) := ⟨_, rfl⟩
  obtain ⟨xc, hxc⟩ : ∃ xc, xc = [Value.string x.key, .string x.val, .int .i64 x.kind] := ⟨_, rfl⟩
  have hxl : xc.length = 3 := by rw [hxc]; rfl
  have hml : mv.length = (n - i) * 3 := by rw [hmv, List.length_drop, hfl]; omega
  have hfrl : fr.length = i * 3 := by rw [hfr, List.length_take, hfl]; omega
  have hm1 : ∀ u ∈ mv, u.oneCell' = true := fun u hu => flatI_one ks u (by rw [hmv] at hu; exact List.mem_of_mem_drop hu)
  have hx1 : ∀ u ∈ xc, u.oneCell' = true := by rw [hxc]; simp [Value.oneCell']
  have hcellg : ∀ t u, (flatI ks)[t]? = some u → w.cell? ⟨g, t, none⟩ = some u := fun t u hu => by
    obtain ⟨ad, e, hc⟩ := Rd.of_own ho t u hu
    injection e with e; subst e
    rw [add_flat, Nat.zero_add] at hc; exact hc
  have hsrc : ∀ t u, mv[t]? = some u → w.cell? ⟨g, i * 3 + t, none⟩ = some u := fun t u hu => hcellg _ u (by rw [hmv, List.getElem?_drop] at hu; exact hu)
  have hsrf : ∀ t u, fr[t]? = some u → w.cell? ⟨g, t, none⟩ = some u := fun t u hu => hcellg _ u (by
    rw [hfr, List.getElem?_take] at hu
    split at hu
    · exact hu
    · cases hu)
  obtain ⟨c2, hc2⟩ : ∃ c2, c2 = grownCap w (i + (n + 1 - i)) c 108 := ⟨_, rfl⟩
  have hc2g : n + 1 ≤ c2 := by have := grownCap_ge w (i + (n + 1 - i)) c 108; omega
  have hc2m : c2 ≤ maxLen := by rw [hc2]; exact grownCap_le_maxLen w _ c _ (by unfold maxLen; omega)
  obtain ⟨C1, hC1⟩ : ∃ C1, C1 = fr.toArray ++ Builtin.zeroCells (itemV ⟨⟨#[]⟩, ⟨#[]⟩, 0⟩).cells (n + 1 - i) ++ Builtin.zeroCells (itemV ⟨⟨#[]⟩, ⟨#[]⟩, 0⟩).cells (c2 - (i + (n + 1 - i))) := ⟨_, rfl⟩
  have hC1s : C1.size = c2 * 3 := by rw [hC1, Array.size_append, Array.size_append, zeros_len, zeros_len, List.size_toArray, hfrl]; omega
  have hC1t : C1.toList.take (i * 3) = fr := by rw [hC1, Array.toList_append, Array.toList_append, List.append_assoc, List.take_append_of_le_length (by simp [hfrl]), List.take_of_length_le (by simp [hfrl])]
  obtain ⟨W1, hW1⟩ : ∃ W1, W1 = w.drew.alloc (.cells C1 108) := ⟨_, rfl⟩
  obtain ⟨h0, hh0⟩ : ∃ h0, h0 = w.heap.size := ⟨_, rfl⟩
  have hB1 : Blk W1 h0 108 C1 := by rw [hW1, hh0]; exact Blk.new w.drew _ _
  have hbl1 : Below h0 w W1 := by rw [hW1, hh0]; exact ((Below.refl _ w).drew).alloc (Nat.le_refl _) _
  have hzr : ∀ ty, (Builtin.append_ #[96, 3] ty #[.slice (some ⟨g, 0, none⟩) i c, .int .i64 ((n : Int) + 1 - (i : Int))]).run Try.prog w = .ok (.slice (some ⟨h0, 0, none⟩) (n + 1) c2) W1 := fun ty => by
    have := run_append_zeros_grow (P := Try.prog) w 96 3 ty 108 i0 (itemV ⟨⟨#[]⟩, ⟨#[]⟩, 0⟩) .i64 .i64 Try.underlying96 Try.underlying3 hi0 hz0 ⟨g, 0, none⟩ i c (n + 1 - i) fr (by rw [hz1]; exact hfrl) (fun t u hu => by rw [add_flat, Nat.zero_add]; exact hsrf t u hu) (by omega) (by rw [hz1]; omega) (by omega) (by omega) (by rw [hz2]; omega)
    rw [show ((n + 1 - i : Nat) : Int) = (n : Int) + 1 - (i : Int) by omega] at this
    rw [this, ← hc2, ← hC1, ← hW1, ← hh0, show i + (n + 1 - i) = n + 1 by omega]
  have hgh : g < h0 := by rw [hh0]; exact hB.lt
  have hbh : b < h0 := by rw [hh0]; exact hb.lt
  have hb1 : Blk W1 b 108 #[.string x.key, .string x.val, .int .i64 x.kind] := (hbl1.block b hbh).trans hb
  obtain ⟨L2, hL2⟩ : ∃ L2, L2 = splice C1.toList (i * 3) xc := ⟨_, rfl⟩
  obtain ⟨W2, hW2⟩ : ∃ W2, W2 = W1.setCells h0 (i * 3) xc := ⟨_, rfl⟩
  have hl2 : L2.length = c2 * 3 := by rw [hL2, splice_len (by rw [hxl, Array.length_toList, hC1s]; omega), Array.length_toList, hC1s]
  have hB2 : Blk W2 h0 108 L2.toArray := by rw [hW2, hL2]; exact Blk.cells_ (w := w) xc _ C1 W1 hB1 (by rw [hC1s]; show i * 3 + xc.length ≤ _; rw [hxl]; omega)
  have hF2 : Below h0 w W2 := by rw [hW2]; exact hbl1.trans ((Frm.cells_ (g := h0) xc (i * 3) W1).below (by have := hbl1.size; omega) (by intro k hk; unfold at1 at hk; omega))
  have hB3 : Blk (W2.drew.setCells h0 ((i + 1) * 3) mv) h0 108 (splice L2 ((i + 1) * 3) mv).toArray := Blk.cells_ (w := w) mv _ L2.toArray W2.drew hB2.drew (by rw [List.size_toArray, hl2, hml]; omega)
  have hF3 : Below h0 w (W2.drew.setCells h0 ((i + 1) * 3) mv) := hF2.drew.trans ((Frm.cells_ (g := h0) mv ((i + 1) * 3) W2.drew).below (by have := hF2.size; show h0 ≤ W2.heap.size; omega) (by intro k hk; unfold at1 at hk; omega))
  have hO3 : (W2.drew.setCells h0 ((i + 1) * 3) mv).ownsRow base 108 3 (.slice (some ⟨h0, 0, none⟩) (n + 1) c2) (n + 1) (flatI (ks.take i ++ [x] ++ ks.drop i)) := by
    refine own_close hB3 (by omega) hc2g hc2m ?_ ?_
    · rw [List.size_toArray, splice_len (by rw [hl2, hml]; omega), hl2]
    · show (splice L2 _ _).take _ = _
      rw [flatI_app, flatI_app, ← flatI_take, ← flatI_drop, ← hmv, ← hfr, show flatI [x] = xc from hxc.symm]
      have e3 : L2.take ((i + 1) * 3) = fr ++ xc := by
        rw [hL2]
        unfold splice
        rw [hC1t, ← List.append_assoc, List.take_append_of_le_length (by rw [List.length_append, hfrl, hxl]; omega), List.take_of_length_le (by rw [List.length_append, hfrl, hxl]; omega)]
      unfold splice
      rw [e3, ← List.append_assoc, List.take_append_of_le_length (by simp only [List.length_append, hml, hxl, hfrl]; omega), List.take_of_length_le (by simp only [List.length_append, hml, hxl, hfrl]; omega)]
  have hcp1 : ∀ ty, (Builtin.copy_ #[96, 96] ty #[.slice (some ⟨h0, i * 3, none⟩) (n + 1 - i) (c2 - i), .slice (some ⟨b, 0, none⟩) 1 1]).run Try.prog W1 = .ok (goInt (1 : Nat)) W2 := fun ty => by
    rw [hW2]
    exact run_copy_sz W1 _ _ ty 108 i0 3 h0 (i * 3) _ _ ⟨b, 0, none⟩ 1 1 1 xc Try.underlying96 hi0 hz1 (by show min _ _ = _; omega) hxl
      (fun t u hu => by rw [add_flat, Nat.zero_add, hb1.cell t]; rw [hxc] at hu; simpa using hu) (fun t ht => by rw [hB1.cell, Array.getElem?_eq_getElem (by rw [hC1s]; rw [hxl] at ht; omega)]; rfl) (fun t ht => hB1.free _) hx1
  have hcp2 : ∀ ty dl, dl = n - i → (Builtin.copy_ #[96, 96] ty #[.slice (some ⟨h0, (i + 1) * 3, none⟩) dl (c2 - (i + 1)), .slice (some ⟨g, i * 3, none⟩) (n - i) (c - i)]).run Try.prog W2.drew = .ok (goInt (n - i : Nat)) (W2.drew.setCells h0 ((i + 1) * 3) mv) := fun ty dl hdl => by
    subst hdl
    exact run_copy_sz W2.drew _ _ ty 108 i0 3 h0 ((i + 1) * 3) _ _ ⟨g, i * 3, none⟩ _ _ (n - i) mv Try.underlying96 hi0 hz1 (by show min _ _ = _; omega) hml
      (fun t u hu => by
        rw [add_flat]
        show W2.cell? _ = _
        rw [(below_cells hF2).1 g _ hgh]; exact hsrc t u hu) (fun t ht => by show (W2.cell? _).isSome = true; rw [hB2.cell, List.getElem?_toArray, List.getElem?_eq_getElem (by rw [hl2]; rw [hml] at ht; omega)]; rfl) (fun t ht => hB2.free _) hm1
  have HO3 := Lib.hid hO3
  have HF3 := Lib.hid hF3
  have HCP1 := Lib.hid hcp1
  have HCP2 := Lib.hid hcp2
  have HZR := Lib.hid hzr
  have HH0 := Lib.hid hh0
  have hq : ((i : Int) == (n : Int)) = false := by rw [beq_eq_false_iff_ne]; omega
  have hic : i ≤ c := by omega
  have hici : (i : Int) ≤ (n : Int) := by omega
  have hnci : (c : Int) < (n : Int) + 1 := by omega
  have hmi : (n : Int) ≤ 1000000 := by omega
  have hi1 : (i : Int) + 1 ≤ (n : Int) := by omega
  have hi2 : ¬ c = i := by omega
  have hi3 : ¬ c2 = i + 1 := by omega
  have hi8 : ¬ c2 = i := by omega
  have hw1 : IntKind.i64.wrap ((i : Int) + 1) = (i : Int) + 1 := IntWalk.i64_in _ (by omega)
  have hn0 : ((i : Int) + 1).toNat = i + 1 := by omega
  have hi4 : (0 : Int) ≤ (i : Int) + 1 := by omega
  have hi5 : (i : Int) ≤ (n : Int) + 1 := by omega
  have hi6 : i ≤ n + 1 := by omega
  have hi7 : i ≤ n := by omega
  clear hO3 hF3 hB3 hF2 hB2 hl2 hB1 hbl1 hW1 hW2 hL2 hC1 hC1s hC1t hcp1 hcp2 hzr hsrc hsrf hcellg hm1 hml hcs htk hB ho hfl hmv hfr hfrl hb hb1 hx1 hxl hxc hc2 hh0
  go_enter Try.func132, Try.ntmps132
  go_wp2_with (first
    | (at_builtin; refine Lib.wpList_append_run _ rfl (.tmp 34) (.tmp 39) 96 3 rfl (.slice (some ⟨g, 0, none⟩) i c) (.int .i64 ((n : Int) + 1 - (i : Int))) rfl rfl _ _ (HZR.out _) ?_)
    | (refine wpList_copy_run (o := ⟨some 45, _, _, _, _, _⟩) _ rfl (.tmp 43) (.tmp 44) 96 96 rfl (.slice (some ⟨h0, i * 3, none⟩) (n + 1 - i) (c2 - i)) (.slice (some ⟨b, 0, none⟩) 1 1) rfl rfl _ _ (HCP1.out _) ?_))
  go_region_law (refine step_copy_run rfl (.tmp 50) (.tmp 53) 96 96 rfl (.slice (some ⟨h0, (i + 1) * 3, none⟩) (n - i) (c2 - (i + 1))) (.slice (some ⟨g, i * 3, none⟩) (n - i) (c - i)) (by simp [Act.eval, Act.put]) (by simp [Act.eval, Act.put]) _ _ (HCP2.out _ _ rfl) ?_)
  go_wp2
  go_ret
  exact ⟨⟨c2, by rw [← HH0.out]; rfl, by rw [← HH0.out]; exact HO3.out⟩, by rw [← HH0.out]; exact HF3.out⟩
end Go.Proofs.Ytldkhhipfoeckaa
