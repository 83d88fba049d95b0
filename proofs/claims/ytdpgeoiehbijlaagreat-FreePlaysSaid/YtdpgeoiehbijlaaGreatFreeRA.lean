/-
  The document's Free: All and Pending: what they give. Conditions: the list is in order.
-/
import Derived.Test.YtdpgeoiehbijlaaGreatOne
import Derived.Test.YtdpgeoiehbijlaaGreatFreeH
namespace Go.Proofs.YtdpgeoiehbijlaaGreat
open Go Go.RowKit
attribute [local go_sem] cell_set_if

/-- The document's. -/
abbrev FreeDoc := FreeT 35 73
theorem all_nodup' {s : Fs} (h : s.ok) (p : Int → Bool) (k : Nat) : (s.fr ++ outK p s.pd k).Nodup := by
  have hs : (outK p s.pd k).Sublist (idsP s.pd) := by unfold outK idsP; exact (List.filter_sublist.trans (List.take_sublist _ _)).map _
  rw [List.nodup_append]
  exact ⟨rise_nodup h.up, h.nd.sublist hs, fun a ha b hb e => by subst e; exact h.ap a (hs.subset hb) ha⟩
theorem outK_true (pd : List (Int × Int)) (k : Nat) : outK (fun _ => true) pd k = idsP (pd.take k) := by unfold outK; rw [List.filter_eq_self.2 (fun _ _ => rfl)]
set_option maxRecDepth 100000 in
set_option maxHeartbeats 4000000 in
theorem rall_any (base g : Nat) (s : Fs) (v1 v2 : Value) (w : World) (h : FreeDoc w base g s v1 v2) (hok : s.ok) :
    Calls Tryz.prog 24 #[.pointer (some ⟨g, 0, none⟩)] w fun e w' => GivesZ w.heap.size (allS s) e w' ∧ Below w.heap.size w w' := by
  obtain ⟨i0, hi0, hz0, hz1, hz2⟩ := info_parts zinfo
  obtain ⟨A1, c1, A2, c2, hv1, hv2, r1, r2, _, _⟩ := h.reads
  obtain ⟨n, hn⟩ : ∃ n, n = s.pd.length := ⟨_, rfl⟩
  obtain ⟨f, hf⟩ : ∃ f, f = s.fr.length := ⟨_, rfl⟩
  have hlen := hok.len.2.2
  have c0 : w.cell? ⟨g, 2, none⟩ = some (.slice A2 n c2) := by rw [hn, ← hv2]; exact h.blk.cell 2
  have k0 : w.cell? ⟨g, 1, none⟩ = some (.slice A1 f c1) := by rw [hf, ← hv1]; exact h.blk.cell 1
  have HR := Lib.hid r2
  have HR1 := Lib.hid r1
  have HN := Lib.hid hn
  have HFF := Lib.hid hf
  have HOK := Lib.hid hok
  have hni : (n : Int) ≤ 4000 := by omega
  have hfi : f + n ≤ 4000 := by omega
  have HL1 : Hid ((flatZ s.fr).length = f * 1) := by unfold Hid; rw [flatZ_len, hf]
  clear h hv1 hv2 r1 r2 hn hf hok hlen
  go_enter Tryz.func24, Tryz.ntmps24
  go_wp2_with (first
    | (at_builtin
       refine wpList_app rfl (.const (.slice none 0 0)) (.tmp 8) 22 rfl w.heap.size 3 i0 _ 1 8 Tryz.underlying22 hi0 hz0 hz1 hz2 rfl (by omega) (.slice none 0 0) 0 [] rfl (World.ownsRow_nil _ _ _ _) A1 f c1 (flatZ s.fr) rfl HR1.out HL1.out (flatZ_one _) (by unfold maxLen; omega) (by omega) (Nat.le_refl _) ?_
       intro v2 w2 hown2 hg2 hb2 hat2
       rw [List.nil_append, Nat.zero_add] at hown2))
  go_loopw [3, 4] (fun u3 u4 wr => ∃ (k m : Nat), k ≤ n ∧ u4 = .int .i64 k ∧ m = f + k ∧ Hid (wr.ownsRow w.heap.size 3 1 u3 m (flatZ (sortZ (s.fr ++ idsP (s.pd.take k))))) ∧ Hid (Below w.heap.size w wr)) (fun _ u4 _ => n - (intOf u4).toNat)
  case atStart => exact ⟨0, f, by omega, rfl, rfl, by unfold Hid; rw [List.take_zero, show idsP [] = [] from rfl, List.append_nil, sortZ_id HOK.out.up]; exact hown2, hb2⟩
  case round =>
    obtain ⟨k, m, hk, rfl, hm, HO, HB⟩ := hrel
    have hmi : m ≤ 4000 := by omega
    have c1' : wr.cell? ⟨g, 2, none⟩ = some (.slice A2 n c2) := cell_b HB.out c0
    obtain ⟨B, d, rfl, hd⟩ := own_form HO.out
    by_cases hlt : k < n
    · obtain ⟨b1, o1, x, rfl, _, hx, d0, d1⟩ := (HR.out.below HB.out).pair (k := k) (by have := HN.out; omega)
      have hki : (k : Int) < (n : Int) := by omega
      have hnd := all_nodup' HOK.out (fun _ => true) (k + 1)
      have hnd0 := all_nodup' HOK.out (fun _ => true) k
      rw [outK_true, idsP_next hx, ← List.append_assoc] at hnd
      rw [outK_true] at hnd0
      have HE : Hid (sortZ (sortZ (s.fr ++ idsP (s.pd.take k)) ++ [x.2]) = sortZ (s.fr ++ idsP (s.pd.take (k + 1)))) := by unfold Hid; rw [sortZ_snoc hnd, idsP_next hx, List.append_assoc]
      have hlm : (sortZ (s.fr ++ idsP (s.pd.take k))).length = m := by
        rw [sortZ_len, List.length_append, ← HFF.out, hm]; unfold idsP; rw [List.length_map, List.length_take]; have := HN.out; omega
      have hput := rputZ_any B m d _ x.2 wr (Rd.of_own HO.out) hlm hd (by omega) (sortZ_rise hnd0) (fun hmem => by
        rw [sortZ_mem] at hmem
        rw [List.nodup_append] at hnd
        exact hnd.2.2 x.2 hmem x.2 (by simp) rfl)
      rw [HE.out] at hput
      have HP := Lib.hid hput
      have HM := Lib.hid hm
      clear hput hnd hnd0 hlm hx hm
      go_wp2_with (go_at_call 38; refine HP.out.mono ?_; rintro e w5 ⟨⟨B5, d5, rfl, o5⟩, b5⟩)
      go_roundw
      case rel => exact ⟨k + 1, m + 1, by omega, by go_num, by have := HM.out; omega, own_base o5 HB.out.size, HB.out.trans (b5.mono HB.out.size)⟩
      case measure => simp [intOf]; omega
    · obtain rfl : n = k := by omega
      have HE : Hid (sortZ (s.fr ++ idsP (s.pd.take n)) = allS s) := by unfold Hid allS; rw [HN.out, List.take_length]
      have HL : Hid ((allS s).length = m) := by unfold Hid allS idsP; rw [sortZ_len, List.length_append, List.length_map, ← HFF.out, hm, HN.out]
      clear hm
      go_wp2
      go_ret
      exact ⟨⟨B, d, by (rw [HL.out]) <;> rfl, by rw [HL.out, ← HE.out]; exact HO.out⟩, HB.out⟩
set_option maxRecDepth 100000 in
set_option maxHeartbeats 4000000 in
theorem rpend_any (base g : Nat) (s : Fs) (tx : Int) (v1 v2 : Value) (w : World) (h : FreeDoc w base g s v1 v2) (hok : s.ok) :
    Calls Tryz.prog 23 #[.pointer (some ⟨g, 0, none⟩), .int .i64 tx] w fun e w' => GivesZ w.heap.size (pendS s tx) e w' ∧ Below w.heap.size w w' := by
  obtain ⟨A1, c1, A2, c2, hv1, hv2, r1, r2, _, _⟩ := h.reads
  obtain ⟨n, hn⟩ : ∃ n, n = s.pd.length := ⟨_, rfl⟩
  have hlen := hok.len.2.1
  have c0 : w.cell? ⟨g, 2, none⟩ = some (.slice A2 n c2) := by rw [hn, ← hv2]; exact h.blk.cell 2
  have HR := Lib.hid r2
  have HN := Lib.hid hn
  have HOK := Lib.hid hok
  have hni : (n : Int) ≤ 4000 := by omega
  clear h hv1 hv2 r1 r2 hn hok hlen
  go_enter Tryz.func23, Tryz.ntmps23
  go_wp2
  go_loopw [5, 6] (fun u5 u6 wr => ∃ (k m : Nat), k ≤ n ∧ u6 = .int .i64 k ∧ m ≤ k ∧ Hid ((sortZ (outK (fun t => t == tx) s.pd k)).length = m) ∧ Hid (wr.ownsRow w.heap.size 3 1 u5 m (flatZ (sortZ (outK (fun t => t == tx) s.pd k)))) ∧ Hid (Below w.heap.size w wr)) (fun _ u6 _ => n - (intOf u6).toNat)
  case atStart =>
    have h0 : outK (fun t => t == tx) s.pd 0 = [] := rfl
    refine ⟨0, 0, by omega, rfl, by omega, ?_, ?_, Below.refl _ _⟩
    · unfold Hid; rw [h0, sortZ_len]; rfl
    · unfold Hid; rw [h0, sortZ_id List.Pairwise.nil]; exact World.ownsRow_nil _ _ _ _
  case round =>
    obtain ⟨k, m, hk, rfl, hm, HL, HO, HB⟩ := hrel
    have hmi : m ≤ 4000 := by omega
    have c1' : wr.cell? ⟨g, 2, none⟩ = some (.slice A2 n c2) := cell_b HB.out c0
    obtain ⟨B, d, rfl, hd⟩ := own_form HO.out
    by_cases hlt : k < n
    · obtain ⟨b1, o1, x, rfl, _, hx, d0, d1⟩ := (HR.out.below HB.out).pair (k := k) (by have := HN.out; omega)
      have hki : (k : Int) < (n : Int) := by omega
      by_cases hxt : x.1 = tx
      · have hE := outK_yes (p := fun t => t == tx) hx (by simpa using hxt)
        have hnd := (List.nodup_append.1 (all_nodup' HOK.out (fun t => t == tx) (k + 1))).2.1
        have hnd0 := (List.nodup_append.1 (all_nodup' HOK.out (fun t => t == tx) k)).2.1
        rw [hE] at hnd
        have HE : Hid (sortZ (sortZ (outK (fun t => t == tx) s.pd k) ++ [x.2]) = sortZ (outK (fun t => t == tx) s.pd (k + 1))) := by unfold Hid; rw [sortZ_snoc hnd, hE]
        have HLN : Hid ((sortZ (outK (fun t => t == tx) s.pd (k + 1))).length = m + 1) := by
          have := HL.out
          unfold Hid
          rw [sortZ_len] at this
          rw [hE, sortZ_len, List.length_append, this]; rfl
        have hput := rputZ_any B m d _ x.2 wr (Rd.of_own HO.out) HL.out hd (by omega) (sortZ_rise hnd0) (fun hmem => by
          rw [sortZ_mem] at hmem
          rw [List.nodup_append] at hnd
          exact hnd.2.2 x.2 hmem x.2 (by simp) rfl)
        rw [HE.out] at hput
        have HP := Lib.hid hput
        have hb : (x.1 == tx) = true := by simpa using hxt
        have hdd : decide (x.1 = tx) = true := decide_eq_true hxt
        obtain ⟨x1, x2⟩ := x
        simp only at hxt d0 d1 HP hb hdd
        subst hxt
        clear hput hnd hnd0 hx hE
        go_wp2_with (go_at_call 38; refine HP.out.mono ?_; rintro e w5 ⟨⟨B5, d5, rfl, o5⟩, b5⟩)
        go_roundw
        case rel => exact ⟨k + 1, m + 1, by omega, by go_num, by omega, HLN, own_base o5 HB.out.size, HB.out.trans (b5.mono HB.out.size)⟩
        case measure => simp [intOf]; omega
      · have HE : Hid (outK (fun t => t == tx) s.pd (k + 1) = outK (fun t => t == tx) s.pd k) := outK_no hx (by simpa using hxt)
        have hb : (x.1 == tx) = false := by simpa using hxt
        have hdd : decide (x.1 = tx) = false := decide_eq_false hxt
        clear hx
        go_wp2
        go_roundw
        case rel => exact ⟨k + 1, m, by omega, by go_num, by omega, by rw [HE.out]; exact HL, by rw [HE.out]; exact HO, HB⟩
        case measure => simp [intOf]; omega
    · obtain rfl : n = k := by omega
      have HE : Hid (sortZ (outK (fun t => t == tx) s.pd n) = pendS s tx) := by unfold Hid pendS; rw [HN.out, outK_all]
      have HL2 : Hid ((pendS s tx).length = m) := by unfold Hid; rw [← HE.out]; exact HL.out
      go_wp2
      go_ret
      exact ⟨⟨B, d, by (rw [HL2.out]) <;> rfl, by rw [HL2.out, ← HE.out]; exact HO.out⟩, HB.out⟩
end Go.Proofs.YtdpgeoiehbijlaaGreat
