/-
  A disk's crash (as it was armed), Arm, Read, Size, Sync. Conditions: it is a disk, each write's file is there; armed for a number; no more than a million writes and numbers.
-/
import Derived.Test.YtfgpadikmnhldaaDiskG
import Derived.Test.YtfgpadikmnhldaaCloneZ
namespace Go.Proofs.Ytfgpadikmnhldaa
open Go Go.RowKit
attribute [local go_sem] cell_set_if

/-- A disk as it should be, and not too great. -/
structure Ds.fine (d : Ds) : Prop where
  live : d.live
  rd : d.rd
  ws : d.ws.length ≤ 900000
  keep : d.keep.length ≤ 900000
theorem goes_fs (d : Ds) : (goesD d).2.fs = d.fs := by unfold goesD; split <;> rfl
theorem goes_ws (d : Ds) : (goesD d).2.ws = d.ws := by unfold goesD; split <;> rfl
theorem goes_keep (d : Ds) : (goesD d).2.keep = d.keep := by unfold goesD; split <;> rfl
theorem goes_off (d : Ds) : (goesD d).2.off = d.off := by unfold goesD; split <;> rfl
theorem file_cases (d : Ds) (m : DM) (s : ByteArray) : (∃ e0, e0 ≠ 0 ∧ fileD d s = (e0, none) ∧ fileV d m s = (.pointer none, e0)) ∨ ∃ f, d.find s = some f ∧ fileD d s = (0, some f) ∧ fileV d m s = (.pointer (some ⟨m.ρ f.id, 0, none⟩), 0) ∧ mayD d s = 0 := by
  unfold fileV fileD
  by_cases h : mayD d s ≠ 0
  · rw [if_pos h]; exact .inl ⟨_, h, rfl, rfl⟩
  · rw [if_neg h]
    cases hf : d.find s with
    | none => exact .inl ⟨8, by omega, rfl, rfl⟩
    | some f => exact .inr ⟨f, rfl, rfl, rfl, by omega⟩
theorem DidD.trans {w w1 w2 : World} {base : Nat} {d d1 d2 : Ds} {m m1 : DM} (hg : m1.g = m.g) (t : Turn (mineD d m) w (mineD d1 m1) w1) (h : DidD w1 base d1 m1 d2 w2) : DidD w base d m d2 w2 := by
  obtain ⟨m2, h1, h2, h3⟩ := h
  exact ⟨m2, h1.trans hg, h2, t.trans h3⟩
theorem DidD.first {w w1 w2 : World} {base : Nat} {d d2 : Ds} {m : DM} (k : Below w.heap.size w w1) (h : DidD w1 base d m d2 w2) : DidD w base d m d2 w2 := DidD.trans rfl ((Turn.refl _ _).step k) h
theorem dfall_any {base : Nat} {d : Ds} {m : DM} (w : World) (h : DiskAt w base d m) (hl : d.live) (hws : d.ws.length ≤ 1000000) (hk : d.keep.length ≤ 1000000) :
    Calls Try.prog 36 #[.pointer (some ⟨m.g, 0, none⟩)] w fun e w' => e = .returned (.int .i64 14) ∧ DidD w base d m (fallD d).2 w' := by
  obtain ⟨A, c, hv, _⟩ := own_form h.ok_
  obtain ⟨n, hn⟩ : ∃ n, d.keep.length = n := ⟨_, rfl⟩
  rw [hn] at hv
  have c6 : w.cell? ⟨m.g, 6, none⟩ = some (.slice A n c) := by rw [← hv]; exact h.blk.cell 6
  have ho := h.ok_
  rw [hv, hn] at ho
  have hc := dcrash_any A n c d.keep w h hl hws (Rd.of_own ho) hn (by omega) (fun hpos a ha => by
    obtain ⟨g, cc, e1, _, _⟩ := ho.form hpos
    have e2 : A = some ⟨g, 0, none⟩ := by injection e1
    rw [e2] at ha
    injection ha with ha
    exact .inr (own_ty ho (by rw [e2, ← ha]; rfl)))
  have HC := Lib.hid hc
  clear h hc ho hv
  go_enter Try.func36, Try.ntmps36
  go_wp2_with (go_at_call 17; refine HC.out.mono ?_; rintro e w1 ⟨rfl, D1⟩)
  go_ret
  exact ⟨rfl, D1⟩
set_option maxRecDepth 100000 in
set_option maxHeartbeats 1000000 in
theorem dread_any {base : Nat} {d : Ds} {m : DM} (s : ByteArray) (pos : Int) (w : World) (h : DiskAt w base d m) :
    Calls Try.prog 19 #[.pointer (some ⟨m.g, 0, none⟩), .string s, .int .i64 pos] w fun e w' => e = .returned (.tuple #[.string (readD d s pos).1, .int .i64 (readD d s pos).2]) ∧ Below w.heap.size w w' := by
  have hfl := dfile_any s w h
  rcases file_cases d m s with ⟨e0, hne, hfd, hfv⟩ | ⟨f, hf, hfd, hfv, _⟩
  · have HV : Hid (readD d s pos = (ByteArray.empty, e0)) := by unfold Hid readD; rw [hfd]
    rw [hfv] at hfl
    have HFL := Lib.hid hfl
    have hne' : (e0 != 0) = true := by simpa using hne
    clear hfl hfv hfd h
    go_enter Try.func19, Try.ntmps19
    go_wp2_with (go_at_call 38; refine HFL.out.mono ?_; rintro e w1 ⟨rfl, b1⟩)
    go_ret2
    exact ⟨by (rw [HV.out]) <;> rfl, b1⟩
  · rw [hfv] at hfl
    have HFL := Lib.hid hfl
    have hF := h.fs _ (Ds.find_mem hf)
    obtain ⟨A, c, hv, _⟩ := own_form hF.ol
    obtain ⟨n, hn⟩ : ∃ n, f.now.length = n := ⟨_, rfl⟩
    have hn4 : n ≤ 4001 := by rw [← hn]; exact (h.ok.now _ (Ds.find_mem hf)).1
    have k0 : w.cell? ⟨m.ρ f.id, 0, none⟩ = some (.slice A n c) := by rw [← hn, ← hv]; exact hF.blk.cell 0
    by_cases hbad : pos < 0 ∨ (n : Int) ≤ pos
    · have HV : Hid (readD d s pos = (ByteArray.empty, 15)) := by unfold Hid readD; rw [hfd]; simp only; rw [hn, if_pos hbad]
      have hc : pos < 0 ∨ (0 ≤ pos ∧ (n : Int) ≤ pos) := by omega
      clear hfl hfv hfd h hF hv hn hbad hf
      rcases hc with h1 | ⟨h1, h2⟩
      all_goals
        go_enter Try.func19, Try.ntmps19
        go_wp2_with (go_at_call 38; refine HFL.out.mono ?_; rintro e w1 ⟨rfl, b1⟩; have k1 := cell_b b1 k0)
        go_ret2
        exact ⟨by (rw [HV.out]) <;> rfl, b1⟩
    · obtain ⟨p, rfl⟩ : ∃ p : Nat, pos = (p : Int) := ⟨pos.toNat, by omega⟩
      have hpn : p < n := by omega
      have hpi : (p : Int) < (n : Int) := by omega
      obtain ⟨x, hx⟩ : ∃ x, f.now[p]? = some x := ⟨_, List.getElem?_eq_getElem (by omega)⟩
      have HV : Hid (readD d s p = (x, 0)) := by
        unfold Hid readD; rw [hfd]; simp only; rw [hn, if_neg hbad, Int.toNat_natCast, List.getD_eq_getElem?_getD, hx]; rfl
      have hr : Rd w A (strs f.now) := by have := hF.ol; rw [hv] at this; exact Rd.of_own this
      obtain ⟨b1, o1, rfl, hb1, hc1⟩ := hr.flat (by rw [strs_len]; omega)
      have d0 := hc1 p _ (strs_at hx)
      clear hfl hfv hfd h hF hv hn hbad hf hr hc1 hx
      go_enter Try.func19, Try.ntmps19
      go_wp2_with (go_at_call 38; refine HFL.out.mono ?_; rintro e w1 ⟨rfl, b1'⟩; have k1 := cell_b b1' k0; have k2 := cell_b b1' d0)
      go_ret2
      exact ⟨by (rw [HV.out]) <;> rfl, b1'⟩
set_option maxRecDepth 100000 in
theorem dsize_any {base : Nat} {d : Ds} {m : DM} (s : ByteArray) (w : World) (h : DiskAt w base d m) :
    Calls Try.prog 20 #[.pointer (some ⟨m.g, 0, none⟩), .string s] w fun e w' => e = .returned (.tuple #[.int .i64 (sizeD d s).1, .int .i64 (sizeD d s).2]) ∧ Below w.heap.size w w' := by
  have hfl := dfile_any s w h
  rcases file_cases d m s with ⟨e0, hne, hfd, hfv⟩ | ⟨f, hf, hfd, hfv, _⟩
  · have HV : Hid (sizeD d s = (0, e0)) := by unfold Hid sizeD; rw [hfd]
    rw [hfv] at hfl
    have HFL := Lib.hid hfl
    have hne' : (e0 != 0) = true := by simpa using hne
    clear hfl hfv hfd h
    go_enter Try.func20, Try.ntmps20
    go_wp2_with (go_at_call 38; refine HFL.out.mono ?_; rintro e w1 ⟨rfl, b1⟩)
    go_ret2
    exact ⟨by (rw [HV.out]) <;> rfl, b1⟩
  · rw [hfv] at hfl
    have HFL := Lib.hid hfl
    have hF := h.fs _ (Ds.find_mem hf)
    obtain ⟨A, c, hv, _⟩ := own_form hF.ol
    obtain ⟨n, hn⟩ : ∃ n, f.now.length = n := ⟨_, rfl⟩
    have k0 : w.cell? ⟨m.ρ f.id, 0, none⟩ = some (.slice A n c) := by rw [← hn, ← hv]; exact hF.blk.cell 0
    have HV : Hid (sizeD d s = ((n : Int), 0)) := by unfold Hid sizeD; rw [hfd]; simp only; rw [hn]
    clear hfl hfv hfd h hF hv hn hf
    go_enter Try.func20, Try.ntmps20
    go_wp2_with (go_at_call 38; refine HFL.out.mono ?_; rintro e w1 ⟨rfl, b1⟩; have k1 := cell_b b1 k0)
    go_ret2
    exact ⟨by (rw [HV.out]) <;> rfl, b1⟩
end Go.Proofs.Ytfgpadikmnhldaa
