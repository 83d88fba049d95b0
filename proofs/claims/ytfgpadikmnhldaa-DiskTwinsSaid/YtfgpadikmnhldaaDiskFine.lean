/-
  A disk in plain words: what each call leaves may be called on again. Condition: not too many writes.
-/
import Derived.Test.YtfgpadikmnhldaaDiskW
namespace Go.Proofs.Ytfgpadikmnhldaa
open Go Go.RowKit

section
variable {d : Ds}
theorem crash_fine (_ : d.live) (ho : d.off = false) (keep : List Int) : (crashD d keep).2.fine ∧ (crashD d keep).2.ws.length = 0 := by
  unfold crashD
  rw [if_neg (by rw [ho]; decide)]
  exact ⟨⟨fun x hx => by simp at hx, fun h => by simp at h, by simp, by simp⟩, rfl⟩
theorem crash_fine' (h : d.fine) (keep : List Int) : (crashD d keep).2.fine ∧ (crashD d keep).2.ws.length ≤ d.ws.length := by
  cases ho : d.off
  · have := crash_fine h.live ho keep
    exact ⟨this.1, by omega⟩
  · unfold crashD
    rw [if_pos ho]
    exact ⟨h, Nat.le_refl _⟩
theorem live_with (h : d.live) (s : ByteArray) : (withF d s).1.live := (withF_keeps (d := d) (s := s) rfl).2.2 h
theorem withF_in (d : Ds) (s : ByteArray) : ∃ p ∈ (withF d s).1.fs, p.2.id = (withF d s).2 := by
  unfold withF
  cases hf : d.find s with
  | none => exact ⟨(s, ⟨d.next, [], [], false⟩), by simp, rfl⟩
  | some f => exact ⟨_, Ds.find_mem hf, rfl⟩
theorem withF_same (d : Ds) (s : ByteArray) : (withF d s).1.armed = d.armed ∧ (withF d s).1.left = d.left ∧ (withF d s).1.keep = d.keep ∧ (withF d s).1.off = d.off ∧ (withF d s).1.ws = d.ws ∧ (withF d s).1.room = d.room := by
  unfold withF
  cases hf : d.find s <;> exact ⟨rfl, rfl, rfl, rfl, rfl, rfl⟩
theorem goes_room (d : Ds) : (goesD d).2.room = d.room := by unfold goesD; split <;> rfl
theorem may_on {s : ByteArray} (h : mayD d s = 0) : d.off = false := by
  unfold mayD at h
  cases ho : d.off
  · rfl
  · rw [ho, if_pos rfl] at h; omega
theorem file_on {s : ByteArray} {f : Fl} (h : (fileD d s).2 = some f) : d.off = false ∧ d.find s = some f := by
  unfold fileD at h
  by_cases hm : mayD d s = 0
  · rw [if_neg (by rw [hm]; decide)] at h
    refine ⟨may_on hm, ?_⟩
    cases hf : d.find s with
    | none => rw [hf] at h; cases h
    | some g => rw [hf] at h; injection h with h; rw [h]
  · rw [if_pos hm] at h; cases h
theorem write_fine (h : d.fine) (hw : d.ws.length < 900000) (s : ByteArray) (pos : Int) (x : ByteArray) : (writeD d s pos x).2.fine ∧ (writeD d s pos x).2.ws.length ≤ d.ws.length + 1 := by
  unfold writeD
  by_cases h1 : mayD d s = 0
  · rw [if_neg (by rw [h1]; decide)]
    by_cases h2 : x.size = 256
    · rw [if_neg (by omega)]
      by_cases h3 : pos < 0 ∨ (sizeOf_ d s : Int) < pos ∨ 4000 < pos
      · rw [if_pos h3]; exact ⟨h, by show d.ws.length ≤ _; omega⟩
      · rw [if_neg h3]
        cases h4 : fitsD d s pos
        · rw [if_pos rfl]; exact ⟨h, by show d.ws.length ≤ _; omega⟩
        · rw [if_neg (by decide)]
          obtain ⟨e1, e2, e3, e4, e5, e6⟩ := withF_same (goesD d).2 s
          obtain ⟨p, hp, hid⟩ := withF_in (goesD d).2 s
          have hl : ({ (withF (goesD d).2 s).1 with fs := updF (withF (goesD d).2 s).1.fs (withF (goesD d).2 s).2 (putF pos.toNat x), ws := (withF (goesD d).2 s).1.ws ++ [⟨(withF (goesD d).2 s).2, pos.toNat, x⟩] } : Ds).live := by
            have := putD_live (d := (withF (goesD d).2 s).1) (s := p.1) (f := p.2) (live_with (live_goes h.live) s) hp pos.toNat x
            rw [hid] at this; exact this
          simp only
          cases hg : (goesD d).1
          · rw [if_neg (by decide)]
            have hr := goes_rd h.rd hg
            refine ⟨⟨hl, ?_, ?_, ?_⟩, ?_⟩
            · intro ha
              have ha' : (withF (goesD d).2 s).1.armed = true := ha
              rw [e1] at ha'
              show 0 ≤ (withF (goesD d).2 s).1.left ∧ (withF (goesD d).2 s).1.left ≤ _
              rw [e2]; exact hr ha'
            · show ((withF (goesD d).2 s).1.ws ++ _).length ≤ _
              rw [List.length_append, e5, goes_ws]; simp; omega
            · show (withF (goesD d).2 s).1.keep.length ≤ _
              rw [e3, goes_keep]; exact h.keep
            · show ((withF (goesD d).2 s).1.ws ++ _).length ≤ _
              rw [List.length_append, e5, goes_ws]; simp
          · rw [if_pos rfl]
            unfold fallD
            have := crash_fine hl (by show (withF (goesD d).2 s).1.off = false; rw [e4, goes_off]; exact may_on h1) (withF (goesD d).2 s).1.keep
            exact ⟨this.1, by show (crashD _ _).2.ws.length ≤ _; rw [this.2]; omega⟩
    · rw [if_pos h2]; exact ⟨h, by show d.ws.length ≤ _; omega⟩
  · rw [if_pos h1]; exact ⟨h, by show d.ws.length ≤ _; omega⟩
theorem sync_fine (h : d.fine) (s : ByteArray) : (syncD d s).2.fine ∧ (syncD d s).2.ws.length ≤ d.ws.length := by
  unfold syncD
  cases hf : (fileD d s).2 with
  | none => exact ⟨h, Nat.le_refl _⟩
  | some f =>
    obtain ⟨ho, _⟩ := file_on hf
    simp only
    cases hg : (goesD d).1
    · rw [if_neg (by decide)]
      refine ⟨⟨live_forget (live_upd (live_goes h.live) f.id syncF (fun _ => rfl)) f.id 0, goes_rd h.rd hg, Nat.le_trans (List.length_filter_le _ _) (by show (goesD d).2.ws.length ≤ _; rw [goes_ws]; exact h.ws), by show (goesD d).2.keep.length ≤ _; rw [goes_keep]; exact h.keep⟩, Nat.le_trans (List.length_filter_le _ _) (by show (goesD d).2.ws.length ≤ _; rw [goes_ws]; exact Nat.le_refl _)⟩
    · rw [if_pos rfl]
      unfold fallD
      have := crash_fine (live_goes h.live) (by rw [goes_off]; exact ho) (goesD d).2.keep
      exact ⟨this.1, by rw [this.2]; omega⟩
theorem cut_fine (h : d.fine) (s : ByteArray) (n : Int) : (cutD d s n).2.fine ∧ (cutD d s n).2.ws.length ≤ d.ws.length := by
  unfold cutD
  cases hf : (fileD d s).2 with
  | none => exact ⟨h, Nat.le_refl _⟩
  | some f =>
    obtain ⟨ho, _⟩ := file_on hf
    simp only
    by_cases hn : n < 0 ∨ (f.now.length : Int) < n
    · rw [if_pos hn]; exact ⟨h, Nat.le_refl _⟩
    · rw [if_neg hn]
      cases hg : (goesD d).1
      · rw [if_neg (by decide)]
        refine ⟨⟨live_forget (live_upd (live_goes h.live) f.id (shutF n.toNat) (fun _ => rfl)) f.id n, goes_rd h.rd hg, Nat.le_trans (List.length_filter_le _ _) (by show (goesD d).2.ws.length ≤ _; rw [goes_ws]; exact h.ws), by show (goesD d).2.keep.length ≤ _; rw [goes_keep]; exact h.keep⟩, Nat.le_trans (List.length_filter_le _ _) (by show (goesD d).2.ws.length ≤ _; rw [goes_ws]; exact Nat.le_refl _)⟩
      · rw [if_pos rfl]
        unfold fallD
        have := crash_fine (live_goes h.live) (by rw [goes_off]; exact ho) (goesD d).2.keep
        exact ⟨this.1, by rw [this.2]; omega⟩
theorem remove_fine (h : d.fine) (s : ByteArray) : (removeD d s).2.fine ∧ (removeD d s).2.ws.length ≤ d.ws.length := by
  unfold removeD
  cases hf : (fileD d s).2 with
  | none => exact ⟨h, Nat.le_refl _⟩
  | some f =>
    obtain ⟨ho, _⟩ := file_on hf
    simp only
    cases hg : (goesD d).1
    · rw [if_neg (by decide)]
      refine ⟨⟨live_drop (live_goes h.live) f, goes_rd h.rd hg, Nat.le_trans (List.length_filter_le _ _) (by show (goesD d).2.ws.length ≤ _; rw [goes_ws]; exact h.ws), by show (goesD d).2.keep.length ≤ _; rw [goes_keep]; exact h.keep⟩, Nat.le_trans (List.length_filter_le _ _) (by show (goesD d).2.ws.length ≤ _; rw [goes_ws]; exact Nat.le_refl _)⟩
    · rw [if_pos rfl]
      unfold fallD
      have := crash_fine (live_goes h.live) (by rw [goes_off]; exact ho) (goesD d).2.keep
      exact ⟨this.1, by rw [this.2]; omega⟩
theorem live_name (h : d.live) (id : Nat) (t : ByteArray) : ({ d with fs := nameF d.fs id t } : Ds).live := fun x hx => by
  obtain ⟨p, hp, he⟩ := h x hx
  refine ⟨_, List.mem_map.2 ⟨p, hp, rfl⟩, ?_⟩
  split <;> exact he
theorem rename_fine (h : d.fine) (a b : ByteArray) : (renameD d a b).2.fine ∧ (renameD d a b).2.ws.length ≤ d.ws.length := by
  unfold renameD
  cases ho : d.off
  · rw [if_neg (by decide)]
    by_cases h1 : nameOk a = false ∨ nameOk b = false
    · rw [if_pos h1]; exact ⟨h, Nat.le_refl _⟩
    · rw [if_neg h1]
      cases hf : d.find a with
      | none => exact ⟨h, Nat.le_refl _⟩
      | some f =>
        simp only
        have hwl : (goesD d).2.ws.length ≤ 900000 := by rw [goes_ws]; exact h.ws
        have hwe : (goesD d).2.ws.length ≤ d.ws.length := by rw [goes_ws]; exact Nat.le_refl _
        have hkl : (goesD d).2.keep.length ≤ 900000 := by rw [goes_keep]; exact h.keep
        cases hg : (goesD d).1
        · rw [if_neg (by decide)]
          have hr := goes_rd h.rd hg
          by_cases e : a = b
          · rw [if_pos e]
            exact ⟨⟨live_goes h.live, hr, hwl, hkl⟩, hwe⟩
          · rw [if_neg e]
            cases hb : d.find b with
            | none => exact ⟨⟨live_name (live_goes h.live) f.id b, hr, hwl, hkl⟩, hwe⟩
            | some o => exact ⟨⟨live_name (live_drop (live_goes h.live) o) f.id b, hr, Nat.le_trans (List.length_filter_le _ _) hwl, hkl⟩, Nat.le_trans (List.length_filter_le _ _) hwe⟩
        · rw [if_pos rfl]
          unfold fallD
          have := crash_fine (live_goes h.live) (by rw [goes_off]; exact ho) (goesD d).2.keep
          exact ⟨this.1, by rw [this.2]; omega⟩
  · rw [if_pos rfl]; exact ⟨h, Nat.le_refl _⟩
theorem restore_fine (h : d.fine) : (restoreD d).fine := ⟨h.live, h.rd, h.ws, h.keep⟩
end
end Go.Proofs.Ytfgpadikmnhldaa
