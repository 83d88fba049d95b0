/-
  A disk's small calls: New, may, file, goes, On, Restore, Room, Dirty, Size, Read. Conditions: none but that it is a disk.
-/
import Derived.Test.YtfgpadikmnhldaaDiskN
import Derived.Test.YtfgpadikmnhldaaOne
namespace Go.Proofs.Ytfgpadikmnhldaa
open Go Go.RowKit
attribute [local go_sem] cell_set_if

section
variable {w w' : World} {base b : Nat} {d d' : Ds} {m m' : DM}
theorem Ds.ok.same (h : d.ok) (h1 : d'.fs = d.fs) (h2 : d'.ws = d.ws) (h3 : d'.next = d.next) : d'.ok :=
  ⟨h1 ▸ h.names, h1 ▸ h.ids, h1 ▸ h.few, h1 ▸ h.short, h1 ▸ h.now, h1 ▸ h.safe, by rw [h2, h3]; exact h.ws, by rw [h1, h3]; exact h.next⟩
/-- One of the disk's own numbers is set. -/
theorem DiskAt.setOne (h : DiskAt w base d m) (i : Nat) (v : Value) (h1 : d'.fs = d.fs) (h2 : d'.ws = d.ws) (h3 : d'.next = d.next) (h4 : d'.keep = d.keep) (hc : cellsD d' m = (cellsD d m).setIfInBounds i v) :
    DiskAt (w.setCell ⟨m.g, i, none⟩ v) base d' m ∧ Turn (mineD d m) w (mineD d' m) (w.setCell ⟨m.g, i, none⟩ v) := by
  have F : Frm (at1 m.g) w (w.setCell ⟨m.g, i, none⟩ v) := (Frm.refl (at1 m.g) _).setCell (p := ⟨m.g, i, none⟩) (fun _ => rfl) _
  have hb := h.blk.set_ i v
  rw [← hc] at hb
  exact h.cells (vw' := m.vw) (vk' := m.vk) h1 (h.ok.same h1 h2 h3) (F.mono fun q _ hq => .inl hq) hb (by rw [h2]; exact own_frm h.ow F (fun q hq e => h.blk.own_ne h.ow (by decide) (e ▸ hq)))
    (by rw [h4]; exact own_frm h.ok_ F (fun q hq e => h.blk.own_ne h.ok_ (by decide) (e ▸ hq))) (fun _ hq => .inl hq) (fun _ hq => .inl hq)
end
theorem dnew_any (room : Int) (w : World) :
    Calls Try.prog 6 #[.int .i64 room] w fun e w' => ∃ m : DM, e = .returned (.pointer (some ⟨m.g, 0, none⟩)) ∧ DiskAt w' w.heap.size (newD room) m ∧ Below w.heap.size w w' := by
  have hmk := run_makeMap (P := Try.prog) 46 w
  go_enter Try.func6, Try.ntmps6
  go_wp2
  go_ret
  have h0 := MapAt.made w
  have ba : ∀ o, Below (w.alloc (.map #[] 0)).heap.size (w.alloc (.map #[] 0)) ((w.alloc (.map #[] 0)).alloc o) := fun o => (Below.refl _ _).alloc (Nat.le_refl _) o
  refine ⟨⟨(w.alloc (.map #[] 0)).heap.size, w.heap.size, .map [], fun _ => 0, fun _ _ => .slice none 0 0, .slice none 0 0, .slice none 0 0⟩, by simp, ⟨newD_ok _, Blk.new _ _ _, by simp, Nat.le_refl _, h0.below (ba _), World.ownsRow_nil _ _ _ _, World.ownsRow_nil _ _ _ _, fun p hp => by simp [newD] at hp, fun p hp => by simp [newD] at hp, fun p hp => by simp [newD] at hp⟩, ((Below.refl _ _).alloc (Nat.le_refl _) _).trans ((ba _).mono (by simp))⟩
theorem dname_any (s : ByteArray) (w : World) : Calls Try.prog 45 #[.string s] w fun e w' => e = .returned (.bool (nameOk s)) ∧ w' = w := by
  unfold nameOk
  by_cases h1 : 1 ≤ s.size
  · have h1i : 1 ≤ (s.size : Int) := by omega
    have hd : decide (1 ≤ s.size) = true := decide_eq_true h1
    have hd2 : decide (s.size ≤ 40) = decide ((s.size : Int) ≤ 40) := by rw [Bool.eq_iff_iff]; simp; omega
    rw [hd, Bool.true_and, hd2]
    clear hd hd2
    go_enter Try.func45, Try.ntmps45
    go_wp2
    go_ret
    exact ⟨rfl, rfl⟩
  · have h1i : (s.size : Int) < 1 := by omega
    have hd : decide (1 ≤ s.size) = false := decide_eq_false h1
    rw [hd, Bool.false_and]
    clear hd
    go_enter Try.func45, Try.ntmps45
    go_wp2
    go_ret
    exact ⟨rfl, rfl⟩
/-- A disk that is asked by names: the reason why not. -/
def mayN (d : Ds) (l : List ByteArray) : Int := if d.off then 14 else if l.all nameOk then 0 else 1
theorem mayN_one (d : Ds) (s : ByteArray) : mayN d [s] = mayD d s := by unfold mayN mayD; simp
theorem dmay_nil (A : Option Addr) (n c : Nat) (w : World) : Calls Try.prog 32 #[.pointer none, .slice A n c] w fun e w' => e = .returned (.int .i64 14) ∧ w' = w := by
  go_enter Try.func32, Try.ntmps32
  go_wp2
  go_ret
  exact ⟨rfl, rfl⟩
set_option maxRecDepth 100000 in
set_option maxHeartbeats 1000000 in
theorem dmay_any {base : Nat} {d : Ds} {m : DM} (A : Option Addr) (n c : Nat) (l : List ByteArray) (w : World) (h : DiskAt w base d m) (hr : Rd w A (strs l)) (hn : l.length = n) (hm : n ≤ 1000) :
    Calls Try.prog 32 #[.pointer (some ⟨m.g, 0, none⟩), .slice A n c] w fun e w' => e = .returned (.int .i64 (mayN d l)) ∧ w' = w := by
  have c2 : w.cell? ⟨m.g, 2, none⟩ = some (.bool d.off) := h.blk.cell 2
  cases ho : d.off
  · rw [ho] at c2
    have HM : Hid (mayN d l = if l.all nameOk then 0 else 1) := by unfold Hid mayN; rw [ho]; rfl
    have HR := Lib.hid hr
    have HN := Lib.hid hn
    have hni : (n : Int) ≤ 1000 := by omega
    clear h ho hr hn
    go_enter Try.func32, Try.ntmps32
    go_wp2
    go_loopw [17] (fun u17 wr => ∃ k : Nat, k ≤ n ∧ u17 = .int .i64 k ∧ Hid (∀ (j : Nat) x, j < k → l[j]? = some x → nameOk x = true) ∧ wr = w) (fun u17 _ => n - (intOf u17).toNat)
    case atStart => exact ⟨0, by omega, rfl, fun j x hj => by omega, rfl⟩
    case round =>
      obtain ⟨k, hk, rfl, HK, rfl⟩ := hrel
      by_cases hlt : k < n
      · obtain ⟨b1, o1, rfl, hb1, hc⟩ := HR.out.flat (by rw [strs_len]; have := HN.out; omega)
        obtain ⟨x, hx⟩ : ∃ x, l[k]? = some x := ⟨l[k]'(by have := HN.out; omega), List.getElem?_eq_getElem _⟩
        have d0 := hc k _ (strs_at hx)
        have hki : (k : Int) < (n : Int) := by omega
        have HX := Lib.hid hx
        cases hq : nameOk x
        · have HD : Hid (mayN d l = 1) := by
            unfold Hid; rw [HM.out, if_neg]
            intro h
            rw [List.all_eq_true.1 h x (List.mem_of_getElem? hx)] at hq; cases hq
          have hnm := dname_any x wr
          rw [hq] at hnm
          have HNM := Lib.hid hnm
          clear hnm hx hc hq
          go_wp2_with (go_at_call 45; refine HNM.out.mono ?_; rintro e w2 ⟨rfl, hw⟩; subst hw)
          go_ret
          exact ⟨by (rw [HD.out]) <;> rfl, rfl⟩
        · have HY : Hid (∀ (j : Nat) y, j < k + 1 → l[j]? = some y → nameOk y = true) := fun j y hj hy => by
            by_cases e : j = k
            · subst e; rw [hx] at hy; rw [← Option.some.inj hy]; exact hq
            · exact HK.out j y (by omega) hy
          have hnm := dname_any x wr
          rw [hq] at hnm
          have HNM := Lib.hid hnm
          clear hnm hx hc hq
          go_wp2_with (go_at_call 45; refine HNM.out.mono ?_; rintro e w2 ⟨rfl, hw⟩; subst hw)
          go_roundw
          case rel => exact ⟨k + 1, by omega, by go_num, HY, by first | rfl | trivial⟩
          case measure => simp [intOf]; omega
      · obtain rfl : n = k := by omega
        have HD : Hid (mayN d l = 0) := by
          unfold Hid; rw [HM.out, if_pos]
          refine List.all_eq_true.2 fun x hx => ?_
          obtain ⟨j, hj⟩ := List.mem_iff_getElem?.1 hx
          exact HK.out j x (by have := (List.getElem?_eq_some_iff.1 hj).1; have := HN.out; omega) hj
        go_wp2
        go_ret
        exact ⟨by (rw [HD.out]) <;> rfl, rfl⟩
  · rw [ho] at c2
    have HM : Hid (mayN d l = 14) := by unfold Hid mayN; rw [ho]; rfl
    clear h ho hr hn
    go_enter Try.func32, Try.ntmps32
    go_wp2
    go_ret
    exact ⟨by (rw [HM.out]) <;> rfl, rfl⟩
theorem dmay_one {base : Nat} {d : Ds} {m : DM} {e0 : Int} {s : ByteArray} (he : mayD d s = e0) (g c : Nat) (w : World) (h : DiskAt w base d m) (hr : Rd w (some ⟨g, 0, none⟩) [.string s]) :
    Calls Try.prog 32 #[.pointer (some ⟨m.g, 0, none⟩), .slice (some ⟨g, 0, none⟩) 1 c] w fun e w' => e = .returned (.int .i64 e0) ∧ w' = w := by
  have := dmay_any (some ⟨g, 0, none⟩) 1 c [s] w h hr rfl (by omega)
  rw [mayN_one, he] at this
  exact this
/-- What 'file' tells. -/
def fileV (d : Ds) (m : DM) (s : ByteArray) : Value × Int := match fileD d s with
  | (e, none) => (.pointer none, e)
  | (e, some f) => (.pointer (some ⟨m.ρ f.id, 0, none⟩), e)
theorem Ds.mem_names {d : Ds} {m : DM} {s : ByteArray} {f : Fl} (h : d.find s = some f) : (s, m.ρ f.id) ∈ namesD d m := List.mem_map.2 ⟨_, Ds.find_mem h, rfl⟩
theorem Ds.not_names {d : Ds} {m : DM} {s : ByteArray} (h : d.find s = none) : ∀ b, (s, b) ∉ namesD d m := fun b hb => by
  obtain ⟨p, hp, e⟩ := List.mem_map.1 hb
  injection e with e _
  exact Ds.find_none h p hp e
theorem mayD_size {d : Ds} {s : ByteArray} (h : mayD d s = 0) : s.size ≤ 40 ∧ 1 ≤ s.size ∧ d.off = false := by
  unfold mayD at h
  cases ho : d.off
  · rw [ho] at h
    simp only [Bool.false_eq_true, if_false] at h
    unfold nameOk at h
    by_cases hn : (decide (1 ≤ s.size) && decide (s.size ≤ 40)) = true
    · rw [Bool.and_eq_true, decide_eq_true_eq, decide_eq_true_eq] at hn; exact ⟨hn.2, hn.1, rfl⟩
    · rw [if_neg hn] at h; omega
  · rw [ho] at h; simp at h
set_option maxRecDepth 100000 in
set_option maxHeartbeats 1000000 in
theorem dfile_any {base : Nat} {d : Ds} {m : DM} (s : ByteArray) (w : World) (h : DiskAt w base d m) :
    Calls Try.prog 38 #[.pointer (some ⟨m.g, 0, none⟩), .string s] w fun e w' => e = .returned (.tuple #[(fileV d m s).1, .int .i64 (fileV d m s).2]) ∧ Below w.heap.size w w' := by
  have ba : Below w.heap.size w (w.alloc (.cells #[.string s] 9)) := (Below.refl _ _).alloc (Nat.le_refl _) _
  have h1 := h.below ba
  have R1 := Rd.one w (.string s) 9
  obtain ⟨e0, he⟩ : ∃ e0, mayD d s = e0 := ⟨_, rfl⟩
  have HMAY := Lib.hid (dmay_one he w.heap.size 1 _ h1 R1)
  have c0 : (w.alloc (.cells #[.string s] 9)).cell? ⟨m.g, 0, none⟩ = some (.map (some m.bm)) := h1.blk.cell 0
  have HMAP := Lib.hid h1.map
  by_cases hz : e0 = 0
  · subst hz
    have hs := (mayD_size he).1
    cases hf : d.find s with
    | none =>
      have HV : Hid (fileV d m s = (.pointer none, 8)) := by unfold Hid fileV fileD; rw [if_neg (by rw [he]; simp), hf]
      have HNO := Lib.hid (Ds.not_names (m := m) hf)
      clear h h1 he hf R1
      go_enter Try.func38, Try.ntmps38
      go_wp2_with (first
        | (go_at_call 32; refine HMAY.out.mono ?_; rintro e w1 ⟨rfl, hw⟩; subst hw)
        | (at_lookup; refine wpList_look_no rfl _ _ rfl rfl rfl HMAP.out (by unfold maxLen; omega) HNO.out ?_))
      go_ret2
      exact ⟨by (rw [HV.out]) <;> rfl, ba⟩
    | some f =>
      have HV : Hid (fileV d m s = (.pointer (some ⟨m.ρ f.id, 0, none⟩), 0)) := by unfold Hid fileV fileD; rw [if_neg (by rw [he]; simp), hf]
      have HYES := Lib.hid (Ds.mem_names (m := m) hf)
      clear h h1 he hf R1
      go_enter Try.func38, Try.ntmps38
      go_wp2_with (first
        | (go_at_call 32; refine HMAY.out.mono ?_; rintro e w1 ⟨rfl, hw⟩; subst hw)
        | (at_lookup; refine wpList_look_yes rfl _ _ rfl rfl rfl HMAP.out (by unfold maxLen; omega) HYES.out ?_))
      go_ret2
      exact ⟨by (rw [HV.out]) <;> rfl, ba⟩
  · have HV : Hid (fileV d m s = (.pointer none, e0)) := by unfold Hid fileV fileD; rw [if_pos (by rw [he]; exact hz), he]
    have hz' : (e0 != 0) = true := by simpa using hz
    clear h h1 he R1
    go_enter Try.func38, Try.ntmps38
    go_wp2_with (go_at_call 32; refine HMAY.out.mono ?_; rintro e w1 ⟨rfl, hw⟩; subst hw)
    go_ret2
    exact ⟨by (rw [HV.out]) <;> rfl, ba⟩
theorem dgoes_any {base : Nat} {d : Ds} {m : DM} (w : World) (h : DiskAt w base d m) (hrd : d.rd) :
    Calls Try.prog 34 #[.pointer (some ⟨m.g, 0, none⟩)] w fun e w' => e = .returned (.bool (goesD d).1) ∧ DiskAt w' base (goesD d).2 m ∧ Turn (mineD d m) w (mineD (goesD d).2 m) w' := by
  have c4 : w.cell? ⟨m.g, 4, none⟩ = some (.bool d.armed) := h.blk.cell 4
  have c5 : w.cell? ⟨m.g, 5, none⟩ = some (.int .i64 d.left) := h.blk.cell 5
  have f5 := h.blk.free 5
  have H := Lib.hid h
  cases ha : d.armed
  · rw [ha] at c4
    have HG : Hid (goesD d = (false, d)) := by unfold Hid goesD; rw [ha]; rfl
    clear h ha hrd
    go_enter Try.func34, Try.ntmps34
    go_wp2
    go_ret
    exact ⟨by (rw [HG.out]) <;> rfl, by rw [HG.out]; exact H.out, by rw [HG.out]; exact Turn.refl _ _⟩
  · rw [ha] at c4
    obtain ⟨hl0, hl1⟩ := hrd ha
    obtain ⟨l, hl⟩ : ∃ l, l = d.left := ⟨_, rfl⟩
    rw [← hl] at c5 hl0 hl1
    have HG : Hid (goesD d = (decide (l - 1 < 0), { d with left := l - 1 })) := by unfold Hid goesD; rw [ha, hl]; rfl
    have HS := Lib.hid (H.out.setOne (d' := { d with left := l - 1 }) 5 (.int .i64 (l - 1)) rfl rfl rfl rfl rfl)
    clear h ha hrd hl
    go_enter Try.func34, Try.ntmps34
    go_wp2
    go_ret
    exact ⟨by (rw [HG.out]) <;> rfl, by rw [HG.out]; exact HS.out.1, by rw [HG.out]; exact HS.out.2⟩
theorem don_any {base : Nat} {d : Ds} {m : DM} (w : World) (h : DiskAt w base d m) :
    Calls Try.prog 13 #[.pointer (some ⟨m.g, 0, none⟩)] w fun e w' => e = .returned (.bool (!d.off)) ∧ w' = w := by
  have c2 : w.cell? ⟨m.g, 2, none⟩ = some (.bool d.off) := h.blk.cell 2
  clear h
  go_enter Try.func13, Try.ntmps13
  go_wp2
  go_ret
  exact ⟨rfl, rfl⟩
theorem drestore_any {base : Nat} {d : Ds} {m : DM} (w : World) (h : DiskAt w base d m) :
    Calls Try.prog 18 #[.pointer (some ⟨m.g, 0, none⟩)] w fun e w' => e = .returned (.tuple #[]) ∧ DiskAt w' base (restoreD d) m ∧ Turn (mineD d m) w (mineD (restoreD d) m) w' := by
  have c2 : w.cell? ⟨m.g, 2, none⟩ = some (.bool d.off) := h.blk.cell 2
  have f2 := h.blk.free 2
  have HS := Lib.hid (h.setOne (d' := restoreD d) 2 (.bool false) rfl rfl rfl rfl rfl)
  clear h
  go_enter Try.func18, Try.ntmps18
  go_wp2
  go_end0
  exact ⟨rfl, HS.out.1, HS.out.2⟩
theorem ddirty_any {base : Nat} {d : Ds} {m : DM} (w : World) (h : DiskAt w base d m) :
    Calls Try.prog 11 #[.pointer (some ⟨m.g, 0, none⟩)] w fun e w' => e = .returned (.int .i64 (d.ws.length : Nat)) ∧ w' = w := by
  obtain ⟨A, c, hv, _⟩ := own_form h.ow
  have c1 : w.cell? ⟨m.g, 1, none⟩ = some (.slice A d.ws.length c) := by rw [← hv]; exact h.blk.cell 1
  clear h hv
  go_enter Try.func11, Try.ntmps11
  go_wp2
  go_ret
  exact ⟨rfl, rfl⟩
end Go.Proofs.Ytfgpadikmnhldaa
