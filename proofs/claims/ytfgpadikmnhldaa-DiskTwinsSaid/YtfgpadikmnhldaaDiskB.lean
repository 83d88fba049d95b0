/-
  A disk's Used, and fits. Condition: it is a disk.
-/
import Derived.Test.YtfgpadikmnhldaaDiskA
import Derived.Test.YtfgpadikmnhldaaOne
import Derived.BigQuiet
namespace Go.Proofs.Ytfgpadikmnhldaa
open Go Go.RowKit
attribute [local go_sem] cell_set_if

/-- The sectors of files that are still to come. -/
def sumLeft (fs : List (ByteArray × Fl)) (left : Lit → Bool) : Nat := ((fs.filter fun p => left (kS p.1)).map fun p => p.2.now.length).sum
theorem sumLeft_none (fs : List (ByteArray × Fl)) {left : Lit → Bool} (h : ∀ k, left k = false) : sumLeft fs left = 0 := by
  unfold sumLeft
  rw [List.filter_eq_nil_iff.2 fun p _ => by simp [h]]; rfl
theorem sumLeft_all (fs : List (ByteArray × Fl)) {left : Lit → Bool} (h : ∀ p ∈ fs, left (kS p.1) = true) : sumLeft fs left = (fs.map fun p => p.2.now.length).sum := by
  unfold sumLeft
  rw [List.filter_eq_self.2 h]
theorem sameKey_kS (a b : ByteArray) : (kS a).sameKey (kS b) = decide (a = b) := by
  by_cases h : a = b
  · subst h
    rw [WideAt.sameKey_self (kS_key a)]; simp
  · rw [Maps.sameKey_ne fun e => h (kS_inj e)]; simp [h]
theorem sumLeft_next' {fs : List (ByteArray × Fl)} {left left' : Lit → Bool} {s : ByteArray} {f : Fl} (hn : (fs.map (·.1)).Nodup) (hf : (s, f) ∈ fs) (hl : left (kS s) = true) (hl' : ∀ k, left' k = (left k && !k.sameKey (kS s))) : sumLeft fs left = f.now.length + sumLeft fs left' := by
  unfold sumLeft
  induction fs with
  | nil => simp at hf
  | cons p l ih =>
    rw [List.map_cons, List.nodup_cons] at hn
    rcases List.mem_cons.1 hf with rfl | hf1
    · have e : l.filter (fun p => left' (kS p.1)) = l.filter fun p => left (kS p.1) := List.filter_congr fun p hp => by
        have : p.1 ≠ s := fun e => hn.1 (List.mem_map.2 ⟨p, hp, e⟩)
        rw [hl', sameKey_kS]; simp [this]
      have e2 : ¬ (left' (kS s) = true) := by rw [hl', sameKey_kS]; simp
      simp only [List.filter_cons]
      rw [if_pos hl, if_neg e2, e, List.map_cons, List.sum_cons]
    · have hps : p.1 ≠ s := fun e => hn.1 (List.mem_map.2 ⟨(s, f), hf1, e.symm⟩)
      have h3 := ih hn.2 hf1
      by_cases hp : left (kS p.1) = true
      · have e2 : left' (kS p.1) = true := by rw [hl', sameKey_kS, hp]; simp [hps]
        simp only [List.filter_cons]
        rw [if_pos hp, if_pos e2, List.map_cons, List.sum_cons, List.map_cons, List.sum_cons, h3]; omega
      · have e2 : ¬ (left' (kS p.1) = true) := by rw [hl', Bool.eq_false_iff.2 hp]; simp
        simp only [List.filter_cons]
        rw [if_neg hp, if_neg e2, h3]
theorem sumLeft_next {fs : List (ByteArray × Fl)} {left : Lit → Bool} {s : ByteArray} {f : Fl} (hn : (fs.map (·.1)).Nodup) (hf : (s, f) ∈ fs) (hl : left (kS s) = true) : sumLeft fs left = f.now.length + sumLeft fs (fun z => left z && !z.sameKey (kS s)) := sumLeft_next' hn hf hl fun _ => rfl
theorem sum_le_mul {l : List Nat} {k : Nat} (h : ∀ x ∈ l, x ≤ k) : l.sum ≤ l.length * k := by
  induction l with
  | nil => simp
  | cons x l ih =>
    rw [List.sum_cons, List.length_cons, Nat.add_mul]
    have h1 := h x (by simp)
    have h2 := ih fun y hy => h y (by simp [hy])
    omega
theorem usedD_le {d : Ds} (h : d.ok) : usedD d ≤ 240060 := by
  unfold usedD
  have h1 := sum_le_mul (l := d.fs.map fun p => p.2.now.length) (k := 4001) fun x hx => by
    obtain ⟨p, hp, rfl⟩ := List.mem_map.1 hx
    exact (h.now p hp).1
  rw [List.length_map] at h1
  have := h.few
  have h2 : d.fs.length * 4001 ≤ 60 * 4001 := Nat.mul_le_mul_right _ this
  omega
theorem dused_nil (w : World) : Calls Try.prog 10 #[.pointer none] w fun e w' => e = .returned (.int .i64 0) ∧ w' = w := by
  go_enter Try.func10, Try.ntmps10
  go_wp2
  go_ret
  exact ⟨rfl, rfl⟩
set_option maxRecDepth 100000 in
set_option maxHeartbeats 2000000 in
theorem dused_any {base : Nat} {d : Ds} {m : DM} (w : World) (h : DiskAt w base d m) :
    Calls Try.prog 10 #[.pointer (some ⟨m.g, 0, none⟩)] w fun e w' => e = .returned (.int .i64 (usedD d : Nat)) ∧ Below w.heap.size w w' := by
  have c0 : w.cell? ⟨m.g, 0, none⟩ = some (.map (some m.bm)) := h.blk.cell 0
  have hle := usedD_le h.ok
  have H := Lib.hid h
  obtain ⟨U, hU⟩ : ∃ U, U = usedD d := ⟨_, rfl⟩
  rw [← hU] at hle ⊢
  have HU := Lib.hid hU
  have HM := Lib.hid h.map
  clear h hU
  go_enter Try.func10, Try.ntmps10
  go_wp2_with (first
    | (at_range; refine wpList_rangeF rfl _ rfl rfl HM.out ?_; intro w0 hrg0 hg0 hs0)
    | go_in)
  have hb0 : Below w.heap.size w w0 := (Below.refl _ _).grown hg0 (Nat.le_refl _) (fun k hk => by cases hk)
  go_frame
  go_loopw [3] (fun u3 wr => ∃ (left : Lit → Bool) (cnt tot : Nat), u3 = .int .i64 tot ∧ tot ≤ U ∧ Hid (tot + sumLeft d.fs left = U) ∧ Hid (∀ k, left k = true → Maps.has m.D k = true) ∧ wr.ranges Try.prog 9 ptrR m.bm w.heap.size (Maps.size m.D) m.D left cnt ∧ Hid (Below w.heap.size w wr)) (fun _ wr => wr.rangeLeft m.bm w.heap.size)
  case atStart =>
    refine ⟨_, _, 0, rfl, by omega, ?_, fun k h => h, hrg0, hb0⟩
    unfold Hid
    rw [HU.out, Nat.zero_add]
    exact sumLeft_all _ fun p hp => (HM.out.has p.1).2 ⟨_, List.mem_map.2 ⟨p, hp, rfl⟩⟩
  case round =>
    obtain ⟨left, cnt, tot, rfl, htot, HT, HL, hrg, HB⟩ := hrel
    have hM := Lib.hid (HM.out.below HB.out)
    go_wp2_with (first
      | (at_next; refine wpList_nextF rfl _ rfl rfl hM.out hrg HL.out ?_ ?_)
      | go_in)
    · intro hno
      have hx := HT.out
      rw [sumLeft_none _ hno, Nat.add_zero] at hx
      have HX := Lib.hid hx
      clear hx hno hrg
      go_wp2
      go_ret
      exact ⟨by (rw [HX.out]) <;> rfl, HB.out⟩
    · intro s b w' cnt' hsb hl hrg' hlt hgr hsz hen
      obtain ⟨p, hp, e⟩ := List.mem_map.1 hsb
      obtain ⟨s', f⟩ := p
      injection e with e1 e2
      have hb' : Below w.heap.size w w' := HB.out.trans ((Below.refl _ wr).grown hgr HB.out.size (fun k hk => by injection hk with hk; omega))
      have hF := (H.out.below hb').fs (s', f) hp
      obtain ⟨A, c, hv, _⟩ := own_form hF.ol
      have k0 : w'.cell? ⟨b, 0, none⟩ = some (.slice A f.now.length c) := by rw [← hv, ← e2]; exact hF.blk.cell 0
      have hnx := sumLeft_next H.out.ok.names hp (e1 ▸ hl)
      have hT := HT.out
      rw [hnx] at hT
      obtain ⟨n, hn⟩ : ∃ n, n = f.now.length := ⟨_, rfl⟩
      rw [← hn] at k0 hT
      have ht2 : tot + n ≤ U := by omega
      have HTX : Hid ((tot + n) + sumLeft d.fs (fun z => left z && !z.sameKey (kS s)) = U) := by
        have e1' : s' = s := e1
        unfold Hid; rw [← e1']; omega
      have HLX : Hid (∀ k, (fun z => left z && !z.sameKey (kS s)) k = true → Maps.has m.D k = true) := fun k hk => by
        simp only [Bool.and_eq_true] at hk
        exact HL.out k hk.1
      have HB' := Lib.hid hb'
      clear hsb hl hp e1 e2 hb' hF hv hnx hT hn HT HL
      go_wp2
      go_roundw
      case rel => exact ⟨_, cnt', tot + n, by go_num, ht2, HTX, HLX, hrg', HB'⟩
      case measure => rw [hrg'.left_eq, hrg.left_eq]; exact hlt
theorem mapLen {w : World} {bm : Nat} {D : DataW Unit} {g : Names} (h : MapAt w bm D g) {k : Nat} (hk : g.length = k) (ty : TypeId) : (Builtin.len_ #[46] ty #[.map (some bm)]).run Try.prog w = .ok (.int .i64 (k : Nat)) w := by
  rw [h.own.len Try.underlying46 ty, h.size, hk]
set_option maxRecDepth 100000 in
set_option maxHeartbeats 2000000 in
theorem dfits_none {base : Nat} {d : Ds} {m : DM} (s : ByteArray) (pos : Int) (w : World) (h : DiskAt w base d m) (hf : d.find s = none) :
    Calls Try.prog 33 #[.pointer (some ⟨m.g, 0, none⟩), .pointer none, .bool false, .int .i64 pos] w fun e w' => e = .returned (.bool (fitsD d s pos)) ∧ Below w.heap.size w w' := by
  have c0 : w.cell? ⟨m.g, 0, none⟩ = some (.map (some m.bm)) := h.blk.cell 0
  obtain ⟨n, hn⟩ : ∃ n, d.fs.length = n := ⟨_, rfl⟩
  have hn60 : n ≤ 60 := by rw [← hn]; exact h.ok.few
  have hni : (n : Int) ≤ 60 := by omega
  have hnm : (namesD d m).length = n := by unfold namesD; rw [List.length_map, hn]
  have hlen := mapLen h.map hnm
  have HM := Lib.hid h.map
  have HNM := Lib.hid hnm
  by_cases h60 : 60 ≤ n
  · have HF : Hid (fitsD d s pos = false) := by unfold Hid fitsD; rw [hf, hn, decide_eq_true h60]; rfl
    have hd : decide (60 ≤ (n : Int)) = true := decide_eq_true (by omega)
    clear h hf hn hnm
    go_enter Try.func33, Try.ntmps33
    go_wp2
    go_ret
    exact ⟨by (rw [HF.out]) <;> rfl, Below.refl _ _⟩
  · have hd : decide (60 ≤ (n : Int)) = false := decide_eq_false (by omega)
    obtain ⟨r, hr⟩ : ∃ r, d.room = r := ⟨_, rfl⟩
    have c3 : w.cell? ⟨m.g, 3, none⟩ = some (.int .i64 r) := by rw [← hr]; exact h.blk.cell 3
    obtain ⟨U, hU⟩ : ∃ U, usedD d = U := ⟨_, rfl⟩
    have HU : Hid (∀ w', DiskAt w' base d m → Calls Try.prog 10 #[.pointer (some ⟨m.g, 0, none⟩)] w' fun e w2 => e = .returned (.int .i64 (U : Nat)) ∧ Below w'.heap.size w' w2) := fun w' h' => by rw [← hU]; exact dused_any w' h'
    have H := Lib.hid h
    have HF : Hid (fitsD d s pos = (decide (r ≤ 0) || decide ((U : Int) < r))) := by unfold Hid fitsD; rw [hf, hn, decide_eq_false h60, hr, hU]; simp
    clear h hf hn hnm hr hU
    by_cases hr0 : r ≤ 0
    · have hd2 : decide (r ≤ 0) = true := decide_eq_true hr0
      have HF2 : Hid (fitsD d s pos = true) := by unfold Hid; rw [HF.out, hd2]; rfl
      clear HF
      go_enter Try.func33, Try.ntmps33
      go_wp2
      go_quiet (fail)
      go_wp2
      go_ret
      exact ⟨by (rw [HF2.out]) <;> rfl, (Qt.drewN _ _).below _⟩
    · have hd2 : decide (r ≤ 0) = false := decide_eq_false hr0
      have HF2 : Hid (fitsD d s pos = decide ((U : Int) < r)) := by unfold Hid; rw [HF.out, hd2]; rfl
      have hUc : ∀ q : NewM w, Calls Try.prog 10 #[.pointer (some ⟨m.g, 0, none⟩)] q.w' fun e w2 => e = .returned (.int .i64 (U : Nat)) ∧ Below q.w'.heap.size q.w' w2 := fun q => HU.out _ (H.out.below q.h)
      have c3n := NewM.cell c3
      have HUC := Lib.hid hUc
      clear HF hUc
      go_enter Try.func33, Try.ntmps33
      go_upto_region 4 with fail
      refine wp_region_quiet_new (by kernel_rfl) (by kernel_rfl) ?_
      repeat (go_big_quiet_step (first | (go_at_call 10; with_reducible exact NewM.call (HUC.out _))))
      refine wpQuiet_nil ?_
      rintro _ ⟨q, rfl⟩
      go_wp2
      go_ret
      exact ⟨by (rw [HF2.out]) <;> rfl, q.h⟩
set_option maxRecDepth 100000 in
set_option maxHeartbeats 2000000 in
theorem dfits_some {base : Nat} {d : Ds} {m : DM} {f : Fl} (s : ByteArray) (pos : Int) (w : World) (h : DiskAt w base d m) (hf : d.find s = some f) :
    Calls Try.prog 33 #[.pointer (some ⟨m.g, 0, none⟩), .pointer (some ⟨m.ρ f.id, 0, none⟩), .bool true, .int .i64 pos] w fun e w' => e = .returned (.bool (fitsD d s pos)) ∧ Below w.heap.size w w' := by
  obtain ⟨A, c, hv, _⟩ := own_form (h.fs _ (Ds.find_mem hf)).ol
  obtain ⟨n, hn⟩ : ∃ n, f.now.length = n := ⟨_, rfl⟩
  have k0 : w.cell? ⟨m.ρ f.id, 0, none⟩ = some (.slice A n c) := by rw [← hn, ← hv]; exact (h.fs _ (Ds.find_mem hf)).blk.cell 0
  obtain ⟨r, hr⟩ : ∃ r, d.room = r := ⟨_, rfl⟩
  have c3 : w.cell? ⟨m.g, 3, none⟩ = some (.int .i64 r) := by rw [← hr]; exact h.blk.cell 3
  obtain ⟨U, hU⟩ : ∃ U, usedD d = U := ⟨_, rfl⟩
  have HU : Hid (∀ w', DiskAt w' base d m → Calls Try.prog 10 #[.pointer (some ⟨m.g, 0, none⟩)] w' fun e w2 => e = .returned (.int .i64 (U : Nat)) ∧ Below w'.heap.size w' w2) := fun w' h' => by rw [← hU]; exact dused_any w' h'
  have H := Lib.hid h
  have HF : Hid (fitsD d s pos = (!decide (pos = (n : Int)) || decide (r ≤ 0) || decide ((U : Int) < r))) := by
    have e : sizeOf_ d s = n := by unfold sizeOf_; rw [hf]; exact hn
    unfold Hid fitsD; rw [hf, e, hr, hU]; simp
  clear h hf hn hr hU hv
  by_cases hp : pos = (n : Int)
  · have hd1 : (pos == (n : Int)) = true := by simpa using hp
    by_cases hr0 : r ≤ 0
    · have hd2 : decide (r ≤ 0) = true := decide_eq_true hr0
      have HF2 : Hid (fitsD d s pos = true) := by unfold Hid; rw [HF.out, hd2]; simp
      subst hp
      clear HF
      go_enter Try.func33, Try.ntmps33
      go_wp2
      go_quiet (fail)
      go_wp2
      go_ret
      exact ⟨by (rw [HF2.out]) <;> rfl, (Qt.drewN _ _).below _⟩
    · have hd2 : decide (r ≤ 0) = false := decide_eq_false hr0
      have HF2 : Hid (fitsD d s pos = decide ((U : Int) < r)) := by unfold Hid; rw [HF.out, hd2, hp]; simp
      have hUc : ∀ q : NewM w, Calls Try.prog 10 #[.pointer (some ⟨m.g, 0, none⟩)] q.w' fun e w2 => e = .returned (.int .i64 (U : Nat)) ∧ Below q.w'.heap.size q.w' w2 := fun q => HU.out _ (H.out.below q.h)
      have c3n := NewM.cell c3
      have HUC := Lib.hid hUc
      subst hp
      clear HF hUc
      go_enter Try.func33, Try.ntmps33
      go_upto_region 4 with fail
      refine wp_region_quiet_new (by kernel_rfl) (by kernel_rfl) ?_
      repeat (go_big_quiet_step (first | (go_at_call 10; with_reducible exact NewM.call (HUC.out _))))
      refine wpQuiet_nil ?_
      rintro _ ⟨q, rfl⟩
      go_wp2
      go_ret
      exact ⟨by (rw [HF2.out]) <;> rfl, q.h⟩
  · have hd1 : (pos == (n : Int)) = false := by simpa using hp
    have HF2 : Hid (fitsD d s pos = true) := by unfold Hid; rw [HF.out, decide_eq_false hp]; rfl
    clear HF
    go_enter Try.func33, Try.ntmps33
    go_wp2
    go_quiet (fail)
    go_wp2
    go_ret
    exact ⟨by (rw [HF2.out]) <;> rfl, (Qt.drewN _ _).below _⟩
end Go.Proofs.Ytfgpadikmnhldaa
