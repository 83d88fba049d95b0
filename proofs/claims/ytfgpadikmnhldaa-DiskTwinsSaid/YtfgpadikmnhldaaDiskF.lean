/-
  What a crash makes of the files, in plain words; a write is done upon a disk; a range over the files beside what turns. No condition of its own.
-/
import Derived.Test.YtfgpadikmnhldaaDiskE
namespace Go.Proofs.Ytfgpadikmnhldaa
open Go Go.RowKit
attribute [local go_sem] cell_set_if

def nowF (f : Fl) : Fl := { f with now := f.safe }
/-- What a file is while the crash goes through the names. -/
def cur1 (left : Lit → Bool) (p : ByteArray × Fl) : Option (ByteArray × Fl) := if left (kS p.1) then some p else if p.2.known then some (p.1, nowF p.2) else none
def curF (F : List (ByteArray × Fl)) (left : Lit → Bool) : List (ByteArray × Fl) := F.filterMap (cur1 left)
theorem cur_all {F : List (ByteArray × Fl)} {left : Lit → Bool} (h : ∀ p ∈ F, left (kS p.1) = true) : curF F left = F := by
  induction F with
  | nil => rfl
  | cons p l ih =>
    unfold curF
    rw [List.filterMap_cons_some (b := p) (by unfold cur1; rw [if_pos (h p (by simp))])]
    show p :: curF l left = p :: l
    rw [ih fun q hq => h q (by simp [hq])]
theorem cur_none {F : List (ByteArray × Fl)} {left : Lit → Bool} (h : ∀ k, left k = false) : curF F left = leftF F := by
  induction F with
  | nil => rfl
  | cons p l ih =>
    unfold curF leftF
    cases hk : p.2.known
    · rw [List.filterMap_cons_none (by unfold cur1; rw [h, hk]; rfl), List.filter_cons_of_neg (by simp [hk])]
      exact ih
    · have e1 : (p :: l).filter (fun p => p.2.known) = p :: l.filter fun p => p.2.known := List.filter_cons_of_pos (p := fun p : ByteArray × Fl => p.2.known) hk
      rw [List.filterMap_cons_some (b := (p.1, nowF p.2)) (by unfold cur1; rw [h, hk]; rfl), e1, List.map_cons]
      show _ :: curF l left = _ :: leftF l
      rw [ih]; rfl
theorem cur_mem {F : List (ByteArray × Fl)} {left : Lit → Bool} {p : ByteArray × Fl} (hp : p ∈ F) (h : left (kS p.1) = true) : p ∈ curF F left := List.mem_filterMap.2 ⟨p, hp, by unfold cur1; rw [if_pos h]⟩
theorem cur_from {F : List (ByteArray × Fl)} {left : Lit → Bool} {p : ByteArray × Fl} (h : p ∈ curF F left) : ∃ q ∈ F, p = q ∨ p = (q.1, nowF q.2) := by
  obtain ⟨q, hq, e⟩ := List.mem_filterMap.1 h
  refine ⟨q, hq, ?_⟩
  unfold cur1 at e
  split at e
  · exact .inl (Option.some.inj e).symm
  · split at e
    · exact .inr (Option.some.inj e).symm
    · cases e
theorem cur_sub {α : Type} (g : ByteArray × Fl → α) (hg : ∀ p, g (p.1, nowF p.2) = g p) (F : List (ByteArray × Fl)) (left : Lit → Bool) : ((curF F left).map g).Sublist (F.map g) := by
  induction F with
  | nil => exact List.Sublist.slnil
  | cons p l ih =>
    unfold curF
    cases hc : cur1 left p with
    | none => rw [List.filterMap_cons_none hc]; exact ih.trans (List.sublist_cons_self _ _)
    | some q =>
      rw [List.filterMap_cons_some hc, List.map_cons, List.map_cons]
      have e : g q = g p := by
        unfold cur1 at hc
        split at hc
        · rw [Option.some.inj hc]
        · split at hc
          · rw [← Option.some.inj hc]; exact hg p
          · cases hc
      rw [e]
      exact List.Sublist.cons_cons _ ih
theorem cur_ok {d : Ds} (h : d.ok) (left : Lit → Bool) : (d.withFs (curF d.fs left)).ok := by
  have hm : ∀ p ∈ curF d.fs left, ∃ q ∈ d.fs, p = q ∨ p = (q.1, nowF q.2) := fun p hp => cur_from hp
  refine ⟨(cur_sub (·.1) (fun _ => rfl) d.fs left).nodup h.names, (cur_sub (·.2.id) (fun _ => rfl) d.fs left).nodup h.ids, ?_, fun p hp => ?_, fun p hp => ?_, fun p hp => ?_, h.ws, fun p hp => ?_⟩
  · have := (cur_sub (·.1) (fun _ => rfl) d.fs left).length_le
    rw [List.length_map, List.length_map] at this
    exact Nat.le_trans this h.few
  · obtain ⟨q, hq, rfl | rfl⟩ := hm p hp
    · exact h.short _ hq
    · exact h.short q hq
  · obtain ⟨q, hq, rfl | rfl⟩ := hm p hp
    · exact h.now _ hq
    · exact h.safe q hq
  · obtain ⟨q, hq, rfl | rfl⟩ := hm p hp
    · exact h.safe _ hq
    · exact h.safe q hq
  · obtain ⟨q, hq, rfl | rfl⟩ := hm p hp
    · exact h.next _ hq
    · exact h.next q hq
theorem filterMap_congr' {α β : Type} {l : List α} {f g : α → Option β} (h : ∀ x ∈ l, f x = g x) : l.filterMap f = l.filterMap g := by
  induction l with
  | nil => rfl
  | cons x l ih =>
    have h1 := h x (by simp)
    have h2 := ih fun y hy => h y (by simp [hy])
    cases hf : f x with
    | none => rw [List.filterMap_cons_none hf, List.filterMap_cons_none (h1 ▸ hf), h2]
    | some b => rw [List.filterMap_cons_some hf, List.filterMap_cons_some (h1 ▸ hf), h2]
section
variable {F : List (ByteArray × Fl)} {left left' : Lit → Bool} {s : ByteArray} {f : Fl}
theorem cur_upd (hn : (F.map (·.1)).Nodup) (hi : (F.map (·.2.id)).Nodup) (hf : (s, f) ∈ F) (hl : left (kS s) = true) (hl' : ∀ k, left' k = (left k && !k.sameKey (kS s))) (hk : f.known = true) : updF (curF F left) f.id nowF = curF F left' := by
  unfold curF updF
  rw [List.map_filterMap]
  refine filterMap_congr' fun p hp => ?_
  by_cases e : p.2.id = f.id
  · have : p = (s, f) := nodup_get (g := fun p : ByteArray × Fl => p.2.id) hi hp hf e
    subst this
    unfold cur1
    rw [if_pos hl, hl', sameKey_kS, hk]
    simp
  · have hps : p.1 ≠ s := fun e1 => e (by rw [nodup_get (g := fun p : ByteArray × Fl => p.1) hn hp hf e1])
    have hll : left' (kS p.1) = left (kS p.1) := by rw [hl', sameKey_kS]; simp [hps]
    have e2 : ¬ (nowF p.2).id = f.id := e
    unfold cur1
    rw [hll]
    cases left (kS p.1)
    · cases p.2.known
      · rfl
      · simp [e2]
    · simp [e]
theorem cur_del (hn : (F.map (·.1)).Nodup) (hi : (F.map (·.2.id)).Nodup) (hf : (s, f) ∈ F) (hl' : ∀ k, left' k = (left k && !k.sameKey (kS s))) (hk : f.known = false) : (updF (curF F left) f.id nowF).filter (fun p => !decide (p.2.id = f.id)) = curF F left' := by
  unfold curF updF
  rw [List.map_filterMap, List.filter_filterMap]
  refine filterMap_congr' fun p hp => ?_
  by_cases e : p.2.id = f.id
  · have : p = (s, f) := nodup_get (g := fun p : ByteArray × Fl => p.2.id) hi hp hf e
    subst this
    unfold cur1
    rw [hl', sameKey_kS, hk]
    cases left (kS s)
    · simp
    · simp [nowF]
  · have hps : p.1 ≠ s := fun e1 => e (by rw [nodup_get (g := fun p : ByteArray × Fl => p.1) hn hp hf e1])
    have hll : left' (kS p.1) = left (kS p.1) := by rw [hl', sameKey_kS]; simp [hps]
    have e2 : ¬ (nowF p.2).id = f.id := e
    unfold cur1
    rw [hll]
    cases left (kS p.1)
    · cases p.2.known
      · rfl
      · simp [e2]
    · simp [e]
end
theorem ranges_frm {w w' : World} {bm r n cnt : Nat} {D : DataW Unit} {left : Lit → Bool} {S : Nat → Prop} (h : w.ranges Try.prog 9 ptrR bm r n D left cnt) (k : Frm S w w') (hb : ¬ S bm) (hr : ¬ S r) : w'.ranges Try.prog 9 ptrR bm r n D left cnt := by
  have h1 := h.owns.lt
  have h2 := h.lt
  obtain ⟨es, clock, since, seen, c0, a1, a2, a3, a4, a5, a6, a7, a8, a9, a10, a11⟩ := h
  exact ⟨es, clock, since, seen, c0, (k.block bm h1 hb).trans a1, a2, a3, a4, (k.block r h2 hr).trans a5, a6, a7, a8, a9, a10, a11⟩
theorem redoN_ids (keep : List Int) (fs : List (ByteArray × Fl)) (ws : List Wr) (n : Nat) : (redoN keep fs ws n).map (·.2.id) = fs.map (·.2.id) := by
  induction n with
  | zero => rfl
  | succ n ih =>
    unfold redoN
    cases ws[n]? with
    | none => exact ih
    | some x =>
      show (redo1 _ x _).map _ = _
      unfold redo1
      split
      · rw [updF_ids _ x.id (redoF x (keptD keep n)) fun _ => rfl]; exact ih
      · exact ih
theorem redoN_live {d : Ds} (h : d.live) (keep : List Int) (n : Nat) {x : Wr} (hx : x ∈ d.ws) : ∃ p ∈ redoN keep d.fs d.ws n, p.2.id = x.id := by
  obtain ⟨p, hp, e⟩ := h x hx
  have : p.2.id ∈ (redoN keep d.fs d.ws n).map (·.2.id) := by rw [redoN_ids]; exact List.mem_map.2 ⟨p, hp, rfl⟩
  obtain ⟨q, hq, e2⟩ := List.mem_map.1 this
  exact ⟨q, hq, e2.trans e⟩
theorem redoN_next {keep : List Int} {fs : List (ByteArray × Fl)} {ws : List Wr} {n : Nat} {x : Wr} (h : ws[n]? = some x) : redoN keep fs ws (n + 1) = redo1 (redoN keep fs ws n) x (keptD keep n) := by
  rw [redoN, h]
theorem lostN_next (keep : List Int) (n : Nat) : lostN keep (n + 1) = lostN keep n + (if keptD keep n < 256 then 1 else 0) := by
  unfold lostN
  rw [List.range_succ, List.countP_append]
  simp [List.countP_cons]
theorem lostN_le (keep : List Int) (n : Nat) : lostN keep n ≤ n := by
  unfold lostN
  exact Nat.le_trans List.countP_le_length (by simp)
set_option maxRecDepth 100000 in
/-- A write is done upon a disk. -/
theorem dredo_any {base : Nat} {d : Ds} {m : DM} {p : ByteArray × Fl} (w : World) (h : DiskAt w base d m) (hp : p ∈ d.fs) (x : Wr) (hx : p.2.id = x.id) (h1 : x.pos ≤ 4000) (h2 : x.data.size = 256) (k : Nat) (hk0 : 0 < k) (hk : k ≤ 256) :
    Calls Try.prog 37 #[.agg #[.pointer (some ⟨m.ρ x.id, 0, none⟩), .int .i64 x.pos, .string x.data], .int .i64 k] w fun e w' => e = .returned (.tuple #[]) ∧ ∃ R', DiskAt w' base (d.withFs (redo1 d.fs x k)) { m with R := R' } ∧ Turn (filesD d m) w (filesD (d.withFs (redo1 d.fs x k)) { m with R := R' }) w' := by
  obtain ⟨s, f⟩ := p
  have hF := h.fs _ hp
  have hs := h.ok.safe _ hp
  have hne : ∀ q, (m.R f.id true).ownBlock = some q → (m.R f.id false).ownBlock ≠ some q := fun q h3 h4 => by
    have := (h.ap _ hp _ hp true false q h3 h4).2; cases this
  have hc := dredo_file w hF x.pos x.data h1 h2 hs.1 hs.2 hne k hk0 hk
  rw [← hx]
  refine hc.mono fun e w' ⟨he, vs', hF', hfr, hv⟩ => ⟨he, ?_⟩
  have hr : redo1 d.fs x k = updF d.fs f.id (redoF x k) := by
    unfold redo1
    rw [if_pos hk0]
    have e1 : f.id = x.id := hx
    rw [e1]
  have hok : (d.withFs (updF d.fs f.id (redoF x k))).ok := by rw [← hr]; exact redo1_ok h.ok ⟨h1, h2⟩ hk
  rw [hr]
  have hT := h.turn hp (redoF x k) (fun _ => rfl) hok (hfr.mono fun q _ hq => by
    rcases hq with hq | hq
    · exact .inl hq
    · exact .inr (.inr hq)) hF' (fun q hq => .inl hq) hv (fun q h3 h4 => by
    rcases hv q h4 with h5 | h5
    · exact hne q h3 h5
    · have := (hF.ol.lt q h3).2; omega)
  exact ⟨_, hT.1, hT.2⟩
end Go.Proofs.Ytfgpadikmnhldaa
