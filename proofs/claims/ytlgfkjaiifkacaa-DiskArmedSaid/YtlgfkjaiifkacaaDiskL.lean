/-
  A disk in plain words: what each call leaves is a disk. No condition of its own.
-/
import Derived.Test.YtlgfkjaiifkacaaDiskP
namespace Go.Proofs.Ytlgfkjaiifkacaa
open Go Go.RowKit

theorem nodup_get {α β : Type} {l : List α} {g : α → β} (h : (l.map g).Nodup) {x y : α} (hx : x ∈ l) (hy : y ∈ l) (e : g x = g y) : x = y := by
  induction l with
  | nil => simp at hx
  | cons z l ih =>
    rw [List.map_cons, List.nodup_cons] at h
    rcases List.mem_cons.1 hx with hx1 | hx1
    · rcases List.mem_cons.1 hy with hy1 | hy1
      · rw [hx1, hy1]
      · exact absurd (List.mem_map.2 ⟨y, hy1, by rw [← e, hx1]⟩) h.1
    · rcases List.mem_cons.1 hy with hy1 | hy1
      · exact absurd (List.mem_map.2 ⟨x, hx1, by rw [e, hy1]⟩) h.1
      · exact ih h.2 hx1 hy1
section
variable {d : Ds} {s : ByteArray} {f : Fl}
theorem Ds.find_mem (h : d.find s = some f) : (s, f) ∈ d.fs := by
  unfold Ds.find at h
  rw [Option.map_eq_some_iff] at h
  obtain ⟨p, hp, rfl⟩ := h
  have h1 := List.find?_some hp
  have h2 := List.mem_of_find?_eq_some hp
  have h3 : p.1 = s := by simpa using h1
  rw [← h3]; exact h2
theorem Ds.find_of (ok : d.ok) (h : (s, f) ∈ d.fs) : d.find s = some f := by
  unfold Ds.find
  cases hf : d.fs.find? fun p => decide (p.1 = s) with
  | none =>
    have := List.find?_eq_none.1 hf (s, f) h
    simp at this
  | some p =>
    have h1 := List.find?_some hf
    have h2 := List.mem_of_find?_eq_some hf
    have h3 : p.1 = s := by simpa using h1
    have h4 : p = (s, f) := nodup_get ok.names h2 h h3
    rw [h4]; rfl
theorem Ds.find_none (h : d.find s = none) : ∀ p ∈ d.fs, p.1 ≠ s := by
  unfold Ds.find at h
  rw [Option.map_eq_none_iff] at h
  intro p hp e
  have := List.find?_eq_none.1 h p hp
  simp [e] at this
end
theorem updF_names (fs : List (ByteArray × Fl)) (id : Nat) (g : Fl → Fl) : (updF fs id g).map (·.1) = fs.map (·.1) := by
  unfold updF; rw [List.map_map]
  refine List.map_congr_left fun p _ => ?_
  simp only [Function.comp_apply]; split <;> rfl
theorem updF_ids (fs : List (ByteArray × Fl)) (id : Nat) (g : Fl → Fl) (hg : ∀ f, (g f).id = f.id) : (updF fs id g).map (·.2.id) = fs.map (·.2.id) := by
  unfold updF; rw [List.map_map]
  refine List.map_congr_left fun p _ => ?_
  simp only [Function.comp_apply]; split
  · exact hg _
  · rfl
theorem updF_len (fs : List (ByteArray × Fl)) (id : Nat) (g : Fl → Fl) : (updF fs id g).length = fs.length := by unfold updF; simp
theorem updF_mem {fs : List (ByteArray × Fl)} {id : Nat} {g : Fl → Fl} {p : ByteArray × Fl} (h : p ∈ updF fs id g) : ∃ q ∈ fs, (q.2.id = id ∧ p = (q.1, g q.2)) ∨ (q.2.id ≠ id ∧ p = q) := by
  unfold updF at h
  obtain ⟨q, hq, rfl⟩ := List.mem_map.1 h
  refine ⟨q, hq, ?_⟩
  by_cases e : q.2.id = id
  · rw [if_pos e]; exact .inl ⟨e, rfl⟩
  · rw [if_neg e]; exact .inr ⟨e, rfl⟩
theorem updF_in {fs : List (ByteArray × Fl)} {id : Nat} {g : Fl → Fl} {p : ByteArray × Fl} (h : p ∈ fs) : (if p.2.id = id then (p.1, g p.2) else p) ∈ updF fs id g := List.mem_map.2 ⟨p, h, rfl⟩
theorem Ds.ok.upd {d : Ds} (h : d.ok) (id : Nat) (g : Fl → Fl) (hg : ∀ f, (g f).id = f.id) (hnow : ∀ p ∈ d.fs, p.2.id = id → (g p.2).now.length ≤ 4001 ∧ ∀ s ∈ (g p.2).now, s.size = 256)
    (hsafe : ∀ p ∈ d.fs, p.2.id = id → (g p.2).safe.length ≤ 4001 ∧ ∀ s ∈ (g p.2).safe, s.size = 256) : ({ d with fs := updF d.fs id g } : Ds).ok := by
  refine ⟨by show ((updF d.fs id g).map (·.1)).Nodup; rw [updF_names]; exact h.names, by show ((updF d.fs id g).map (·.2.id)).Nodup; rw [updF_ids _ _ _ hg]; exact h.ids, by show (updF d.fs id g).length ≤ 60; rw [updF_len]; exact h.few, fun p hp => ?_, fun p hp => ?_, fun p hp => ?_, fun x hx => ?_, fun p hp => ?_⟩
  · obtain ⟨q, hq, ⟨_, rfl⟩ | ⟨_, rfl⟩⟩ := updF_mem hp
    · exact h.short q hq
    · exact h.short _ hq
  · obtain ⟨q, hq, ⟨e, rfl⟩ | ⟨_, rfl⟩⟩ := updF_mem hp
    · exact hnow q hq e
    · exact h.now _ hq
  · obtain ⟨q, hq, ⟨e, rfl⟩ | ⟨_, rfl⟩⟩ := updF_mem hp
    · exact hsafe q hq e
    · exact h.safe _ hq
  · exact h.ws x hx
  · obtain ⟨q, hq, ⟨e, rfl⟩ | ⟨_, rfl⟩⟩ := updF_mem hp
    · show (g q.2).id < d.next; rw [hg]; exact h.next q hq
    · exact h.next _ hq
theorem Ds.ok.goes {d : Ds} (h : d.ok) : (goesD d).2.ok := by
  unfold goesD; split
  · exact ⟨h.names, h.ids, h.few, h.short, h.now, h.safe, h.ws, h.next⟩
  · exact h
theorem goes_rd {d : Ds} (h : d.rd) (hg : (goesD d).1 = false) : (goesD d).2.rd := by
  unfold goesD at hg ⊢
  by_cases ha : d.armed = true
  · rw [if_pos ha] at hg ⊢
    intro _
    have := h ha
    simp only [decide_eq_false_iff_not] at hg
    show 0 ≤ d.left - 1 ∧ d.left - 1 ≤ 9223372036854775807
    omega
  · rw [if_neg ha]; exact h
theorem Ds.ok.forget {d : Ds} (h : d.ok) (id : Nat) (pos : Int) : (forgetD d id pos).ok :=
  ⟨h.names, h.ids, h.few, h.short, h.now, h.safe, fun x hx => h.ws x (List.mem_filter.1 hx).1, h.next⟩
theorem Ds.ok.drop {d : Ds} (h : d.ok) (f : Fl) : (dropD d f).ok := by
  have hs : (d.fs.filter fun p => !decide (p.2.id = f.id)).Sublist d.fs := List.filter_sublist
  refine ⟨(hs.map _).nodup h.names, (hs.map _).nodup h.ids, Nat.le_trans hs.length_le h.few, fun p hp => h.short p (hs.subset hp), fun p hp => h.now p (hs.subset hp), fun p hp => h.safe p (hs.subset hp), fun x hx => ?_, fun p hp => h.next p (hs.subset hp)⟩
  exact h.ws x (List.mem_filter.1 hx).1
theorem live_upd {d : Ds} (h : d.live) (id : Nat) (g : Fl → Fl) (hg : ∀ f, (g f).id = f.id) : ({ d with fs := updF d.fs id g } : Ds).live := fun x hx => by
  obtain ⟨p, hp, he⟩ := h x hx
  refine ⟨_, updF_in (id := id) (g := g) hp, ?_⟩
  split
  · show (g p.2).id = x.id; rw [hg]; exact he
  · exact he
theorem live_goes {d : Ds} (h : d.live) : (goesD d).2.live := by unfold goesD; split <;> exact h
theorem live_forget {d : Ds} (h : d.live) (id : Nat) (pos : Int) : (forgetD d id pos).live := fun x hx => h x (List.mem_filter.1 hx).1
theorem live_drop {d : Ds} (h : d.live) (f : Fl) : (dropD d f).live := fun x hx => by
  obtain ⟨hx1, hx2⟩ := List.mem_filter.1 hx
  obtain ⟨p, hp, he⟩ := h x hx1
  refine ⟨p, List.mem_filter.2 ⟨hp, ?_⟩, he⟩
  simp at hx2 ⊢
  intro e
  have := hx2 (by rw [← he, e])
  omega
theorem padTo_len (l : List ByteArray) (n : Nat) : (padTo l n).length = max l.length n := by unfold padTo; rw [List.length_append, List.length_replicate]; omega
theorem zeros_size : zeros256.size = 256 := by show (List.replicate 256 (0 : UInt8)).toArray.size = 256; rw [List.size_toArray, List.length_replicate]
theorem padTo_size {l : List ByteArray} {n : Nat} (h : ∀ s ∈ l, s.size = 256) : ∀ s ∈ padTo l n, s.size = 256 := fun s hs => by
  unfold padTo at hs
  rcases List.mem_append.1 hs with hs | hs
  · exact h s hs
  · rw [(List.mem_replicate.1 hs).2]; exact zeros_size
theorem extract_size (b : ByteArray) (i j : Nat) : (b.extract i j).size = min j b.size - i := by simp [ByteArray.size_extract]
theorem redoL_ok {l : List ByteArray} {pos k : Nat} {data : ByteArray} (h1 : l.length ≤ 4001) (h2 : ∀ s ∈ l, s.size = 256) (hp : pos ≤ 4000) (hd : data.size = 256) (hk : k ≤ 256) :
    (redoL l pos data k).length ≤ 4001 ∧ ∀ s ∈ redoL l pos data k, s.size = 256 := by
  have hlen := padTo_len l (pos + 1)
  refine ⟨by unfold redoL; rw [List.length_set, hlen]; omega, fun s hs => ?_⟩
  unfold redoL at hs
  rcases List.mem_or_eq_of_mem_set hs with hs | rfl
  · exact padTo_size h2 s hs
  · have hp' : pos < (padTo l (pos + 1)).length := by omega
    have hz : ((padTo l (pos + 1)).getD pos ByteArray.empty).size = 256 := by
      rw [List.getD_eq_getElem?_getD, List.getElem?_eq_getElem hp']
      exact padTo_size h2 _ (List.getElem_mem hp')
    rw [ByteArray.size_append, extract_size, extract_size, hz, hd]
    omega
theorem keptD_le (keep : List Int) (i : Nat) : keptD keep i ≤ 256 := by
  unfold keptD; split
  · omega
  · omega
/-- The files of a disk, whatever else. -/
def Ds.withFs (d : Ds) (fs : List (ByteArray × Fl)) : Ds := { d with fs := fs }
theorem redo1_ok {d : Ds} (h : d.ok) {x : Wr} (hx : x.pos ≤ 4000 ∧ x.data.size = 256) {k : Nat} (hk : k ≤ 256) : (d.withFs (redo1 d.fs x k)).ok := by
  unfold redo1 Ds.withFs
  split
  · refine h.upd x.id (redoF x k) (fun _ => rfl) (fun p hp _ => h.now p hp) (fun p hp _ => ?_)
    obtain ⟨h1, h2⟩ := h.safe p hp
    exact redoL_ok h1 h2 hx.1 hx.2 hk
  · exact h
theorem redoN_ok {d : Ds} (h : d.ok) (keep : List Int) (n : Nat) : (d.withFs (redoN keep d.fs d.ws n)).ok := by
  induction n with
  | zero => exact h
  | succ n ih =>
    unfold redoN
    cases hx : d.ws[n]? with
    | none => exact ih
    | some x =>
      have hw := h.ws x (List.mem_of_getElem? hx)
      exact redo1_ok ih ⟨hw.1, hw.2.1⟩ (keptD_le _ _)
theorem leftF_ok {d : Ds} (h : d.ok) (b : Bool) : ({ d with fs := leftF d.fs, ws := [], off := true, armed := b, keep := [] } : Ds).ok := by
  have hs : (d.fs.filter fun p => p.2.known).Sublist d.fs := List.filter_sublist
  have hm : ∀ p ∈ leftF d.fs, ∃ q ∈ d.fs, p = (q.1, { q.2 with now := q.2.safe }) := fun p hp => by
    obtain ⟨q, hq, rfl⟩ := List.mem_map.1 hp
    exact ⟨q, hs.subset hq, rfl⟩
  refine ⟨?_, ?_, ?_, fun p hp => ?_, fun p hp => ?_, fun p hp => ?_, fun x hx => by simp at hx, fun p hp => ?_⟩
  · show ((leftF d.fs).map (·.1)).Nodup
    unfold leftF; rw [List.map_map]
    exact (hs.map _).nodup h.names
  · show ((leftF d.fs).map (·.2.id)).Nodup
    unfold leftF; rw [List.map_map]
    exact (hs.map _).nodup h.ids
  · show (leftF d.fs).length ≤ 60
    unfold leftF; rw [List.length_map]
    exact Nat.le_trans hs.length_le h.few
  · obtain ⟨q, hq, rfl⟩ := hm p hp; exact h.short q hq
  · obtain ⟨q, hq, rfl⟩ := hm p hp; exact h.safe q hq
  · obtain ⟨q, hq, rfl⟩ := hm p hp; exact h.safe q hq
  · obtain ⟨q, hq, rfl⟩ := hm p hp; exact h.next q hq
theorem Ds.ok.crash {d : Ds} (h : d.ok) (keep : List Int) : (crashD d keep).2.ok := by
  unfold crashD
  split
  · exact h
  · exact leftF_ok (redoN_ok h keep d.ws.length) false
theorem crash_rd {d : Ds} (h : d.off = true → d.rd) (keep : List Int) : (crashD d keep).2.rd := by
  unfold crashD
  split
  · rename_i ho; exact h ho
  · intro h; cases h
theorem crash_live {d : Ds} (h : d.live) (keep : List Int) : (crashD d keep).2.live := by
  unfold crashD
  split
  · exact h
  · intro x hx; simp at hx
/-- A disk as it should be. -/
structure Ds.good (d : Ds) : Prop where
  ok : d.ok
  live : d.live
  rd : d.rd
theorem newD_good (room : Int) : (newD room).good := ⟨newD_ok _, newD_live _, newD_rd _⟩
end Go.Proofs.Ytlgfkjaiifkacaa
