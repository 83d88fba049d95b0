/-
  A disk's Rename. Conditions: it is a disk, each write's file is there; armed for a number; not too many writes.
-/
import Derived.Test.YtfgpadikmnhldaaDiskJ
import Derived.Test.YtfgpadikmnhldaaCloneT
import Derived.Test.YtfgpadikmnhldaaStepMap
namespace Go.Proofs.Ytfgpadikmnhldaa
open Go Go.RowKit
attribute [local go_sem] cell_set_if

theorem nameF_perm {F : List (ByteArray × Fl)} {a b : ByteArray} {f : Fl} (hn : (F.map (·.1)).Nodup) (hi : (F.map (·.2.id)).Nodup) (hf : (a, f) ∈ F) (N : Fl → Nat) :
    ((b, N f) :: (F.map fun p => (p.1, N p.2)).filter fun p => !decide (p.1 = a)).Perm ((nameF F f.id b).map fun p => (p.1, N p.2)) := by
  obtain ⟨l1, l2, rfl⟩ := List.append_of_mem hf
  have h1 : ∀ p ∈ l1, p.1 ≠ a ∧ p.2.id ≠ f.id := fun p hp => by
    rw [List.map_append, List.nodup_append] at hn hi
    exact ⟨fun e => hn.2.2 _ (List.mem_map.2 ⟨p, hp, rfl⟩) a (by simp) e, fun e => hi.2.2 _ (List.mem_map.2 ⟨p, hp, rfl⟩) f.id (by simp) e⟩
  have h2 : ∀ p ∈ l2, p.1 ≠ a ∧ p.2.id ≠ f.id := fun p hp => by
    rw [List.map_append, List.nodup_append] at hn hi
    have hn' := hn.2.1
    have hi' := hi.2.1
    rw [List.map_cons, List.nodup_cons] at hn' hi'
    exact ⟨fun e => hn'.1 (List.mem_map.2 ⟨p, hp, e⟩), fun e => hi'.1 (List.mem_map.2 ⟨p, hp, e⟩)⟩
  have k : ∀ l : List (ByteArray × Fl), (∀ p ∈ l, p.1 ≠ a ∧ p.2.id ≠ f.id) → ((l.map fun p => (p.1, N p.2)).filter fun p => !decide (p.1 = a)) = l.map (fun p => (p.1, N p.2)) ∧ nameF l f.id b = l := fun l hl => by
    refine ⟨List.filter_eq_self.2 fun p hp => ?_, ?_⟩
    · obtain ⟨q, hq, rfl⟩ := List.mem_map.1 hp
      simpa using (hl q hq).1
    · unfold nameF
      conv => rhs; rw [← List.map_id l]
      refine List.map_congr_left fun p hp => ?_
      rw [if_neg (hl p hp).2]; rfl
  have e1 : nameF (l1 ++ (a, f) :: l2) f.id b = l1 ++ (b, f) :: l2 := by
    have x1 := (k l1 h1).2
    have x2 := (k l2 h2).2
    unfold nameF at x1 x2 ⊢
    rw [List.map_append, List.map_cons, x1, x2, if_pos rfl]
  rw [e1, List.map_append, List.map_append, List.map_cons, List.map_cons, List.filter_append, List.filter_cons, (k l1 h1).1, (k l2 h2).1]
  simp only [decide_true, Bool.not_true, Bool.false_eq_true, if_false]
  exact List.perm_middle.symm
theorem nameF_mem {F : List (ByteArray × Fl)} {id : Nat} {b : ByteArray} {p : ByteArray × Fl} (h : p ∈ nameF F id b) : ∃ q ∈ F, q.2 = p.2 ∧ (p.1 = b ∨ p = q) := by
  obtain ⟨q, hq, e⟩ := List.mem_map.1 h
  by_cases hi : q.2.id = id
  · rw [if_pos hi] at e
    exact ⟨q, hq, by rw [← e], .inl (by rw [← e])⟩
  · rw [if_neg hi] at e
    exact ⟨q, hq, by rw [e], .inr e.symm⟩
theorem nameF_ids (F : List (ByteArray × Fl)) (id : Nat) (b : ByteArray) : (nameF F id b).map (·.2.id) = F.map (·.2.id) := by
  unfold nameF; rw [List.map_map]
  refine List.map_congr_left fun p _ => ?_
  simp only [Function.comp_apply]
  split <;> rfl
theorem Ds.ok.rename {d : Ds} {a b : ByteArray} {f : Fl} (h : d.ok) (hf : (a, f) ∈ d.fs) (hb : ∀ p ∈ d.fs, p.1 ≠ b) (hs : 1 ≤ b.size ∧ b.size ≤ 40) : ({ d with fs := nameF d.fs f.id b } : Ds).ok := by
  refine ⟨?_, by show ((nameF d.fs f.id b).map (·.2.id)).Nodup; rw [nameF_ids]; exact h.ids, by show (nameF d.fs f.id b).length ≤ 60; unfold nameF; rw [List.length_map]; exact h.few, fun p hp => ?_, fun p hp => ?_, fun p hp => ?_, h.ws, fun p hp => ?_⟩
  · have hp := (nameF_perm (b := b) h.names h.ids hf (fun _ => 0)).map Prod.fst
    have e : ((nameF d.fs f.id b).map fun p => (p.1, (fun _ : Fl => 0) p.2)).map Prod.fst = (nameF d.fs f.id b).map (·.1) := by rw [List.map_map]; rfl
    rw [e] at hp
    show ((nameF d.fs f.id b).map (·.1)).Nodup
    refine hp.nodup_iff.1 ?_
    rw [List.map_cons, List.nodup_cons]
    refine ⟨fun hm => ?_, ?_⟩
    · obtain ⟨q, hq, e⟩ := List.mem_map.1 hm
      obtain ⟨p, hp, e2⟩ := List.mem_map.1 (List.mem_filter.1 hq).1
      rw [← e2] at e
      exact hb p hp e
    · refine List.Nodup.sublist (List.Sublist.map _ List.filter_sublist) ?_
      rw [List.map_map]; exact h.names
  · obtain ⟨q, hq, _, e | e⟩ := nameF_mem hp
    · rw [e]; exact hs
    · rw [e]; exact h.short q hq
  · obtain ⟨q, hq, e, _⟩ := nameF_mem hp
    rw [← e]; exact h.now q hq
  · obtain ⟨q, hq, e, _⟩ := nameF_mem hp
    rw [← e]; exact h.safe q hq
  · obtain ⟨q, hq, e, _⟩ := nameF_mem hp
    rw [← e]; exact h.next q hq
theorem live_rename {d : Ds} (h : d.live) (id : Nat) (b : ByteArray) : ({ d with fs := nameF d.fs id b } : Ds).live := fun x hx => by
  obtain ⟨p, hp, e⟩ := h x hx
  refine ⟨_, List.mem_map.2 ⟨p, hp, rfl⟩, ?_⟩
  split <;> exact e
theorem filter_filter_comm {α : Type} (l : List α) (p q : α → Bool) : (l.filter p).filter q = (l.filter q).filter p := by
  rw [List.filter_filter, List.filter_filter]
  exact List.filter_congr fun x _ => Bool.and_comm _ _
/-- The disk that a renaming leaves, where power stays. -/
def renD (d : Ds) (f : Fl) (b : ByteArray) : Ds :=
  let d1 := match d.find b with
    | some o => dropD d o
    | none => d
  { d1 with fs := nameF d1.fs f.id b }
/-- The names that it leaves. -/
theorem DiskAt.renamed {w w' : World} {base : Nat} {d d1 : Ds} {m : DM} {a b : ByteArray} {f : Fl} {D' : DataW Unit} (h : DiskAt w base d m) (hsub : ∀ p ∈ d1.fs, p ∈ d.fs) (ok1 : d1.ok) (e1 : d1.ws = d.ws) (e2 : d1.off = d.off) (e3 : d1.room = d.room) (e4 : d1.armed = d.armed) (e5 : d1.left = d.left) (e6 : d1.keep = d.keep)
    (hf : (a, f) ∈ d1.fs) (hb : ∀ p ∈ d1.fs, p.1 ≠ b) (hs : 1 ≤ b.size ∧ b.size ≤ 40)
    (hg : ((namesD d m).filter fun p => !decide (p.1 = a)).filter (fun p => !decide (p.1 = b)) = (namesD d1 m).filter fun p => !decide (p.1 = a))
    (hm : MapAt w' m.bm D' ((b, m.ρ f.id) :: ((namesD d m).filter fun p => !decide (p.1 = a)).filter fun p => !decide (p.1 = b))) (k : Frm (fun q => q = m.bm) w w') :
    DiskAt w' base { d1 with fs := nameF d1.fs f.id b } { m with D := D' } ∧ Turn (mineD d m) w (mineD { d1 with fs := nameF d1.fs f.id b } { m with D := D' }) w' := by
  rw [hg] at hm
  refine h.remap (d' := { d1 with fs := nameF d1.fs f.id b }) (fun p hp => ?_) (ok1.rename hf hb hs) e1 e2 e3 e4 e5 e6 hm (nameF_perm ok1.names ok1.ids hf (fun f => m.ρ f.id)) k
  obtain ⟨q, hq, e, _⟩ := nameF_mem (show p ∈ nameF d1.fs f.id b from hp)
  exact ⟨q, hsub q hq, e⟩
end Go.Proofs.Ytfgpadikmnhldaa
