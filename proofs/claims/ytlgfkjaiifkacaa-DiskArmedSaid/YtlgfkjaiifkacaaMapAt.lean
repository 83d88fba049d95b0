/-
  A map of the call's own, from names to pointers: what it holds, and its operations. Condition: names of no more bytes than a string may have.
-/
import Derived.Test.YtlgfkjaiifkacaaChecked
import Derived.Test.YtlgfkjaiifkacaaBase
import Derived.Test.YtlgfkjaiifkacaaOwn2
import Derived.Maps.RangeWalk
import Derived.Maps.OwnSet
import Derived.Maps.OwnOps
import Derived.StringKeys
namespace Go.Proofs.Ytlgfkjaiifkacaa
open Go Go.RowKit Go.Maps Go.ChangeMaps

/-- A name as a key. -/
def kS (s : ByteArray) : Lit := .string s.data.toList
theorem kS_inj {a b : ByteArray} (h : kS a = kS b) : a = b := by
  unfold kS at h
  injection h with h
  have h2 : a.data = b.data := Array.toList_inj.1 h
  cases a; cases b; simp at h2; rw [h2]
theorem kS_key (s : ByteArray) : WideAt.IsKeyLit (kS s) := trivial
/-- A pointer to a block, or none. -/
def ptrV : Option Nat → Value
  | none => .pointer none
  | some b => .pointer (some ⟨b, 0, none⟩)
/-- How it reads: as the block's number. -/
def ptrR : Value → Option (DataW Unit × List MemPlace)
  | .pointer none => some (.nil, [])
  | .pointer (some ⟨b, 0, none⟩) => some (.lit (.int .i64 b), [])
  | _ => none
theorem ptrR_inv {v : Value} {y : DataW Unit × List MemPlace} (h : ptrR v = some y) : ∃ c : Option Nat, v = ptrV c ∧ y = ((match c with | none => .nil | some b => .lit (.int .i64 b)), []) := by
  unfold ptrR at h
  split at h
  · injection h with h; exact ⟨none, rfl, h.symm⟩
  · injection h with h; rename_i b; exact ⟨some b, rfl, h.symm⟩
  · cases h
theorem ptrR_some (b : Nat) : ptrR (.pointer (some ⟨b, 0, none⟩)) = some (.lit (.int .i64 b), []) := rfl
/-- Names of files and their blocks. -/
abbrev Names := List (ByteArray × Nat)
/-- The block is a map that holds these. -/
structure MapAt (w : World) (bm : Nat) (D : DataW Unit) (g : Names) : Prop where
  own : w.ownsMap Try.prog 9 ptrR bm (Maps.size D) D
  has : ∀ s, Maps.has D (kS s) = true ↔ ∃ b, (s, b) ∈ g
  at_ : ∀ s b, (s, b) ∈ g → ∀ z, D.atKey (kS s) z = .lit (.int .i64 b)
  size : Maps.size D = g.length
  nd : (g.map (·.1)).Nodup
theorem strKeyed : Keyed Try.prog 9 := string_keyed Try.underlying9
theorem strKey {s : ByteArray} (h : s.size ≤ maxLen) : keyOf Try.prog 9 (.string s) = some (kS s) := WideMaps.keyOf_string_mk Try.underlying9 h
theorem ownsMap_tight {w : World} {P : Program} {k : TypeId} {R : Value → Option (DataW Unit × List MemPlace)} {b n : Nat} {D : DataW Unit} (h : w.ownsMap P k R b n D) : w.ownsMap P k R b (Maps.size D) D := by
  obtain ⟨es, clock, h1, h2, _, rfl⟩ := h
  refine ⟨es, clock, h1, h2, ?_, rfl⟩
  simp [Maps.size, length_sorted]
section
variable {w w' : World} {bm : Nat} {D : DataW Unit} {g g' : Names} {s : ByteArray} {b : Nat}
theorem MapAt.made (w : World) : MapAt (w.alloc (.map #[] 0)) w.heap.size (.map []) [] := ⟨World.ownsMap_made w _ _ _, fun s => by simp [Maps.has], fun s b h => by simp at h, rfl, by simp⟩
theorem MapAt.lt (h : MapAt w bm D g) : bm < w.heap.size := h.own.lt
theorem MapAt.frm {S : Nat → Prop} (h : MapAt w bm D g) (k : Frm S w w') (hs : ¬ S bm) : MapAt w' bm D g := by
  refine ⟨?_, h.has, h.at_, h.size, h.nd⟩
  obtain ⟨es, clock, h1, h2, h3, h4⟩ := h.own
  exact ⟨es, clock, (k.block bm h.lt hs).trans h1, h2, h3, h4⟩
theorem MapAt.below (h : MapAt w bm D g) (k : Below w.heap.size w w') : MapAt w' bm D g := h.frm (S := no) (Frm.of_below k) (fun h => h)
theorem MapAt.perm (h : MapAt w bm D g) (p : g.Perm g') : MapAt w bm D g' :=
  ⟨h.own, fun s => by rw [h.has]; exact ⟨fun ⟨b, hb⟩ => ⟨b, p.mem_iff.1 hb⟩, fun ⟨b, hb⟩ => ⟨b, p.mem_iff.2 hb⟩⟩, fun s b hb => h.at_ s b (p.mem_iff.2 hb), by rw [h.size, p.length_eq], (p.map _).nodup_iff.1 h.nd⟩
theorem MapAt.one (h : MapAt w bm D g) {b' : Nat} (h1 : (s, b) ∈ g) (h2 : (s, b') ∈ g) : b = b' := by
  have e1 := h.at_ s b h1 .nil
  rw [h.at_ s b' h2 .nil] at e1
  injection e1 with e1
  injection e1 with _ e1
  omega
theorem MapAt.put (h : MapAt w bm D g) (hw : ∃ n, w'.ownsMap Try.prog 9 ptrR bm n (D.put (kS s) (.lit (.int .i64 b)))) : MapAt w' bm (D.put (kS s) (.lit (.int .i64 b))) ((s, b) :: g.filter fun p => !decide (p.1 = s)) := by
  have hI := h.own.isMap
  have hT := h.own.tidy strKeyed
  obtain ⟨n, hw⟩ := hw
  have hmem : ∀ t c, (t, c) ∈ ((s, b) :: g.filter fun p => !decide (p.1 = s)) ↔ (t = s ∧ c = b) ∨ (t ≠ s ∧ (t, c) ∈ g) := fun t c => by
    rw [List.mem_cons, List.mem_filter]
    constructor
    · rintro (e | ⟨e1, e2⟩)
      · injection e with e1 e2; exact .inl ⟨e1, e2⟩
      · exact .inr ⟨by simpa using e2, e1⟩
    · rintro (⟨rfl, rfl⟩ | ⟨e1, e2⟩)
      · exact .inl rfl
      · exact .inr ⟨e2, by simpa using e1⟩
  refine ⟨ownsMap_tight hw, fun t => ?_, fun t c ht z => ?_, ?_, ?_⟩
  · by_cases e : t = s
    · subst e
      rw [Maps.has_put_same hI (kS_key _)]
      exact ⟨fun _ => ⟨b, by simp⟩, fun _ => rfl⟩
    · rw [Maps.has_put_other (fun h => e (kS_inj h)), h.has]
      constructor
      · rintro ⟨c, hc⟩; exact ⟨c, (hmem t c).2 (.inr ⟨e, hc⟩)⟩
      · rintro ⟨c, hc⟩
        rcases (hmem t c).1 hc with ⟨h1, _⟩ | ⟨_, h1⟩
        · exact absurd h1 e
        · exact ⟨c, h1⟩
  · rcases (hmem t c).1 ht with ⟨rfl, rfl⟩ | ⟨h1, h2⟩
    · exact Maps.atKey_put_same hI (kS_key _) _ _
    · rw [Maps.atKey_put_other (fun h => h1 (kS_inj h))]; exact h.at_ t c h2 z
  · rw [Maps.size_put hT, List.length_cons, h.size]
    have hf : (g.filter fun p => !decide (p.1 = s)).length + (g.filter fun p => decide (p.1 = s)).length = g.length := by
      clear hw hI hT h hmem
      induction g with
      | nil => rfl
      | cons q l ih =>
        by_cases e : q.1 = s
        · rw [List.filter_cons_of_neg (by simp [e]), List.filter_cons_of_pos (by simp [e]), List.length_cons, List.length_cons]; omega
        · rw [List.filter_cons_of_pos (by simp [e]), List.filter_cons_of_neg (by simp [e]), List.length_cons, List.length_cons]; omega
    have hone : (g.filter fun p => decide (p.1 = s)).length = if Maps.has D (kS s) then 1 else 0 := by
      split
      · rename_i hh
        obtain ⟨c, hc⟩ := (h.has s).1 hh
        have hnd : (g.filter fun p => decide (p.1 = s)).map (·.1) |>.Nodup := (List.filter_sublist.map _).nodup h.nd
        cases hfl : g.filter fun p => decide (p.1 = s) with
        | nil => have hin : (s, c) ∈ g.filter fun p => decide (p.1 = s) := List.mem_filter.2 ⟨hc, by simp⟩
                 rw [hfl] at hin; simp at hin
        | cons p l =>
          cases l with
          | nil => rfl
          | cons q l =>
            rw [hfl] at hnd
            have h1 : p.1 = s := by have : p ∈ g.filter fun p => decide (p.1 = s) := by rw [hfl]; simp
                                    simpa using (List.mem_filter.1 this).2
            have h2 : q.1 = s := by have : q ∈ g.filter fun p => decide (p.1 = s) := by rw [hfl]; simp
                                    simpa using (List.mem_filter.1 this).2
            simp [h1, h2] at hnd
      · rename_i hh
        rw [List.length_eq_zero_iff, List.filter_eq_nil_iff]
        rintro ⟨t, c⟩ hp ht
        have e : t = s := by simpa using ht
        exact hh ((h.has s).2 ⟨c, e ▸ hp⟩)
    split at hone
    · rename_i hh; rw [if_pos hh]; omega
    · rename_i hh; rw [if_neg hh]; omega
  · rw [List.map_cons, List.nodup_cons]
    refine ⟨fun hm => ?_, (List.filter_sublist.map _).nodup h.nd⟩
    obtain ⟨p, hp, e⟩ := List.mem_map.1 hm
    have := (List.mem_filter.1 hp).2
    simp [e] at this
theorem MapAt.del (h : MapAt w bm D g) (hw : ∃ n, w'.ownsMap Try.prog 9 ptrR bm n (D.del (kS s))) : MapAt w' bm (D.del (kS s)) (g.filter fun p => !decide (p.1 = s)) := by
  have hT := h.own.tidy strKeyed
  obtain ⟨n, hw⟩ := hw
  have hmem : ∀ t c, (t, c) ∈ (g.filter fun p => !decide (p.1 = s)) ↔ (t ≠ s ∧ (t, c) ∈ g) := fun t c => by
    rw [List.mem_filter]
    exact ⟨fun ⟨h1, h2⟩ => ⟨by simpa using h2, h1⟩, fun ⟨h1, h2⟩ => ⟨h2, by simpa using h1⟩⟩
  refine ⟨ownsMap_tight hw, fun t => ?_, fun t c ht z => ?_, ?_, (List.filter_sublist.map _).nodup h.nd⟩
  · by_cases e : t = s
    · subst e
      rw [Maps.has_del_same]
      constructor
      · intro h; cases h
      · rintro ⟨c, hc⟩; exact absurd rfl ((hmem _ _).1 hc).1
    · rw [Maps.has_del_other (fun h => e (kS_inj h)), h.has]
      exact ⟨fun ⟨c, hc⟩ => ⟨c, (hmem t c).2 ⟨e, hc⟩⟩, fun ⟨c, hc⟩ => ⟨c, ((hmem t c).1 hc).2⟩⟩
  · obtain ⟨h1, h2⟩ := (hmem t c).1 ht
    rw [Maps.atKey_del_other (fun h => h1 (kS_inj h))]; exact h.at_ t c h2 z
  · have h1 := Maps.size_del hT (k := kS s)
    by_cases hh : Maps.has D (kS s) = true
    · rw [if_pos hh] at h1
      have hp := h.put (w' := w') (s := s) (b := 0) (g := g) (bm := bm) (D := D)
      have hn : (g.filter fun p => !decide (p.1 = s)).length + 1 = g.length := by
        obtain ⟨c, hc⟩ := (h.has s).1 hh
        have hnd := h.nd
        clear hp h1 hmem hw hT hh h
        induction g with
        | nil => simp at hc
        | cons q l ih =>
          rw [List.map_cons, List.nodup_cons] at hnd
          rcases List.mem_cons.1 hc with rfl | hc1
          · have : l.filter (fun p => !decide (p.1 = s)) = l := List.filter_eq_self.2 fun p hp => by
              have : p.1 ≠ s := fun e => hnd.1 (List.mem_map.2 ⟨p, hp, e⟩)
              simpa using this
            simp [this]
          · have hq : q.1 ≠ s := fun e => hnd.1 (List.mem_map.2 ⟨(s, c), hc1, e.symm⟩)
            rw [List.filter_cons_of_pos (by simpa using hq), List.length_cons, List.length_cons, ih hc1 hnd.2]
      rw [h.size] at h1; omega
    · rw [if_neg hh] at h1
      have : g.filter (fun p => !decide (p.1 = s)) = g := List.filter_eq_self.2 fun p hp => by
        have : p.1 ≠ s := fun e => hh ((h.has s).2 ⟨p.2, by rw [← e]; exact hp⟩)
        simpa using this
      rw [this]; rw [h.size] at h1; omega
end
end Go.Proofs.Ytlgfkjaiifkacaa
