/-
  A map of the call's own, from pointers to pointers: its look-up, its store. Condition: every key is a file's block.
-/
import Derived.Test.YtfgpadikmnhldaaOne
import Derived.LaidEqlPtr
namespace Go.Proofs.Ytfgpadikmnhldaa
open Go Go.RowKit Go.MapKept Go.ChangeMaps

def pv (b : Nat) : Value := .pointer (some ⟨b, 0, none⟩)
/-- A block of cells, none of them frozen. -/
def CBlk (w : World) (b : Nat) : Prop := ∃ cs t, w.heap[b]? = some (.cells cs t (0, 0))
theorem Blk.c {w : World} {b : Nat} {t : TypeId} {cs : Array Value} (h : Blk w b t cs) : CBlk w b := ⟨cs, t, h⟩
/-- The block is a map that holds these. -/
structure PM (w : World) (b : Nat) (g : List (Nat × Nat)) : Prop where
  obj : ∃ es clock, w.heap[b]? = some (.map es clock) ∧ es.toList.map (fun e => (e.key, e.val)) = g.map fun p => (pv p.1, pv p.2)
  keys : ∀ p ∈ g, CBlk w p.1
/-- Where a key stands. -/
def fndG (k : Nat) : List (Nat × Nat) → Nat → Option (Nat × Value)
  | [], _ => none
  | p :: g, i => if p.1 = k then some (i, pv p.2) else fndG k g (i + 1)
theorem fndG_none {k : Nat} : ∀ {g : List (Nat × Nat)} (i : Nat), (∀ p ∈ g, p.1 ≠ k) → fndG k g i = none
  | [], _, _ => rfl
  | p :: g, i, h => by
    unfold fndG
    rw [if_neg (h p (by simp))]
    exact fndG_none (i + 1) fun q hq => h q (by simp [hq])
theorem fndG_some {k v : Nat} : ∀ {g : List (Nat × Nat)} (i : Nat), (g.map (·.1)).Nodup → (k, v) ∈ g → ∃ j, fndG k g i = some (j, pv v)
  | [], _, _, h => by simp at h
  | p :: g, i, hn, h => by
    rw [List.map_cons, List.nodup_cons] at hn
    unfold fndG
    by_cases e : p.1 = k
    · rw [if_pos e]
      rcases List.mem_cons.1 h with h | h
      · rw [← h]; exact ⟨i, rfl⟩
      · exact absurd (List.mem_map.2 ⟨(k, v), h, rfl⟩) (e ▸ hn.1)
    · rw [if_neg e]
      rcases List.mem_cons.1 h with h | h
      · exact absurd (by rw [← h]) e
      · exact fndG_some (i + 1) hn.2 h
theorem fileSz : ∃ j, Try.prog.info? 58 = some j ∧ j.size ≠ 0 := by
  have h : (Try.prog.info? 58).map (fun j => decide (j.size ≠ 0)) = some true := by kernel_rfl
  obtain ⟨j, h1, h2⟩ := Option.map_eq_some_iff.1 h
  exact ⟨j, h1, by simpa using h2⟩
theorem run_pequal (a b : Nat) (w : World) (ha : CBlk w a) (hb : CBlk w b) : (Op.equal 55 (pv a) (pv b)).run Try.prog w = .ok (decide (b = a)) w := by
  obtain ⟨j, hj, hsz⟩ := fileSz
  by_cases e : b = a
  · subst e
    have h : ∀ d : Nat, (Op.equalIn (d + 1) 55 (pv b) (pv b)).run Try.prog w = .ok true w := fun d => by
      simp [pv, Op.equalIn, run_underlying Try.underlying55, sizeOf, typeInfo, hj, run_sameAddr_same]
    rw [decide_eq_true rfl]
    simp [Op.equal, Op.maxDepth, h 9999]
  · obtain ⟨ca, ta, h1⟩ := ha
    obtain ⟨cb, tb, h2⟩ := hb
    have hne : (⟨a, 0, none⟩ : Addr) ≠ ⟨b, 0, none⟩ := fun h => e (congrArg Addr.block h).symm
    have h : ∀ d : Nat, (Op.equalIn (d + 1) 55 (pv a) (pv b)).run Try.prog w = .ok false w := fun d => by
      simp [pv, Op.equalIn, run_underlying Try.underlying55, sizeOf, typeInfo, hj, hsz, run_sameAddr_other w hne h1 h2]
    rw [decide_eq_false e]
    simp [Op.equal, Op.maxDepth, h 9999]
theorem run_findAsking (k : Nat) (w : World) (hk : CBlk w k) : ∀ (es : List MapEntry) (g : List (Nat × Nat)) (i : Nat), es.map (fun e => (e.key, e.val)) = g.map (fun p => (pv p.1, pv p.2)) → (∀ p ∈ g, CBlk w p.1) →
    (Instr.findAsking 55 (pv k) es i).run Try.prog w = .ok (fndG k g i) w
  | [], [], i, _, _ => by simp [Instr.findAsking, fndG]
  | [], p :: g, i, h, _ => by simp at h
  | e :: es, [], i, h, _ => by simp at h
  | e :: es, p :: g, i, h, hg => by
    simp only [List.map_cons] at h
    obtain ⟨h1, h2⟩ := List.cons.inj h
    obtain ⟨h3, h4⟩ := Prod.mk.inj h1
    have ih := run_findAsking k w hk es g (i + 1) h2 fun q hq => hg q (by simp [hq])
    have he := run_pequal k p.1 w hk (hg p (by simp))
    unfold Instr.findAsking fndG
    by_cases e1 : p.1 = k
    · rw [if_pos e1]
      rw [decide_eq_true e1] at he
      simp [h3, h4, he, Result.andThen]
    · rw [if_neg e1]
      rw [decide_eq_false e1] at he
      simp [h3, he, Result.andThen, ih]
theorem run_pfind {w : World} {k : Nat} {g : List (Nat × Nat)} {es : Array MapEntry} (hk : CBlk w k) (h : es.toList.map (fun e => (e.key, e.val)) = g.map fun p => (pv p.1, pv p.2)) (hg : ∀ p ∈ g, CBlk w p.1) :
    (Instr.findKey 55 (pv k) es.toList).run Try.prog w = .ok (fndG k g 0) w := by
  have h1 := run_findAsking k w hk es.toList g 0 h hg
  cases hes : es.toList with
  | nil =>
    rw [hes] at h
    cases g with
    | nil => simp [Instr.findKey, run_underlying Try.underlying55, Instr.findNow, fndG, Result.andThen]
    | cons p g => simp at h
  | cons e l =>
    have hs : Instr.sameNow (.pointer 58) (pv k) e.key = none := rfl
    rw [hes] at h1
    simp [Instr.findKey, run_underlying Try.underlying55, Instr.findNow, hs, Result.andThen, h1]
theorem run_pcheck (b : Bool) (k : Nat) (w : World) : (Instr.checkKey b 10000 55 (pv k)).run Try.prog w = .ok () w := by
  have h : ∀ n : Nat, (Instr.checkKey b (n + 1) 55 (pv k)).run Try.prog w = .ok () w := fun n => by
    simp [Instr.checkKey, run_underlying Try.underlying55, Result.andThen, pv]
  simpa using h 9999
section
variable {w w' : World} {b k v : Nat} {g : List (Nat × Nat)}
theorem PM.look (h : PM w b g) (hk : CBlk w k) (hn : (g.map (·.1)).Nodup) (hv : (k, v) ∈ g) : (Instr.lookup 54 (.map (some b)) (pv k) false).run Try.prog w = .ok (pv v) w := by
  obtain ⟨es, clock, h1, h2⟩ := h.obj
  obtain ⟨j, hj⟩ := fndG_some 0 hn hv
  have hf := run_pfind hk h2 h.keys
  rw [hj] at hf
  simp [Instr.lookup, run_underlying Try.underlying54, MapKept.run_getObj_map h1, run_pcheck, hf, Result.andThen]
theorem PM.store (h : PM w b g) (hk : CBlk w k) (hn : ∀ p ∈ g, p.1 ≠ k) : ∃ w', (Instr.mapUpdate 54 (.map (some b)) (pv k) (pv v)).run Try.prog w = .ok () w' ∧ PM w' b (g ++ [(k, v)]) ∧ w.grownBy w' (some b) ∧ w'.heap.size = w.heap.size := by
  obtain ⟨es, clock, h1, h2⟩ := h.obj
  have hf := run_pfind hk h2 h.keys
  rw [fndG_none 0 hn] at hf
  have hgr : w.grownBy (setBlock w b (.map (es.push ⟨pv k, pv v, clock⟩) (clock + 1))) (some b) := World.mapTurned.grown ⟨es, clock, _, _, h1, rfl⟩
  refine ⟨setBlock w b (.map (es.push ⟨pv k, pv v, clock⟩) (clock + 1)), ?_, ⟨⟨_, _, heap_setBlock_same h1 _, ?_⟩, fun p hp => ?_⟩, hgr, by simp [setBlock]⟩
  · simp [Instr.mapUpdate, run_underlying Try.underlying54, MapKept.run_getObj_map h1, run_pcheck, hf, MapKept.run_setObj_map _ h1, Result.andThen, setBlock]
  · rw [Array.toList_push, List.map_append, h2, List.map_append]; rfl
  · have hc : CBlk w p.1 := by
      rcases List.mem_append.1 hp with hp | hp
      · exact h.keys p hp
      · rw [List.mem_singleton.1 hp]; exact hk
    obtain ⟨cs, t, hc⟩ := hc
    refine ⟨cs, t, (heap_setBlock_other h1 _ ?_).trans hc⟩
    intro e
    rw [e, h1] at hc
    cases hc
theorem PM.made (w : World) : PM (w.alloc (.map #[] 0)) w.heap.size [] := ⟨⟨#[], 0, heap_alloc_new w _, rfl⟩, fun p hp => by simp at hp⟩
theorem PM.lt (h : PM w b g) : b < w.heap.size := by
  obtain ⟨es, clock, h1, _⟩ := h.obj
  exact (Array.getElem?_eq_some_iff.1 h1).1
theorem CBlk.lt (h : CBlk w b) : b < w.heap.size := by
  obtain ⟨cs, t, h⟩ := h
  exact (Array.getElem?_eq_some_iff.1 h).1
theorem PM.frm {S : Nat → Prop} (h : PM w b g) (k : Frm S w w') (hb : ¬ S b) (hg : ∀ p ∈ g, ¬ S p.1) : PM w' b g := by
  obtain ⟨es, clock, h1, h2⟩ := h.obj
  refine ⟨⟨es, clock, (k.block b h.lt hb).trans h1, h2⟩, fun p hp => ?_⟩
  obtain ⟨cs, t, hc⟩ := h.keys p hp
  exact ⟨cs, t, (k.block p.1 (Array.getElem?_eq_some_iff.1 hc).1 (hg p hp)).trans hc⟩
theorem PM.below (h : PM w b g) (k : Below w.heap.size w w') : PM w' b g := h.frm (S := no) (Frm.of_below k) (fun h => h) (fun _ _ h => h)
end
end Go.Proofs.Ytfgpadikmnhldaa
