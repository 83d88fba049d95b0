/-
  Texts put together: contracts of the functions that the claim reaches. Conditions: those of each.
-/
import Derived.WalkKit
import Derived.WalkSpells
import Derived.WalkLawsBesides
import Derived.Lib.Hide
import Derived.Deep.Draws
import Derived.Laws.CopyOwn
import Derived.Deep.DeepCutAuto
import Derived.BigQuiet
import Derived.Deep.QuietTactic
import Derived.Deep.RegionHeld3
import Derived.Deep.AppendLies
import Derived.Maps.AppendAt
import Derived.RegionTactic
import Derived.Lib.SlBytesConst
import Derived.ShutString
import Derived.Deep.WholeRow
import Derived.Test.YtfgpadikmnhldaaRows
import Derived.ProofKit
import Derived.OpenShut
import Derived.Deep.Slices
import Derived.Deep.Fields
import Derived.Lib.SmallJoins
import Derived.Lib.AppendStr
import Derived.Test.YtfgpadikmnhldaaChecked
import Derived.Maps.RangeWalk
import Derived.Maps.OwnSet
import Derived.Maps.OwnOps
import Derived.StringKeys
import Derived.Sort.Walk0
import Derived.Deep.Quiet
/-
  Words for memory and small lemmas that all walks of this claim use: a slice that reads as a list, blocks known whole, worlds that differ above a block number only. No condition of its own; over any program.
-/
namespace Go.Proofs.Ytfgpadikmnhldaa
open Go Go.RowKit

/-- The cells behind an address, as a list. -/
def Rd (w : World) (A : Option Addr) (xs : List Value) : Prop :=
  ∀ j x, xs[j]? = some x → ∃ ad, A = some ad ∧ w.cell? (ad.add j) = some x

theorem add_block (a : Addr) (n : Nat) : (a.add n).block = a.block := by unfold Addr.add; split <;> rfl
theorem add_add' (a : Addr) (i j : Nat) : (a.add i).add j = a.add (i + j) := by
  unfold Addr.add
  by_cases hi : i = 0 <;> by_cases hj : j = 0 <;> simp [hi, hj, Nat.add_assoc]
theorem add_flat (b i j : Nat) : (⟨b, i, none⟩ : Addr).add j = ⟨b, i + j, none⟩ := by
  unfold Addr.add; split <;> simp_all

section
variable {w w' : World} {A : Option Addr} {xs : List Value}
theorem Rd.nil (w : World) (A : Option Addr) : Rd w A [] := fun j x h => by simp at h
theorem Rd.at_ (h : Rd w A xs) {k : Nat} {x : Value} (hk : xs[k]? = some x) : ∃ ad, A = some ad ∧ w.cell? (ad.add k) = some x := h k x hk
theorem Rd.keep (h : Rd w A xs) (hk : ∀ p : Addr, p.block < w.heap.size → w'.cell? p = w.cell? p) : Rd w' A xs := fun j x hx => by
  obtain ⟨ad, e, hc⟩ := h j x hx
  exact ⟨ad, e, by rw [hk _ (block_lt_of_cell hc)]; exact hc⟩
theorem Rd.below (h : Rd w A xs) (hb : Below w.heap.size w w') : Rd w' A xs := h.keep fun _ hp => hb.cell hp
theorem Rd.alloc (h : Rd w A xs) (o : Obj) : Rd (w.alloc o) A xs := h.keep fun p hp => World.cell?_alloc_lt w o p hp
theorem Rd.drew (h : Rd w A xs) : Rd w.drew A xs := h
theorem Rd.drewN (h : Rd w A xs) (n : Nat) : Rd (w.drewN n) A xs := h
theorem Rd.row {b i : Nat} (h : ∀ j x, xs[j]? = some x → w.cell? ⟨b, i + j, none⟩ = some x) : Rd w (some ⟨b, i, none⟩) xs := fun j x hx =>
  ⟨_, rfl, by rw [add_flat]; exact h j x hx⟩
theorem Rd.new (w : World) (cs : Array Value) (t : TypeId) : Rd (w.alloc (.cells cs t)) (some ⟨w.heap.size, 0, none⟩) cs.toList := Rd.row fun j x hx => by
  rw [Nat.zero_add, World.cell?_alloc_new]; simpa using hx
theorem Rd.flat (h : Rd w A xs) (hne : 0 < xs.length) : ∃ b o, A = some ⟨b, o, none⟩ ∧ b < w.heap.size ∧ ∀ j x, xs[j]? = some x → w.cell? ⟨b, o + j, none⟩ = some x := by
  obtain ⟨⟨b, o, sp⟩, e, hc⟩ := h 0 _ (List.getElem?_eq_getElem hne)
  have h0 : (⟨b, o, sp⟩ : Addr).add 0 = ⟨b, o, sp⟩ := rfl
  rw [h0] at hc
  have hsp : sp = none := by
    unfold World.cell? at hc
    split at hc
    · cases sp with
      | none => rfl
      | some s => simp at hc
    · cases hc
  subst hsp
  refine ⟨b, o, e, block_lt_of_cell hc, fun j x hx => ?_⟩
  obtain ⟨ad, e', hc'⟩ := h j x hx
  rw [e] at e'; injection e' with e'; subst e'
  rw [add_flat] at hc'; exact hc'
theorem Rd.cut (h : Rd w A xs) {k cap : Nat} (hc : xs.length ≤ cap) (hk : k ≤ xs.length) : Rd w (if cap = k then A else A.map (·.add k)) (xs.drop k) := by
  intro j x hx
  rw [List.getElem?_drop] at hx
  obtain ⟨ad, rfl, hcell⟩ := h _ _ hx
  have hl := (List.getElem?_eq_some_iff.1 hx).1
  rw [if_neg (by omega)]
  exact ⟨_, rfl, by rw [add_add']; exact hcell⟩
theorem Rd.take (h : Rd w A xs) (k : Nat) : Rd w A (xs.take k) := fun j x hx => h j x (by
  rw [List.getElem?_take] at hx
  split at hx
  · exact hx
  · cases hx)
theorem Rd.set {g i p : Nat} {v : Value} (h : Rd w (some ⟨g, i, none⟩) xs) (hp : p < xs.length) : Rd (w.setCell ⟨g, i + p, none⟩ v) (some ⟨g, i, none⟩) (xs.set p v) := Rd.row fun j x hx => by
  obtain ⟨ad, e, hold⟩ := h p _ (List.getElem?_eq_getElem hp)
  injection e with e; subst e
  rw [add_flat] at hold
  by_cases hj : j = p
  · subst hj
    rw [List.getElem?_set_self hp] at hx
    rw [World.cell?_setCell_same _ _ _ hold]; exact hx
  · rw [List.getElem?_set_ne (fun e => hj e.symm)] at hx
    rw [World.cell?_setCell_other _ _ _ _ (by intro e; injection e with _ e2; omega)]
    obtain ⟨ad, e, hc⟩ := h j x hx
    injection e with e; subst e
    rw [add_flat] at hc; exact hc
theorem Rd.of_own {base : Nat} {e : TypeId} {size n c : Nat} (h : w.ownsRow base e size (.slice A n c) n xs) : Rd w A xs := fun j x hx => by
  have hl := (List.getElem?_eq_some_iff.1 hx).1
  have hn : 0 < n := by
    rcases Nat.eq_zero_or_pos n with h0 | h0
    · have := h.1; rw [h0, Nat.zero_mul] at this; omega
    · exact h0
  obtain ⟨g, cap, hv, _, hlt⟩ := h.form hn
  have hA : A = some ⟨g, 0, none⟩ := by injection hv
  subst hA
  exact ⟨_, rfl, h.cells (g := g) rfl j x hx⟩
end

theorem below_drewN {B : Nat} {a w : World} (h : Below B a w) (n : Nat) : Below B a (w.drewN n) := ⟨h.os, h.tape, h.output, h.size, h.block⟩
theorem below_setRow {B : Nat} {a w : World} (h : Below B a w) {g : Nat} (hg : B ≤ g) (cs : Array Value) : Below B a (w.setRow g cs) :=
  h.trans ⟨rfl, rfl, rfl, by simp, fun k hk => setRow_other w g k cs (by omega)⟩
theorem below_new {w w' : World} (o : Obj) (h : Below (w.heap.size + 1) (w.alloc o) w') : Below w.heap.size w w' :=
  ((Below.refl _ w).alloc (Nat.le_refl _) o).trans (h.mono (by omega))
theorem below_of {w x w' : World} {B n : Nat} (h : Below n x w') (hx : Below B w x) (hn : B ≤ n) : Below B w w' := hx.trans (h.mono hn)
theorem below_cells {w w' : World} {B : Nat} (hb : Below B w w') : (∀ b o, b < B → w'.cell? ⟨b, o, none⟩ = w.cell? ⟨b, o, none⟩) ∧ (∀ b o, b < B → w'.frozen? ⟨b, o, none⟩ = w.frozen? ⟨b, o, none⟩) :=
  ⟨fun b o h => hb.cell (p := ⟨b, o, none⟩) h, fun b o h => hb.frozen (p := ⟨b, o, none⟩) h⟩

/-- What was there has not turned, but for the blocks in S. -/
structure Frm (S : Nat → Prop) (w w' : World) : Prop where
  os : w'.os = w.os
  tape : w'.tape = w.tape
  output : w'.output = w.output
  size : w.heap.size ≤ w'.heap.size
  block : ∀ k, k < w.heap.size → ¬ S k → w'.heap[k]? = w.heap[k]?
/-- No block. -/
def no : Nat → Prop := fun _ => False
/-- One block. -/
def at1 (g : Nat) : Nat → Prop := fun k => k = g
section
variable {w w' a b c : World} {S T : Nat → Prop}
theorem Frm.refl (S : Nat → Prop) (w : World) : Frm S w w := ⟨rfl, rfl, rfl, Nat.le_refl _, fun _ _ _ => rfl⟩
theorem Frm.trans (h : Frm S a b) (k : Frm T b c) (hT : ∀ i, i < a.heap.size → T i → S i) : Frm S a c :=
  ⟨k.os.trans h.os, k.tape.trans h.tape, k.output.trans h.output, Nat.le_trans h.size k.size, fun i hi hs => (k.block i (Nat.lt_of_lt_of_le hi h.size) (fun t => hs (hT i hi t))).trans (h.block i hi hs)⟩
theorem Frm.then_ (h : Frm S a b) (k : Frm S b c) : Frm S a c := h.trans k fun _ _ h => h
theorem Frm.mono (h : Frm S a b) (hS : ∀ i, i < a.heap.size → S i → T i) : Frm T a b := ⟨h.os, h.tape, h.output, h.size, fun i hi hs => h.block i hi fun t => hs (hS i hi t)⟩
theorem Frm.of_below (h : Below a.heap.size a b) : Frm S a b := ⟨h.os, h.tape, h.output, h.size, fun i hi _ => h.block i hi⟩
theorem Frm.below {B : Nat} (h : Frm S a b) (hB : B ≤ a.heap.size) (hS : ∀ i, S i → B ≤ i) : Below B a b :=
  ⟨h.os, h.tape, h.output, h.size, fun i hi => h.block i (by omega) fun t => by have := hS i t; omega⟩
theorem Frm.quiet (h : Below a.heap.size a b) (k : Frm S b c) : Frm S a c := (Frm.of_below h).then_ k
theorem Frm.step (h : Frm S a b) (k : Below b.heap.size b c) : Frm S a c := h.then_ (Frm.of_below k)
theorem Frm.alloc (h : Frm S a b) (o : Obj) : Frm S a (b.alloc o) := h.step ((Below.refl _ _).alloc (Nat.le_refl _) o)
theorem Frm.drew (h : Frm S a b) : Frm S a b.drew := ⟨h.os, h.tape, h.output, h.size, h.block⟩
theorem Frm.drewN (h : Frm S a b) (n : Nat) : Frm S a (b.drewN n) := ⟨h.os, h.tape, h.output, h.size, h.block⟩
theorem Frm.setCell (h : Frm S a b) {p : Addr} (hp : p.block < a.heap.size → S p.block) (u : Value) : Frm S a (b.setCell p u) :=
  h.trans (T := at1 p.block) ⟨rfl, rfl, rfl, by simp [World.setCell], fun k _ hk => Below.heap_setCell _ _ _ _ hk⟩ fun i hi ht => by
    unfold at1 at ht; subst ht; exact hp hi
theorem Frm.setRow (h : Frm S a b) {g : Nat} (hp : g < a.heap.size → S g) (cs : Array Value) : Frm S a (b.setRow g cs) :=
  h.trans (T := at1 g) ⟨rfl, rfl, rfl, by simp, fun k _ hk => setRow_other _ _ _ _ hk⟩ fun i hi ht => by
    unfold at1 at ht; subst ht; exact hp hi
theorem Frm.grown (h : Frm S a b) {row : Option Nat} (hg : b.grownBy c row) (hr : ∀ k, row = some k → k < a.heap.size → S k) : Frm S a c :=
  h.trans (T := fun k => row = some k) ⟨hg.os, hg.tape, hg.output, hg.size, fun i hi hs => hg.block i hi fun e => hs e.symm⟩ fun i hi ht => hr i ht hi
theorem Frm.cell (h : Frm S a b) {p : Addr} (hp : p.block < a.heap.size) (hs : ¬ S p.block) : b.cell? p = a.cell? p := World.cell?_of_block (w := a) (h.block p.block hp hs)
theorem Frm.frozen (h : Frm S a b) {p : Addr} (hp : p.block < a.heap.size) (hs : ¬ S p.block) : b.frozen? p = a.frozen? p := World.frozen?_of_block (w := a) (h.block p.block hp hs)
theorem below_frm {B : Nat} (h : Below B a b) (k : Frm S b c) (hB : B ≤ a.heap.size) (hS : ∀ i, S i → B ≤ i) : Below B a c := below_of (k.below (Nat.le_trans hB h.size) hS) h (Nat.le_refl _)
theorem Rd.frm {A : Option Addr} {xs : List Value} (h : Rd w A xs) (k : Frm S w w') (hs : ∀ ad, A = some ad → ¬ S ad.block) : Rd w' A xs := fun j x hx => by
  obtain ⟨ad, e, hc⟩ := h j x hx
  have hb := block_lt_of_cell hc
  exact ⟨ad, e, by rw [k.cell hb (by rw [add_block]; exact hs ad e)]; exact hc⟩
theorem own_frm {base : Nat} {e : TypeId} {size n : Nat} {v : Value} {xs : List Value} (h : w.ownsRow base e size v n xs) (k : Frm S w w') (hs : ∀ g, v.ownBlock = some g → ¬ S g) : w'.ownsRow base e size v n xs := by
  refine ⟨h.1, ?_⟩
  rcases h.2 with h0 | ⟨g, cap, cur, rfl, hb, hh, r⟩
  · exact .inl h0
  · exact .inr ⟨g, cap, cur, rfl, hb, (k.block g (lt_of_block hh) (hs g rfl)).trans hh, r⟩
theorem own_base {base base' : Nat} {e : TypeId} {size n : Nat} {v : Value} {xs : List Value} (h : w.ownsRow base e size v n xs) (hb : base' ≤ base) : w.ownsRow base' e size v n xs := by
  refine ⟨h.1, ?_⟩
  rcases h.2 with h0 | ⟨g, cap, cur, rfl, hg, r⟩
  · exact .inl h0
  · exact .inr ⟨g, cap, cur, rfl, by omega, r⟩
end

theorem own_form {w : World} {base : Nat} {e : TypeId} {size n : Nat} {v : Value} {xs : List Value} (h : w.ownsRow base e size v n xs) : ∃ A c, v = .slice A n c ∧ n ≤ c := by
  rcases h.2 with ⟨rfl, rfl⟩ | ⟨g, cap, cur, rfl, _, _, h, _⟩
  · exact ⟨_, _, rfl, Nat.le_refl _⟩
  · exact ⟨_, _, rfl, h⟩

/-- A block known whole, none of its cells frozen. -/
def Blk (w : World) (g : Nat) (t : TypeId) (cs : Array Value) : Prop := w.heap[g]? = some (.cells cs t (0, 0))
section
variable {w w' : World} {g : Nat} {t : TypeId} {cs : Array Value} {S : Nat → Prop}
theorem Blk.lt (h : Blk w g t cs) : g < w.heap.size := lt_of_block h
theorem Blk.cell (h : Blk w g t cs) (i : Nat) : w.cell? ⟨g, i, none⟩ = cs[i]? := cell_of_row w g i cs t (0, 0) h
theorem Blk.free (h : Blk w g t cs) (i : Nat) : w.frozen? ⟨g, i, none⟩ = false := frozen_of_row w g i cs t h
theorem Blk.new (w : World) (t : TypeId) (cs : Array Value) : Blk (w.alloc (.cells cs t)) w.heap.size t cs := heap_alloc_new w _
theorem Blk.frm (h : Blk w g t cs) (k : Frm S w w') (hs : ¬ S g) : Blk w' g t cs := (k.block g h.lt hs).trans h
theorem Blk.below (h : Blk w g t cs) (k : Below w.heap.size w w') : Blk w' g t cs := (k.block g h.lt).trans h
theorem Blk.alloc (h : Blk w g t cs) (o : Obj) : Blk (w.alloc o) g t cs := (Below.heap_alloc w o g h.lt).trans h
theorem Blk.drew (h : Blk w g t cs) : Blk w.drew g t cs := h
theorem Blk.drewN (h : Blk w g t cs) (n : Nat) : Blk (w.drewN n) g t cs := h
theorem Blk.set_ (h : Blk w g t cs) (i : Nat) (u : Value) : Blk (w.setCell ⟨g, i, none⟩ u) g t (cs.setIfInBounds i u) := heap_setCell_same w g i cs t u h
theorem Blk.far (h : Blk w g t cs) {p : Addr} (hp : g ≠ p.block) (u : Value) : Blk (w.setCell p u) g t cs := (heap_setCell_other w p g u hp).trans h
theorem Blk.ne_ {g' : Nat} {t' : TypeId} {cs' : Array Value} (h : Blk w g t cs) (h' : Blk w g' t' cs') (hne : t ≠ t') : g ≠ g' := by
  rintro rfl
  unfold Blk at h h'
  rw [h] at h'
  injection h' with h'
  injection h' with _ ht
  exact hne ht
theorem Blk.own_ne {base : Nat} {e : TypeId} {size n : Nat} {v : Value} {xs : List Value} (h : Blk w g t cs) (ho : w.ownsRow base e size v n xs) (hne : e ≠ t) : v.ownBlock ≠ some g := by
  rcases ho.2 with ⟨rfl, _⟩ | ⟨g', cap, cur, rfl, _, hh, _⟩
  · simp [Value.ownBlock]
  · intro he
    have : g' = g := by simpa [Value.ownBlock] using he
    subst this
    exact Blk.ne_ (t := e) hh h hne rfl
end

/-- A cell behind a store, whatever the world. -/
theorem cell_set_if (w : World) (b i b' j : Nat) (v : Value) : (w.setCell ⟨b, i, none⟩ v).cell? ⟨b', j, none⟩ = if b = b' ∧ i = j then (w.cell? ⟨b, i, none⟩).map (fun _ => v) else w.cell? ⟨b', j, none⟩ := by
  by_cases h : b = b' ∧ i = j
  · obtain ⟨rfl, rfl⟩ := h
    rw [if_pos ⟨rfl, rfl⟩]
    cases hc : w.cell? ⟨b, i, none⟩ with
    | none =>
      simp only [World.cell?, World.setCell, Array.getElem?_modify, if_true] at hc ⊢
      cases hh : w.heap[b]? with
      | none => simp
      | some o =>
        cases o <;> simp [hh] at hc ⊢
        omega
    | some u => rw [World.cell?_setCell_same _ _ _ hc]; rfl
  · rw [if_neg h, World.cell?_setCell_other]
    intro e; injection e with e1 e2; exact h ⟨e1, e2⟩

/-- The bytes of a string. -/
def bts (s : ByteArray) : List UInt8 := s.data.toList
/-- A string of these bytes. -/
def bs (l : List UInt8) : ByteArray := ⟨l.toArray⟩
abbrev str (l : List UInt8) : Value := .string (bs l)
theorem bts_bs (l : List UInt8) : bts (bs l) = l := rfl
theorem bs_bts (s : ByteArray) : bs (bts s) = s := by cases s; rfl
theorem bts_inj {s t : ByteArray} (h : bts s = bts t) : s = t := by rw [← bs_bts s, h, bs_bts]
theorem bts_append (s t : ByteArray) : bts (s ++ t) = bts s ++ bts t := by simp [bts]
theorem bs_append (s t : ByteArray) : s ++ t = bs (bts s ++ bts t) := by rw [← bts_append, bs_bts]
theorem bs_size (l : List UInt8) : (bs l).size = l.length := by simp [bs, ByteArray.size]
theorem str_beq (s t : ByteArray) : (s.toList == t.toList) = decide (bts s = bts t) := by
  rw [ByteArray.toList_eq, ByteArray.toList_eq]
  by_cases h : bts s = bts t
  · simp [h, show s.data.toList = t.data.toList from h]
  · simp only [h, decide_false]
    rw [beq_eq_false_iff_ne]; exact h
theorem bts_extract (s : ByteArray) (a e : Nat) : bts (s.extract a e) = ((bts s).take e).drop a := by
  simp [bts, ByteArray.data_extract, Array.toList_extract, List.take_drop]
  by_cases h : a ≤ e
  · congr 1; congr 1; omega
  · rw [List.drop_eq_nil_of_le, List.drop_eq_nil_of_le] <;> simp <;> omega
theorem bts_len (s : ByteArray) : (bts s).length = s.size := by
  cases s; simp [bts, ByteArray.size]

/-- The cells of a slice of bytes. -/
def u8s (l : List UInt8) : List Value := l.map fun b => .int .u8 (b.toNat : Int)
theorem u8s_len (l : List UInt8) : (u8s l).length = l.length := by simp [u8s]
theorem u8s_one (l : List UInt8) : ∀ u ∈ u8s l, u.oneCell' = true := by
  intro u hu; simp [u8s] at hu; obtain ⟨b, _, rfl⟩ := hu; rfl

theorem u8s_set (l : List UInt8) (p : Nat) (v : UInt8) : (u8s l).set p (.int .u8 (v.toNat : Int)) = u8s (l.set p v) := by simp [u8s, List.map_set]
theorem cell_u8 {w : World} {g : Nat} {l : List UInt8} {p : Nat} {b : UInt8} (hr : Rd w (some ⟨g, 0, none⟩) (u8s l)) (hb : l[p]? = some b) : w.cell? ⟨g, p, none⟩ = some (.int .u8 (b.toNat : Int)) := by
  obtain ⟨ad, e, hc⟩ := hr p (.int .u8 (b.toNat : Int)) (by simp [u8s, hb])
  injection e with e; subst e
  rw [add_flat, Nat.zero_add] at hc; exact hc

section
variable {P : Program}
theorem run_loadCells_rd (w : World) (a : Addr) (xs : List Value) (hr : Rd w (some a) xs) : (loadCells a xs.length).run P w = .ok xs.toArray w :=
  run_loadCells_list (P := P) w a xs fun j v hv => by
    obtain ⟨ad, e, hc⟩ := hr j v hv
    injection e with e
    subst e; exact hc
theorem foldl_push_u8 : ∀ (ns : List Int) (s : ByteArray), ns.foldl (fun r n => r.push (UInt8.ofNat n.toNat)) s = ⟨s.data ++ (ns.map fun n => UInt8.ofNat n.toNat).toArray⟩
  | [], s => by simp
  | n :: ns, s => by
    rw [List.foldl_cons, foldl_push_u8 ns]
    simp [ByteArray.push]
theorem run_bytes_str (w : World) (src dst e : TypeId) (hs : P.underlying src = some (.slice e)) (he : P.underlying e = some (.int .u8)) (hd : P.underlying dst = some .string)
    (A : Option Addr) (n c : Nat) (l : List UInt8) (hr : Rd w A (u8s l)) (hn : l.length = n) : (convert src dst (.slice A n c)).run P w = .ok (str l) w := by
  rw [run_convert_bytes_string w src dst e A n c hs he hd]
  cases A with
  | none =>
    have hl : l = [] := by
      cases l with
      | nil => rfl
      | cons b l =>
        obtain ⟨ad, e, _⟩ := hr 0 (.int .u8 (b.toNat : Int)) (by simp [u8s])
        cases e
    subst hl
    simp [Conv.bytesToString, str, bs]; rfl
  | some a =>
    have hl : (loadCells a n).run P w = .ok ((l.map fun b => (b.toNat : Int)).map (Value.int .u8)).toArray w := by
      have := run_loadCells_rd (P := P) w a (u8s l) hr
      rw [u8s_len, hn] at this
      rw [this]; simp [u8s]
    rw [run_bytesToString w a n c _ hl, foldl_push_u8]
    simp [ByteArray.empty, ByteArray.emptyWithCapacity, str, bs, Function.comp_def]
    rfl
/-- 'string(b)', b any slice of bytes that reads as l. -/
theorem wpList_bytes_str {ops : Array Oper} {rest : List Oper} {o : Oper} {a : Act} {w : World} {Q : Exit → Act → World → Prop} (hgd : o.guard = none) (src dst : TypeId) (x : Operand) (ho : o.op = .convert src dst x)
    (e : TypeId) (hs : P.underlying src = some (.slice e)) (he : P.underlying e = some (.int .u8)) (hd : P.underlying dst = some .string)
    (A : Option Addr) (n c : Nat) (l : List UInt8) (hx : a.eval x = .slice A n c) (hr : Rd w A (u8s l)) (hn : l.length = n)
    (h : wpList P ops Q rest (a.put o.dst (str l)) w) : wpList P ops Q (o :: rest) a w :=
  wpList_plain hgd fun K hK => by
    unfold Oper.wp execOp
    simp only [ho, hx, Sem.run_bind, run_bytes_str w src dst e hs he hd A n c l hr hn, Result.andThen_ok, Sem.run_pure]
    exact hK _ _ h

/-- '[]byte(s)': a new row of the bytes of s, none of them frozen. -/
theorem wpList_str_bytes {ops : Array Oper} {rest : List Oper} {o : Oper} {a : Act} {w : World} {Q : Exit → Act → World → Prop} (hgd : o.guard = none) (src dst : TypeId) (x : Operand) (ho : o.op = .convert src dst x)
    (e : TypeId) (hs : P.underlying src = some .string) (hd : P.underlying dst = some (.slice e)) (he : P.underlying e = some (.int .u8)) (s : ByteArray) (hx : a.eval x = .string s)
    (h : ∀ c w', s.size ≤ c → Below w.heap.size w w' → w'.heap.size = w.heap.size + 1 → Rd w' (some ⟨w.heap.size, 0, none⟩) (u8s (bts s)) → (∀ j, j < s.size → w'.frozen? ⟨w.heap.size, j, none⟩ = false) →
      wpList P ops Q rest (a.put o.dst (.slice (some ⟨w.heap.size, 0, none⟩) s.size c)) w') : wpList P ops Q (o :: rest) a w :=
  wpList_plain hgd fun K hK => by
    unfold Oper.wp execOp
    simp only [ho, hx, Sem.run_bind, run_bytes_of_string w src dst e s hs hd he, Result.andThen_ok, Sem.run_pure]
    refine hK _ _ (h _ _ (grownCap_ge w s.size 0 e) (((Below.refl _ _).drew).alloc (Nat.le_refl _) _) (by simp) ?_ ?_)
    · refine Rd.row fun j x hx => ?_
      have hj : j < s.data.size := by
        have := (List.getElem?_eq_some_iff.1 hx).1
        simpa [u8s, bts] using this
      have hc : (w.drew.alloc (.cells (bytesRow s (grownCap w s.size 0 e)) e ((bytesRow s (grownCap w s.size 0 e)).size, (bytesRow s (grownCap w s.size 0 e)).size + 1))).cell? ⟨w.heap.size, 0 + j, none⟩ = (bytesRow s (grownCap w s.size 0 e))[j]? := by
        rw [cell_of_row _ w.heap.size (0 + j) _ _ _ (heap_alloc_new w.drew _), Nat.zero_add]
      rw [hc, bytesRow_at s _ j hj]
      simp [u8s, bts] at hx
      obtain ⟨b, hb, rfl⟩ := hx
      simp [Array.getElem?_eq_getElem hj] at hb
      rw [hb]
    · intro j hj
      have hh : (w.drew.alloc (.cells (bytesRow s (grownCap w s.size 0 e)) e ((bytesRow s (grownCap w s.size 0 e)).size, (bytesRow s (grownCap w s.size 0 e)).size + 1))).heap[w.heap.size]? = some _ := heap_alloc_new w.drew _
      have hsz : s.size ≤ (bytesRow s (grownCap w s.size 0 e)).size := by
        unfold bytesRow; rw [Array.size_append, Array.size_map]; exact Nat.le_add_right s.data.size _
      simp only [World.frozen?, hh]
      simp; omega

/-- 'out = append(out, src...)', out nil or the call's own, src any slice that reads as news. -/
theorem wpList_app {w : World} {ops : Array Oper} {rest : List Oper} {o : Oper} {a : Act} {Q : Exit → Act → World → Prop} (hgd : o.guard = none) (s x : Operand) (t : TypeId)
    (ho : o.op = .call { callee := .builtin .append, args := #[s, x], argTypes := #[t, t] })
    (base : Nat) (e : TypeId) (i : TypeInfo) (z : Value) (size bytes : Nat) (ht : P.underlying t = some (.slice e)) (hi : P.info? e = some i) (hz : i.zero = some z)
    (hsize : i.size = size) (hby : i.bytes = bytes) (hzs : z.cells.size = size) (hsz : 0 < size)
    (v : Value) (n : Nat) (xs : List Value) (hs : a.eval s = v) (hown : w.ownsRow base e size v n xs)
    (A : Option Addr) (m c : Nat) (news : List Value) (hx : a.eval x = .slice A m c) (hr : Rd w A news) (hl : news.length = m * size) (h1 : ∀ u ∈ news, u.oneCell' = true)
    (h63 : n + m ≤ maxLen) (hbytes : (n + m) * bytes ≤ 140737488355328) (hbase : base ≤ w.heap.size)
    (h : ∀ v' w', w'.ownsRow base e size v' (n + m) (xs ++ news) → w.grownBy w' v.ownBlock → Below base w w' → (v'.ownBlock = v.ownBlock ∨ v'.ownBlock = some w.heap.size) → wpList P ops Q rest (a.put o.dst v') w') : wpList P ops Q (o :: rest) a w := by
  have hbel : ∀ w', w.grownBy w' v.ownBlock → Below base w w' := fun w' hg => (Below.refl base w).grown hg hbase fun k hk => (hown.lt k hk).1
  cases A with
  | none =>
    have hn : news = [] := by
      cases news with
      | nil => rfl
      | cons b l =>
        obtain ⟨ad, e, _⟩ := hr 0 b (by simp)
        cases e
    subst hn
    have hm : m = 0 := by
      have : m * size = 0 := by simpa using hl.symm
      rcases Nat.mul_eq_zero.1 this with h0 | h0
      · exact h0
      · omega
    subst hm
    have hrun : (Builtin.append_ #[t, t] o.type #[v, .slice none 0 c]).run P w = .ok v w := by
      rcases hown.2 with ⟨rfl, rfl⟩ | ⟨g, cap, cur, rfl, _, _, hnc, _⟩
      · simp [Builtin.append_, run_underlying ht, sizeOf, typeInfo, hi, Builtin.lenOf, Builtin.firstCells]
      · simp [Builtin.append_, run_underlying ht, sizeOf, typeInfo, hi, Builtin.lenOf, Builtin.firstCells, hnc, storeCells]
    refine wpList_plain hgd fun K hK => ?_
    unfold Oper.wp execOp
    simp only [ho, resolve, invoke, builtin, Sem.run_bind, Sem.run_pure, Result.andThen_ok, List.map_toArray, List.map_cons, List.map_nil, hs, hx, hrun]
    exact hK _ _ (h v w (by simpa using hown) (World.grownBy.refl _ _) (Below.refl _ _) (.inl rfl))
  | some ad =>
    refine wpList_append_own_at w hgd s x t ho base e i z size bytes ht hi hz hsize hby hzs hsz v n xs hs hown ad m c news hx hl (fun j u hu => ?_) h1 h63 hbytes hbase fun v' w' h2 h3 _ h5 => h v' w' h2 h3 (hbel w' h3) h5
    obtain ⟨ad', e, hc⟩ := hr j u hu
    injection e with e
    subst e; exact hc
end

theorem one_int (k : IntKind) (n : Int) : ∀ u ∈ [Value.int k n], u.oneCell' = true := by intro u hu; simp at hu; subst hu; rfl
theorem one_str (s : ByteArray) : ∀ u ∈ [Value.string s], u.oneCell' = true := by intro u hu; simp at hu; subst hu; rfl
theorem Rd.one (w : World) (v : Value) (t : TypeId) : Rd (w.alloc (.cells #[v] t)) (some ⟨w.heap.size, 0, none⟩) [v] := by simpa using Rd.new w #[v] t
/-- A number in n bytes, the lowest first. -/
def lowB : Nat → Nat → List UInt8
  | _, 0 => []
  | v, n + 1 => UInt8.ofNat v :: lowB (v / 256) n
theorem lowB_len (v n : Nat) : (lowB v n).length = n := by
  induction n generalizing v with
  | zero => rfl
  | succ n ih => simp [lowB, ih]
theorem lowB_snoc (v n : Nat) : lowB v (n + 1) = lowB v n ++ [UInt8.ofNat (v / 256 ^ n)] := by
  induction n generalizing v with
  | zero => simp [lowB]
  | succ n ih =>
    rw [lowB, ih (v / 256), lowB]
    simp [Nat.div_div_eq_div_mul, Nat.pow_succ, Nat.mul_comm]

theorem ret_int {k : IntKind} {a b : Int} (h : a = b) : Ending.returned (.int k a) = .returned (.int k b) := by rw [h]
theorem ret_bool {a b : Bool} (h : a = b) : Ending.returned (.bool a) = .returned (.bool b) := by rw [h]
theorem int_eq {k : IntKind} {a b : Int} (h : a = b) : Value.int k a = .int k b := by rw [h]

theorem take_snoc (s : ByteArray) (k : Nat) (h : k < s.size) : s.data.toList.take (k + 1) = s.data.toList.take k ++ [s[k]] := by
  rw [List.take_succ_eq_append_getElem (by simpa using h)]; rfl
theorem take_all (s : ByteArray) : s.data.toList.take s.size = s.data.toList := List.take_of_length_le (by simp)

end Go.Proofs.Ytfgpadikmnhldaa

/-
  The row's last step where the world behind the call is known by 'Below' alone: every argument reads as it did, whatever its type; and what arguments of some types are, opened. No condition of its own.
-/
namespace Go.Proofs.Ytfgpadikmnhldaa
open Go Go.RowKit Go.WideShapes Go.ChangeShapes

section
variable {H : Type} {enc : TypeId × Value → H} {P : Program}

theorem trodAll_below (hl : laidOutB P = true) {W W' : World} {sp : Nat → Bool} (hb : Below W.heap.size W W') : ∀ (ts : List TypeId) (vs : List Value) (ds : List (DataW H)) (ps : List MemPlace),
    (∀ t ∈ ts, P.readableRec t = true ∧ t < P.types.size) → DataW.TrodAll enc P W 0 (fun _ => true) true ts vs ds ps → (∀ x ∈ ps, x.block < W.heap.size) → (∀ x ∈ ps, sp x.block = true) →
    DataW.TrodAll enc P W' 0 sp true ts vs ds ps
  | [], vs, ds, ps, _, h, _, _ => by
    obtain ⟨rfl, rfl, rfl⟩ := trodAll_nil h; rfl
  | t :: ts, vs, ds, ps, ht, h, hlt, hsp => by
    obtain ⟨v, vs', d, ds', p, q, rfl, rfl, rfl, h0, h1⟩ := trodAll_cons h
    obtain ⟨hr, hrow⟩ := ht t (by simp)
    exact trodAll_cons_mk (WideElems.Trod_stays hl hr hrow h0 (fun x hx => hb.same (hlt x (by simp [hx]))) (fun x hx => hsp x (by simp [hx])))
      (trodAll_below hl hb ts vs' ds' q (fun t ht' => ht t (by simp [ht'])) h1 (fun x hx => hlt x (by simp [hx])) (fun x hx => hsp x (by simp [hx])))

/-- A law's end: true was returned, and nothing that was there has turned. -/
theorem law_post (hl : laidOutB P = true) {f : Func} {s : ChangeSpec} {W W' : World} {args : Array Value} {ds gs : List (DataW H)} {before : List MemPlace} {tb : TypeId}
    (hts : f.params.toList.all (fun t => P.readableRec t && decide (t < P.types.size)) = true) (hrt : f.resultTypes = #[tb]) (htb : P.underlying tb = some .bool) (hvars : s.vars = [])
    (hspec : s.fn H (ds ++ gs) = { results := [.lit (.bool true)], args := ds, vars := gs })
    (hW : DataW.Whole enc P f.params.toList s.vars false W args.toList ds gs before) (hb : Below W.heap.size W W') : s.post enc P f false true false false W args (.bool true) W' := by
  have hlt : ∀ p ∈ before, p.block < W.heap.size := fun p hp => hW.lt p hp
  obtain ⟨p, q, hA, hV, rfl, hz, hn⟩ := id hW
  have hts' : ∀ t ∈ f.params.toList, P.readableRec t = true ∧ t < P.types.size := fun t ht => by
    have := List.all_eq_true.1 hts t ht
    simpa using this
  refine ⟨ds, gs, p ++ q, [], p, q, hW, ?_, ?_, ?_, hb.frame _, fun h => by cases h⟩
  · rw [hrt, hspec]
    exact trodAll_mk1 (shut_bool htb true)
  · rw [hspec]
    exact trodAll_below hl hb _ _ _ _ hts' hA (fun x hx => hlt x (by simp [hx])) (fun x hx => by simpa using hlt x (by simp [hx]))
  · rw [hspec]
    rw [hvars] at hV ⊢
    cases gs with
    | nil => exact hV
    | cons g gs => simp [DataW.TrodVars] at hV

variable {w : World} {base : Nat} {spare : Nat → Bool} {held : Bool} {r : Reach}
/-- A slice of strings. -/
theorem open_strs {t e : TypeId} {v : Value} {d : DataW H} {p : List MemPlace} (ht : P.underlying t = some (.slice e)) (he : P.underlying e = some .string) (hc : P.cellsOf e = 1)
    (hv : Value.okWide P w r base t v) (h : DataW.Trod enc P w 0 spare held t v d p) :
    ∃ (A : Option Addr) (n c : Nat) (ss : List ByteArray), v = .slice A n c ∧ Rd w A (ss.map Value.string) ∧ ss.length = n ∧ n ≤ c ∧ c ≤ maxLen ∧ (∀ s ∈ ss, s.size ≤ maxLen) := by
  obtain ⟨a0, len, cap, rfl⟩ := okWide_slice ht hv
  obtain ⟨fuel, hf⟩ := h
  rcases open_strings ht he hc hf with ⟨hcs, _⟩ | ⟨a, len', cap', ss, hcs, _, hl, hm, hz, _, hcell, hws⟩
  · simp [Value.cells] at hcs
    obtain ⟨rfl, rfl, rfl⟩ := hcs
    exact ⟨none, 0, 0, [], rfl, Rd.nil _ _, rfl, Nat.le_refl _, by unfold maxLen; omega, by simp⟩
  · simp [Value.cells] at hcs
    obtain ⟨rfl, rfl, rfl⟩ := hcs
    have hle : len ≤ ss.length := by rw [hz]; split <;> omega
    refine ⟨some a, len, cap, ss.take len, rfl, ?_, by rw [List.length_take]; omega, hl, hm, fun s hs => hws s (List.mem_of_mem_take hs)⟩
    intro j x hx
    rw [List.getElem?_map, Option.map_eq_some_iff] at hx
    obtain ⟨s, hs, rfl⟩ := hx
    rw [List.getElem?_take] at hs
    split at hs
    · rename_i hj
      refine ⟨a, rfl, ?_⟩
      rw [hcell j (by omega), List.getD_eq_getElem?_getD, hs]; rfl
    · cases hs
/-- A slice of integers of one kind. -/
theorem open_nums {t e : TypeId} {k : IntKind} {v : Value} {d : DataW H} {p : List MemPlace} (ht : P.underlying t = some (.slice e)) (he : P.underlying e = some (.int k)) (hc : P.cellsOf e = 1)
    (hv : Value.okWide P w r base t v) (h : DataW.Trod enc P w 0 spare held t v d p) :
    ∃ (A : Option Addr) (n c : Nat) (zs : List Int), v = .slice A n c ∧ Rd w A (zs.map (Value.int k)) ∧ zs.length = n ∧ n ≤ c ∧ c ≤ maxLen ∧ (∀ z ∈ zs, (Lit.int k z).wf = true) := by
  obtain ⟨a0, len, cap, rfl⟩ := okWide_slice ht hv
  obtain ⟨fuel, hf⟩ := h
  rcases open_ints ht he hc hf with ⟨hcs, _⟩ | ⟨a, len', cap', zs, hcs, _, hl, hm, hz, _, hcell, hws⟩
  · simp [Value.cells] at hcs
    obtain ⟨rfl, rfl, rfl⟩ := hcs
    exact ⟨none, 0, 0, [], rfl, Rd.nil _ _, rfl, Nat.le_refl _, by unfold maxLen; omega, by simp⟩
  · simp [Value.cells] at hcs
    obtain ⟨rfl, rfl, rfl⟩ := hcs
    have hle : len ≤ zs.length := by rw [hz]; split <;> omega
    refine ⟨some a, len, cap, zs.take len, rfl, ?_, by rw [List.length_take]; omega, hl, hm, fun s hs => hws s (List.mem_of_mem_take hs)⟩
    intro j x hx
    rw [List.getElem?_map, Option.map_eq_some_iff] at hx
    obtain ⟨s, hs, rfl⟩ := hx
    rw [List.getElem?_take] at hs
    split at hs
    · rename_i hj
      refine ⟨a, rfl, ?_⟩
      rw [hcell j (by omega), List.getD_eq_getElem?_getD, hs]; rfl
    · cases hs
theorem wf_i64 {z : Int} (h : (Lit.int .i64 z).wf = true) : -9223372036854775808 ≤ z ∧ z ≤ 9223372036854775807 := by
  simp [Lit.wf, IntKind.min, IntKind.max, IntKind.bits, IntKind.signed] at h; omega
end

theorem Try.ownKnob0 : ownKnob Try.prog.godebug = none := by kernel_rfl
theorem Try.laid0 : laidOutB Try.prog = true := by kernel_rfl
end Go.Proofs.Ytfgpadikmnhldaa

/-
  Arguments that are slices of structs of one-cell fields, opened. No condition of its own.
-/
namespace Go.Proofs.Ytfgpadikmnhldaa
open Go Go.RowKit Go.WideShapes Go.ChangeShapes Go.Deep

theorem flat_inv {α : Type} (cells : α → List Value) (k : Nat) (hk : ∀ x, (cells x).length = k) : ∀ (xs : List α) (j : Nat) (v : Value), (xs.flatMap cells)[j]? = some v → ∃ i x r, xs[i]? = some x ∧ j = i * k + r ∧ (cells x)[r]? = some v
  | [], j, v, h => by simp at h
  | x :: xs, j, v, h => by
    rw [List.flatMap_cons] at h
    by_cases hj : j < k
    · rw [List.getElem?_append_left (by rw [hk]; exact hj)] at h
      exact ⟨0, x, j, rfl, by omega, h⟩
    · rw [List.getElem?_append_right (by rw [hk]; omega), hk] at h
      obtain ⟨i, y, r, h1, h2, h3⟩ := flat_inv cells k hk xs (j - k) v h
      exact ⟨i + 1, y, r, by simpa using h1, by rw [Nat.add_mul]; omega, h3⟩

section
variable {H : Type} {enc : TypeId × Value → H} {P : Program} {w : World} {base : Nat} {spare : Nat → Bool} {held : Bool} {r : Reach}
theorem open_recs {α : Type} [Inhabited α] (cells : α → List Value) (ok : α → Prop) {t e : TypeId} {fs : Array Field} {v : Value} {d : DataW H} {p : List MemPlace} (ht : P.underlying t = some (.slice e)) (he : P.underlying e = some (.struct fs))
    (hone : oneCellFields P fs = true) (hC : P.cellsOf e = fs.size) (hlen : ∀ x, (cells x).length = fs.size)
    (dec : ∀ cs : Nat → Value, (∀ j f, fs[j]? = some f → ∃ m y, DataW.trod enc P w 0 spare held m f.type [cs j] = some y) → ∃ x, ok x ∧ ∀ j u, (cells x)[j]? = some u → cs j = u)
    (hv : Value.okWide P w r base t v) (h : DataW.Trod enc P w 0 spare held t v d p) :
    ∃ (A : Option Addr) (n c : Nat) (xs : List α), v = .slice A n c ∧ Rd w A (xs.flatMap cells) ∧ xs.length = n ∧ n ≤ c ∧ c ≤ maxLen ∧ ∀ x ∈ xs, ok x := by
  obtain ⟨a0, len0, cap0, rfl⟩ := okWide_slice ht hv
  obtain ⟨fuel, hf⟩ := h
  rcases open_slice ht hf with ⟨hcs, _⟩ | ⟨a, len, cap, m, n, D, Pl, hcs, _, hl, hm, hmm, _, hi⟩
  · simp [Value.cells] at hcs
    obtain ⟨rfl, rfl, rfl⟩ := hcs
    exact ⟨none, 0, 0, [], rfl, Rd.nil _ _, rfl, Nat.le_refl _, by unfold maxLen; omega, by simp⟩
  · simp [Value.cells] at hcs
    obtain ⟨rfl, rfl, rfl⟩ := hcs
    have hlm : len0 ≤ m := by rw [hmm]; split <;> omega
    have hx : ∀ i, i < len0 → ∃ x : α, ok x ∧ ∀ j u, (cells x)[j]? = some u → w.cell? (a.add (i * fs.size + j)) = some u := by
      intro i hil
      obtain ⟨cs', hc, ht'⟩ := hi i (by omega)
      rw [hC] at hc
      obtain ⟨_, hcl, hat⟩ := World.cells?_some hc
      obtain ⟨ys, n', _, _, _, _, hg⟩ := DataW.trod_struct he ht'
      obtain ⟨x, hok, hxc⟩ := dec (fun j => cs'.getD j default) (fun j f hj => by
        obtain ⟨ho, hk⟩ := hone_of hone j f hj
        have hjl : j < fs.size := (Array.getElem?_eq_some_iff.1 hj).1
        have h1 := hg j f hj
        rw [ho, hk] at h1
        have e1 : (cs'.drop j).take 1 = [cs'.getD j default] := by
          rw [List.drop_eq_getElem_cons (by omega), List.getD_eq_getElem?_getD, List.getElem?_eq_getElem (by omega)]
          rfl
        rw [e1] at h1
        obtain ⟨_, hys, _⟩ := DataW.trod_struct he ht'
        have hyl : ys[j]? = some (ys[j]'(by omega)) := List.getElem?_eq_getElem (by omega)
        exact ⟨n', _, h1.trans hyl⟩)
      refine ⟨x, hok, fun j u hu => ?_⟩
      have hjl : j < fs.size := by have := (List.getElem?_eq_some_iff.1 hu).1; rw [hlen] at this; exact this
      rw [← Go.Deep.add_add, hat j hjl, List.getElem?_eq_getElem (by omega)]
      have := hxc j u hu
      rw [List.getD_eq_getElem?_getD, List.getElem?_eq_getElem (by omega)] at this
      exact congrArg some this
    obtain ⟨f, hfx⟩ := choose_lt hx
    refine ⟨some a, len0, cap0, (List.range len0).map f, rfl, ?_, by simp, hl, hm, fun x hx => ?_⟩
    · intro j u hu
      obtain ⟨i, x, q, h1, h2, h3⟩ := flat_inv cells fs.size hlen _ j u hu
      rw [List.getElem?_map, Option.map_eq_some_iff] at h1
      obtain ⟨i', hi', rfl⟩ := h1
      have hil : i < len0 := by have := (List.getElem?_eq_some_iff.1 hi').1; simpa using this
      rw [List.getElem?_range hil] at hi'
      obtain rfl := Option.some.inj hi'
      exact ⟨a, rfl, by rw [h2]; exact (hfx i hil).2 q u h3⟩
    · rw [List.mem_map] at hx
      obtain ⟨i, hi', rfl⟩ := hx
      exact (hfx i (List.mem_range.1 hi')).1
end
end Go.Proofs.Ytfgpadikmnhldaa

/-
  Arguments of nested types, opened: what the cells of a type hold. No condition of its own.
-/
namespace Go.Proofs.Ytfgpadikmnhldaa
open Go Go.RowKit Go.WideShapes Go.ChangeShapes Go.Deep
section
variable {H : Type} {enc : TypeId × Value → H} {P : Program} {w : World} {spare : Nat → Bool} {held : Bool}
/-- The cells are those of a value of the type. -/
def Dec (enc : TypeId × Value → H) (P : Program) (w : World) (spare : Nat → Bool) (held : Bool) (t : TypeId) (cs : List Value) : Prop := ∃ m y, DataW.trod enc P w 0 spare held m t cs = some y
theorem Dec.int {t : TypeId} {k : IntKind} {cs : List Value} (ht : P.underlying t = some (.int k)) (h : Dec enc P w spare held t cs) : ∃ z : Int, cs = [.int k z] ∧ (Lit.int k z).wf = true := by
  obtain ⟨m, y, h⟩ := h
  obtain ⟨z, e, _, hz⟩ := DataW.trod_int ht h
  exact ⟨z, e, hz⟩
theorem Dec.string {t : TypeId} {cs : List Value} (ht : P.underlying t = some .string) (h : Dec enc P w spare held t cs) : ∃ s : ByteArray, cs = [.string s] ∧ s.size ≤ maxLen := by
  obtain ⟨m, y, h⟩ := h
  obtain ⟨s, e, _, hz⟩ := DataW.trod_string ht h
  exact ⟨s, e, hz⟩
theorem Dec.bool {t : TypeId} {cs : List Value} (ht : P.underlying t = some .bool) (h : Dec enc P w spare held t cs) : ∃ b : Bool, cs = [.bool b] := by
  obtain ⟨m, y, h⟩ := h
  obtain ⟨b, e, _⟩ := DataW.trod_bool ht h
  exact ⟨b, e⟩
theorem Dec.struct {t : TypeId} {fs : Array Field} {cs : List Value} (ht : P.underlying t = some (.struct fs)) (h : Dec enc P w spare held t cs) : cs.length = P.cellsOf t ∧ ∀ (j : Nat) (f : Field), fs[j]? = some f → Dec enc P w spare held f.type ((cs.drop f.offset).take (P.cellsOf f.type)) := by
  obtain ⟨m, y, h⟩ := h
  obtain ⟨ys, n', _, _, hl, hys, hg⟩ := DataW.trod_struct ht h
  refine ⟨hl, fun j f hj => ?_⟩
  have hjl : j < fs.size := (Array.getElem?_eq_some_iff.1 hj).1
  have hyl : ys[j]? = some (ys[j]'(by omega)) := List.getElem?_eq_getElem (by omega)
  exact ⟨n', _, (hg j f hj).trans hyl⟩
/-- The cell is a slice of records. -/
theorem Dec.slice {α : Type} [Inhabited α] (cells : α → List Value) (ok : α → Prop) (K : Nat) {t e : TypeId} {cs : List Value} (ht : P.underlying t = some (.slice e)) (hC : P.cellsOf e = K) (hlen : ∀ x, (cells x).length = K)
    (dec : ∀ cs, cs.length = K → Dec enc P w spare held e cs → ∃ x, ok x ∧ cells x = cs) (h : Dec enc P w spare held t cs) :
    ∃ (A : Option Addr) (n c : Nat) (xs : List α), cs = [.slice A n c] ∧ Rd w A (xs.flatMap cells) ∧ xs.length = n ∧ n ≤ c ∧ c ≤ maxLen ∧ ∀ x ∈ xs, ok x := by
  obtain ⟨fuel, y, hf⟩ := h
  rcases open_slice ht hf with ⟨hcs, _⟩ | ⟨a, len, cap, m, n, D, Pl, hcs, _, hl, hm, hmm, _, hi⟩
  · exact ⟨none, 0, 0, [], hcs, Rd.nil _ _, rfl, Nat.le_refl _, by unfold maxLen; omega, by simp⟩
  · have hlm : len ≤ m := by rw [hmm]; split <;> omega
    have hx : ∀ i, i < len → ∃ x : α, ok x ∧ ∀ j u, (cells x)[j]? = some u → w.cell? (a.add (i * K + j)) = some u := by
      intro i hil
      obtain ⟨cs', hc, ht'⟩ := hi i (by omega)
      rw [hC] at hc
      obtain ⟨_, hcl, hat⟩ := World.cells?_some hc
      obtain ⟨x, hok, hxc⟩ := dec cs' hcl ⟨n, _, ht'⟩
      refine ⟨x, hok, fun j u hu => ?_⟩
      have hjl : j < K := by have := (List.getElem?_eq_some_iff.1 hu).1; rw [hlen] at this; exact this
      rw [← Go.Deep.add_add, hat j hjl, ← hxc]
      exact hu
    obtain ⟨f, hfx⟩ := choose_lt hx
    refine ⟨some a, len, cap, (List.range len).map f, hcs, ?_, by simp, hl, hm, fun x hx => ?_⟩
    · intro j u hu
      obtain ⟨i, x, q, h1, h2, h3⟩ := flat_inv cells K hlen _ j u hu
      rw [List.getElem?_map, Option.map_eq_some_iff] at h1
      obtain ⟨i', hi', rfl⟩ := h1
      have hil : i < len := by have := (List.getElem?_eq_some_iff.1 hi').1; simpa using this
      rw [List.getElem?_range hil] at hi'
      obtain rfl := Option.some.inj hi'
      exact ⟨a, rfl, by rw [h2]; exact (hfx i hil).2 q u h3⟩
    · rw [List.mem_map] at hx
      obtain ⟨i, hi', rfl⟩ := hx
      exact (hfx i (List.mem_range.1 hi')).1
/-- An argument that is a slice of records. -/
theorem open_deep {α : Type} [Inhabited α] (cells : α → List Value) (ok : α → Prop) (K : Nat) {base : Nat} {r : Reach} {t e : TypeId} {v : Value} {d : DataW H} {p : List MemPlace} (ht : P.underlying t = some (.slice e)) (hC : P.cellsOf e = K) (hlen : ∀ x, (cells x).length = K)
    (dec : ∀ cs, cs.length = K → Dec enc P w spare held e cs → ∃ x, ok x ∧ cells x = cs) (hv : Value.okWide P w r base t v) (h : DataW.Trod enc P w 0 spare held t v d p) :
    ∃ (A : Option Addr) (n c : Nat) (xs : List α), v = .slice A n c ∧ Rd w A (xs.flatMap cells) ∧ xs.length = n ∧ n ≤ c ∧ c ≤ maxLen ∧ ∀ x ∈ xs, ok x := by
  obtain ⟨a0, len0, cap0, rfl⟩ := okWide_slice ht hv
  obtain ⟨fuel, hf⟩ := h
  obtain ⟨A, n, c, xs, h1, h2⟩ := Dec.slice cells ok K ht hC hlen dec ⟨fuel, _, hf⟩
  simp [Value.cells] at h1
  obtain ⟨rfl, rfl, rfl⟩ := h1
  exact ⟨_, _, _, xs, rfl, h2⟩
/-- The cell is a slice of numbers. -/
theorem Dec.nums {t e : TypeId} {k : IntKind} {cs : List Value} (ht : P.underlying t = some (.slice e)) (he : P.underlying e = some (.int k)) (hC : P.cellsOf e = 1) (h : Dec enc P w spare held t cs) :
    ∃ (A : Option Addr) (n c : Nat) (zs : List Int), cs = [.slice A n c] ∧ Rd w A (zs.map (Value.int k)) ∧ zs.length = n ∧ n ≤ c ∧ c ≤ maxLen ∧ ∀ z ∈ zs, (Lit.int k z).wf = true := by
  have := Dec.slice (fun z : Int => [Value.int k z]) (fun z => (Lit.int k z).wf = true) 1 ht hC (fun _ => rfl) (fun cs _ hd => by
    obtain ⟨z, e, hz⟩ := hd.int he
    exact ⟨z, hz, e.symm⟩) h
  obtain ⟨A, n, c, zs, h1, h2, h3⟩ := this
  have e : ∀ l : List Int, (l.flatMap fun z : Int => [Value.int k z]) = l.map (Value.int k) := fun l => by
    induction l with
    | nil => rfl
    | cons x l ih => rw [List.flatMap_cons, ih]; rfl
  exact ⟨A, n, c, zs, h1, by rw [← e]; exact h2, h3⟩
end
end Go.Proofs.Ytfgpadikmnhldaa

/-
  A disk in plain words: files, writes that are not safe, what each call makes of them. No condition of its own.
-/
namespace Go.Proofs.Ytfgpadikmnhldaa
open Go Go.RowKit

/-- A file. -/
structure Fl where
  id : Nat
  now : List ByteArray
  safe : List ByteArray
  known : Bool
/-- A write that is not safe. -/
structure Wr where
  id : Nat
  pos : Nat
  data : ByteArray
/-- A disk. -/
structure Ds where
  fs : List (ByteArray × Fl)
  ws : List Wr
  off : Bool
  room : Int
  armed : Bool
  left : Int
  keep : List Int
  next : Nat
def Ds.find (d : Ds) (s : ByteArray) : Option Fl := (d.fs.find? fun p => decide (p.1 = s)).map (·.2)
/-- A file turns. -/
def updF (fs : List (ByteArray × Fl)) (id : Nat) (f : Fl → Fl) : List (ByteArray × Fl) := fs.map fun p => if p.2.id = id then (p.1, f p.2) else p
/-- Sectors are sectors; no two files are called alike, or are one. -/
structure Ds.ok (d : Ds) : Prop where
  names : (d.fs.map (·.1)).Nodup
  ids : (d.fs.map (·.2.id)).Nodup
  few : d.fs.length ≤ 60
  short : ∀ p ∈ d.fs, 1 ≤ p.1.size ∧ p.1.size ≤ 40
  now : ∀ p ∈ d.fs, p.2.now.length ≤ 4001 ∧ ∀ s ∈ p.2.now, s.size = 256
  safe : ∀ p ∈ d.fs, p.2.safe.length ≤ 4001 ∧ ∀ s ∈ p.2.safe, s.size = 256
  ws : ∀ x ∈ d.ws, x.pos ≤ 4000 ∧ x.data.size = 256 ∧ x.id < d.next
  next : ∀ p ∈ d.fs, p.2.id < d.next
/-- Each write's file is there. -/
def Ds.live (d : Ds) : Prop := ∀ x ∈ d.ws, ∃ p ∈ d.fs, p.2.id = x.id
/-- Armed for a number. -/
def Ds.rd (d : Ds) : Prop := d.armed = true → 0 ≤ d.left ∧ d.left ≤ 9223372036854775807
def nameOk (s : ByteArray) : Bool := decide (1 ≤ s.size) && decide (s.size ≤ 40)
def usedD (d : Ds) : Nat := (d.fs.map fun p => p.2.now.length).sum
/-- Something would be done: does the power go now? -/
def goesD (d : Ds) : Bool × Ds := if d.armed then (decide (d.left - 1 < 0), { d with left := d.left - 1 }) else (false, d)
/-- The writes of a file from a sector on are forgotten. -/
def forgetD (d : Ds) (id : Nat) (pos : Int) : Ds := { d with ws := d.ws.filter fun x => !(decide (x.id = id) && decide (pos ≤ (x.pos : Int))) }
/-- How many bytes of the i-th write are kept. -/
def keptD (keep : List Int) (i : Nat) : Nat := match keep[i]? with
  | some k => (min (max k 0) 256).toNat
  | none => 0
def zeros256 : ByteArray := ⟨(List.replicate 256 (0 : UInt8)).toArray⟩
/-- What is safe gets so many sectors at least. -/
def padTo (l : List ByteArray) (n : Nat) : List ByteArray := l ++ List.replicate (n - l.length) zeros256
/-- A write is done upon what is safe: its first k bytes. -/
def redoL (l : List ByteArray) (pos : Nat) (data : ByteArray) (k : Nat) : List ByteArray :=
  (padTo l (pos + 1)).set pos (data.extract 0 k ++ ((padTo l (pos + 1)).getD pos ByteArray.empty).extract k 256)
def redoF (x : Wr) (k : Nat) (f : Fl) : Fl := { f with safe := redoL f.safe x.pos x.data k, known := true }
def redo1 (fs : List (ByteArray × Fl)) (x : Wr) (k : Nat) : List (ByteArray × Fl) := if 0 < k then updF fs x.id (redoF x k) else fs
/-- The first n writes are done, as far as they are kept. -/
def redoN (keep : List Int) (fs : List (ByteArray × Fl)) (ws : List Wr) : Nat → List (ByteArray × Fl)
  | 0 => fs
  | n + 1 => match ws[n]? with
    | some x => redo1 (redoN keep fs ws n) x (keptD keep n)
    | none => redoN keep fs ws n
/-- How many of the first n are not kept whole. -/
def lostN (keep : List Int) (n : Nat) : Nat := (List.range n).countP fun i => decide (keptD keep i < 256)
/-- What a crash leaves of the files. -/
def leftF (fs : List (ByteArray × Fl)) : List (ByteArray × Fl) := (fs.filter fun p => p.2.known).map fun p => (p.1, { p.2 with now := p.2.safe })
def crashD (d : Ds) (keep : List Int) : Nat × Ds :=
  if d.off then (0, d) else (lostN keep d.ws.length, { d with fs := leftF (redoN keep d.fs d.ws d.ws.length), ws := [], off := true, armed := false, keep := [] })
/-- The power goes as it was armed for. -/
def fallD (d : Ds) : Int × Ds := (14, (crashD d d.keep).2)
/-- A disk that is asked by a name: the reason why not. -/
def mayD (d : Ds) (s : ByteArray) : Int := if d.off then 14 else if nameOk s then 0 else 1
/-- The same, and the file. -/
def fileD (d : Ds) (s : ByteArray) : Int × Option Fl := if mayD d s ≠ 0 then (mayD d s, none) else match d.find s with
  | none => (8, none)
  | some f => (0, some f)
def sizeOf_ (d : Ds) (s : ByteArray) : Nat := match d.find s with
  | none => 0
  | some f => f.now.length
def fitsD (d : Ds) (s : ByteArray) (pos : Int) : Bool :=
  !((d.find s).isNone && decide (60 ≤ d.fs.length)) && (!((d.find s).isNone || decide (pos = (sizeOf_ d s : Int))) || decide (d.room ≤ 0) || decide ((usedD d : Int) < d.room))
def putSec (l : List ByteArray) (pos : Nat) (x : ByteArray) : List ByteArray := if pos = l.length then l ++ [x] else l.set pos x
def putF (pos : Nat) (x : ByteArray) (f : Fl) : Fl := { f with now := putSec f.now pos x }
/-- The file is there. -/
def withF (d : Ds) (s : ByteArray) : Ds × Nat := match d.find s with
  | some f => (d, f.id)
  | none => ({ d with fs := d.fs ++ [(s, ⟨d.next, [], [], false⟩)], next := d.next + 1 }, d.next)
def writeD (d : Ds) (s : ByteArray) (pos : Int) (x : ByteArray) : Int × Ds :=
  if mayD d s ≠ 0 then (mayD d s, d) else if x.size ≠ 256 then (1, d) else if pos < 0 ∨ (sizeOf_ d s : Int) < pos ∨ 4000 < pos then (15, d) else if fitsD d s pos = false then (20, d) else
    let q := withF (goesD d).2 s
    let d2 : Ds := { q.1 with fs := updF q.1.fs q.2 (putF pos.toNat x), ws := q.1.ws ++ [⟨q.2, pos.toNat, x⟩] }
    if (goesD d).1 then fallD d2 else (0, d2)
def readD (d : Ds) (s : ByteArray) (pos : Int) : ByteArray × Int := match (fileD d s).2 with
  | some f => if pos < 0 ∨ (f.now.length : Int) ≤ pos then (ByteArray.empty, 15) else (f.now.getD pos.toNat ByteArray.empty, 0)
  | none => (ByteArray.empty, (fileD d s).1)
def sizeD (d : Ds) (s : ByteArray) : Int × Int := match (fileD d s).2 with
  | some f => (f.now.length, 0)
  | none => (0, (fileD d s).1)
def syncF (f : Fl) : Fl := { f with safe := f.now, known := true }
def syncD (d : Ds) (s : ByteArray) : Int × Ds := match (fileD d s).2 with
  | some f => if (goesD d).1 then fallD (goesD d).2 else (0, forgetD { (goesD d).2 with fs := updF (goesD d).2.fs f.id syncF } f.id 0)
  | none => ((fileD d s).1, d)
def shutF (n : Nat) (f : Fl) : Fl := { f with now := f.now.take n, safe := f.safe.take n }
def cutD (d : Ds) (s : ByteArray) (n : Int) : Int × Ds := match (fileD d s).2 with
  | some f => if n < 0 ∨ (f.now.length : Int) < n then (15, d) else if (goesD d).1 then fallD (goesD d).2 else (0, forgetD { (goesD d).2 with fs := updF (goesD d).2.fs f.id (shutF n.toNat) } f.id n)
  | none => ((fileD d s).1, d)
/-- A file goes, and its writes. -/
def dropD (d : Ds) (f : Fl) : Ds := { forgetD d f.id 0 with fs := d.fs.filter fun p => !decide (p.2.id = f.id) }
def removeD (d : Ds) (s : ByteArray) : Int × Ds := match (fileD d s).2 with
  | some f => if (goesD d).1 then fallD (goesD d).2 else (0, dropD (goesD d).2 f)
  | none => ((fileD d s).1, d)
def nameF (fs : List (ByteArray × Fl)) (id : Nat) (s : ByteArray) : List (ByteArray × Fl) := fs.map fun p => if p.2.id = id then (s, p.2) else p
def renameD (d : Ds) (a b : ByteArray) : Int × Ds :=
  if d.off then (14, d) else if nameOk a = false ∨ nameOk b = false then (1, d) else match d.find a with
    | none => (8, d)
    | some f => if (goesD d).1 then fallD (goesD d).2 else if a = b then (0, (goesD d).2) else
      let d1 := match d.find b with
        | some o => dropD (goesD d).2 o
        | none => (goesD d).2
      (0, { d1 with fs := nameF d1.fs f.id b })
def restoreD (d : Ds) : Ds := { d with off := false }
def armD (d : Ds) (n : Int) (keep : List Int) : Ds := { d with armed := decide (0 ≤ n), left := n, keep := keep }
def newD (room : Int) : Ds := ⟨[], [], false, room, false, 0, [], 0⟩
theorem newD_ok (room : Int) : (newD room).ok := ⟨by simp [newD], by simp [newD], by simp [newD], by simp [newD], by simp [newD], by simp [newD], by simp [newD], by simp [newD]⟩
theorem newD_live (room : Int) : (newD room).live := fun x hx => by simp [newD] at hx
theorem newD_rd (room : Int) : (newD room).rd := fun h => by simp [newD] at h
end Go.Proofs.Ytfgpadikmnhldaa

/-
  A disk in plain words: what each call leaves is a disk. No condition of its own.
-/
namespace Go.Proofs.Ytfgpadikmnhldaa
open Go Go.RowKit

theorem nodup_get {α β : Type} {l : List α} {g : α → β} (h : (l.map g).Nodup) {x y : α} (hx : x ∈ l) (hy : y ∈ l) (e : g x = g y) : x = y := by
  induction l with
  | nil => simp at hx
  | cons z l ih =>
    rw [List.map_cons, List.nodup_cons] at h
    rcases List.mem_cons.1 hx with hx1 | hx1
    · rcases List.mem_cons.1 hy with hy1 | hy1
      · rw [hx1, hy1]
      · exact absurd (List.mem_map.2 ⟨y, hy1, by rw [← e, hx1]⟩) h.1
    · rcases List.mem_cons.1 hy with hy1 | hy1
      · exact absurd (List.mem_map.2 ⟨x, hx1, by rw [e, hy1]⟩) h.1
      · exact ih h.2 hx1 hy1
section
variable {d : Ds} {s : ByteArray} {f : Fl}
theorem Ds.find_mem (h : d.find s = some f) : (s, f) ∈ d.fs := by
  unfold Ds.find at h
  rw [Option.map_eq_some_iff] at h
  obtain ⟨p, hp, rfl⟩ := h
  have h1 := List.find?_some hp
  have h2 := List.mem_of_find?_eq_some hp
  have h3 : p.1 = s := by simpa using h1
  rw [← h3]; exact h2
theorem Ds.find_of (ok : d.ok) (h : (s, f) ∈ d.fs) : d.find s = some f := by
  unfold Ds.find
  cases hf : d.fs.find? fun p => decide (p.1 = s) with
  | none =>
    have := List.find?_eq_none.1 hf (s, f) h
    simp at this
  | some p =>
    have h1 := List.find?_some hf
    have h2 := List.mem_of_find?_eq_some hf
    have h3 : p.1 = s := by simpa using h1
    have h4 : p = (s, f) := nodup_get ok.names h2 h h3
    rw [h4]; rfl
theorem Ds.find_none (h : d.find s = none) : ∀ p ∈ d.fs, p.1 ≠ s := by
  unfold Ds.find at h
  rw [Option.map_eq_none_iff] at h
  intro p hp e
  have := List.find?_eq_none.1 h p hp
  simp [e] at this
end
theorem updF_names (fs : List (ByteArray × Fl)) (id : Nat) (g : Fl → Fl) : (updF fs id g).map (·.1) = fs.map (·.1) := by
  unfold updF; rw [List.map_map]
  refine List.map_congr_left fun p _ => ?_
  simp only [Function.comp_apply]; split <;> rfl
theorem updF_ids (fs : List (ByteArray × Fl)) (id : Nat) (g : Fl → Fl) (hg : ∀ f, (g f).id = f.id) : (updF fs id g).map (·.2.id) = fs.map (·.2.id) := by
  unfold updF; rw [List.map_map]
  refine List.map_congr_left fun p _ => ?_
  simp only [Function.comp_apply]; split
  · exact hg _
  · rfl
theorem updF_len (fs : List (ByteArray × Fl)) (id : Nat) (g : Fl → Fl) : (updF fs id g).length = fs.length := by unfold updF; simp
theorem updF_mem {fs : List (ByteArray × Fl)} {id : Nat} {g : Fl → Fl} {p : ByteArray × Fl} (h : p ∈ updF fs id g) : ∃ q ∈ fs, (q.2.id = id ∧ p = (q.1, g q.2)) ∨ (q.2.id ≠ id ∧ p = q) := by
  unfold updF at h
  obtain ⟨q, hq, rfl⟩ := List.mem_map.1 h
  refine ⟨q, hq, ?_⟩
  by_cases e : q.2.id = id
  · rw [if_pos e]; exact .inl ⟨e, rfl⟩
  · rw [if_neg e]; exact .inr ⟨e, rfl⟩
theorem updF_in {fs : List (ByteArray × Fl)} {id : Nat} {g : Fl → Fl} {p : ByteArray × Fl} (h : p ∈ fs) : (if p.2.id = id then (p.1, g p.2) else p) ∈ updF fs id g := List.mem_map.2 ⟨p, h, rfl⟩
theorem Ds.ok.upd {d : Ds} (h : d.ok) (id : Nat) (g : Fl → Fl) (hg : ∀ f, (g f).id = f.id) (hnow : ∀ p ∈ d.fs, p.2.id = id → (g p.2).now.length ≤ 4001 ∧ ∀ s ∈ (g p.2).now, s.size = 256)
    (hsafe : ∀ p ∈ d.fs, p.2.id = id → (g p.2).safe.length ≤ 4001 ∧ ∀ s ∈ (g p.2).safe, s.size = 256) : ({ d with fs := updF d.fs id g } : Ds).ok := by
  refine ⟨by show ((updF d.fs id g).map (·.1)).Nodup; rw [updF_names]; exact h.names, by show ((updF d.fs id g).map (·.2.id)).Nodup; rw [updF_ids _ _ _ hg]; exact h.ids, by show (updF d.fs id g).length ≤ 60; rw [updF_len]; exact h.few, fun p hp => ?_, fun p hp => ?_, fun p hp => ?_, fun x hx => ?_, fun p hp => ?_⟩
  · obtain ⟨q, hq, ⟨_, rfl⟩ | ⟨_, rfl⟩⟩ := updF_mem hp
    · exact h.short q hq
    · exact h.short _ hq
  · obtain ⟨q, hq, ⟨e, rfl⟩ | ⟨_, rfl⟩⟩ := updF_mem hp
    · exact hnow q hq e
    · exact h.now _ hq
  · obtain ⟨q, hq, ⟨e, rfl⟩ | ⟨_, rfl⟩⟩ := updF_mem hp
    · exact hsafe q hq e
    · exact h.safe _ hq
  · exact h.ws x hx
  · obtain ⟨q, hq, ⟨e, rfl⟩ | ⟨_, rfl⟩⟩ := updF_mem hp
    · show (g q.2).id < d.next; rw [hg]; exact h.next q hq
    · exact h.next _ hq
theorem Ds.ok.goes {d : Ds} (h : d.ok) : (goesD d).2.ok := by
  unfold goesD; split
  · exact ⟨h.names, h.ids, h.few, h.short, h.now, h.safe, h.ws, h.next⟩
  · exact h
theorem goes_rd {d : Ds} (h : d.rd) (hg : (goesD d).1 = false) : (goesD d).2.rd := by
  unfold goesD at hg ⊢
  by_cases ha : d.armed = true
  · rw [if_pos ha] at hg ⊢
    intro _
    have := h ha
    simp only [decide_eq_false_iff_not] at hg
    show 0 ≤ d.left - 1 ∧ d.left - 1 ≤ 9223372036854775807
    omega
  · rw [if_neg ha]; exact h
theorem Ds.ok.forget {d : Ds} (h : d.ok) (id : Nat) (pos : Int) : (forgetD d id pos).ok :=
  ⟨h.names, h.ids, h.few, h.short, h.now, h.safe, fun x hx => h.ws x (List.mem_filter.1 hx).1, h.next⟩
theorem Ds.ok.drop {d : Ds} (h : d.ok) (f : Fl) : (dropD d f).ok := by
  have hs : (d.fs.filter fun p => !decide (p.2.id = f.id)).Sublist d.fs := List.filter_sublist
  refine ⟨(hs.map _).nodup h.names, (hs.map _).nodup h.ids, Nat.le_trans hs.length_le h.few, fun p hp => h.short p (hs.subset hp), fun p hp => h.now p (hs.subset hp), fun p hp => h.safe p (hs.subset hp), fun x hx => ?_, fun p hp => h.next p (hs.subset hp)⟩
  exact h.ws x (List.mem_filter.1 hx).1
theorem live_upd {d : Ds} (h : d.live) (id : Nat) (g : Fl → Fl) (hg : ∀ f, (g f).id = f.id) : ({ d with fs := updF d.fs id g } : Ds).live := fun x hx => by
  obtain ⟨p, hp, he⟩ := h x hx
  refine ⟨_, updF_in (id := id) (g := g) hp, ?_⟩
  split
  · show (g p.2).id = x.id; rw [hg]; exact he
  · exact he
theorem live_goes {d : Ds} (h : d.live) : (goesD d).2.live := by unfold goesD; split <;> exact h
theorem live_forget {d : Ds} (h : d.live) (id : Nat) (pos : Int) : (forgetD d id pos).live := fun x hx => h x (List.mem_filter.1 hx).1
theorem live_drop {d : Ds} (h : d.live) (f : Fl) : (dropD d f).live := fun x hx => by
  obtain ⟨hx1, hx2⟩ := List.mem_filter.1 hx
  obtain ⟨p, hp, he⟩ := h x hx1
  refine ⟨p, List.mem_filter.2 ⟨hp, ?_⟩, he⟩
  simp at hx2 ⊢
  intro e
  have := hx2 (by rw [← he, e])
  omega
theorem padTo_len (l : List ByteArray) (n : Nat) : (padTo l n).length = max l.length n := by unfold padTo; rw [List.length_append, List.length_replicate]; omega
theorem zeros_size : zeros256.size = 256 := by show (List.replicate 256 (0 : UInt8)).toArray.size = 256; rw [List.size_toArray, List.length_replicate]
theorem padTo_size {l : List ByteArray} {n : Nat} (h : ∀ s ∈ l, s.size = 256) : ∀ s ∈ padTo l n, s.size = 256 := fun s hs => by
  unfold padTo at hs
  rcases List.mem_append.1 hs with hs | hs
  · exact h s hs
  · rw [(List.mem_replicate.1 hs).2]; exact zeros_size
theorem extract_size (b : ByteArray) (i j : Nat) : (b.extract i j).size = min j b.size - i := by simp [ByteArray.size_extract]
theorem redoL_ok {l : List ByteArray} {pos k : Nat} {data : ByteArray} (h1 : l.length ≤ 4001) (h2 : ∀ s ∈ l, s.size = 256) (hp : pos ≤ 4000) (hd : data.size = 256) (hk : k ≤ 256) :
    (redoL l pos data k).length ≤ 4001 ∧ ∀ s ∈ redoL l pos data k, s.size = 256 := by
  have hlen := padTo_len l (pos + 1)
  refine ⟨by unfold redoL; rw [List.length_set, hlen]; omega, fun s hs => ?_⟩
  unfold redoL at hs
  rcases List.mem_or_eq_of_mem_set hs with hs | rfl
  · exact padTo_size h2 s hs
  · have hp' : pos < (padTo l (pos + 1)).length := by omega
    have hz : ((padTo l (pos + 1)).getD pos ByteArray.empty).size = 256 := by
      rw [List.getD_eq_getElem?_getD, List.getElem?_eq_getElem hp']
      exact padTo_size h2 _ (List.getElem_mem hp')
    rw [ByteArray.size_append, extract_size, extract_size, hz, hd]
    omega
theorem keptD_le (keep : List Int) (i : Nat) : keptD keep i ≤ 256 := by
  unfold keptD; split
  · omega
  · omega
/-- The files of a disk, whatever else. -/
def Ds.withFs (d : Ds) (fs : List (ByteArray × Fl)) : Ds := { d with fs := fs }
theorem redo1_ok {d : Ds} (h : d.ok) {x : Wr} (hx : x.pos ≤ 4000 ∧ x.data.size = 256) {k : Nat} (hk : k ≤ 256) : (d.withFs (redo1 d.fs x k)).ok := by
  unfold redo1 Ds.withFs
  split
  · refine h.upd x.id (redoF x k) (fun _ => rfl) (fun p hp _ => h.now p hp) (fun p hp _ => ?_)
    obtain ⟨h1, h2⟩ := h.safe p hp
    exact redoL_ok h1 h2 hx.1 hx.2 hk
  · exact h
theorem redoN_ok {d : Ds} (h : d.ok) (keep : List Int) (n : Nat) : (d.withFs (redoN keep d.fs d.ws n)).ok := by
  induction n with
  | zero => exact h
  | succ n ih =>
    unfold redoN
    cases hx : d.ws[n]? with
    | none => exact ih
    | some x =>
      have hw := h.ws x (List.mem_of_getElem? hx)
      exact redo1_ok ih ⟨hw.1, hw.2.1⟩ (keptD_le _ _)
theorem leftF_ok {d : Ds} (h : d.ok) (b : Bool) : ({ d with fs := leftF d.fs, ws := [], off := true, armed := b, keep := [] } : Ds).ok := by
  have hs : (d.fs.filter fun p => p.2.known).Sublist d.fs := List.filter_sublist
  have hm : ∀ p ∈ leftF d.fs, ∃ q ∈ d.fs, p = (q.1, { q.2 with now := q.2.safe }) := fun p hp => by
    obtain ⟨q, hq, rfl⟩ := List.mem_map.1 hp
    exact ⟨q, hs.subset hq, rfl⟩
  refine ⟨?_, ?_, ?_, fun p hp => ?_, fun p hp => ?_, fun p hp => ?_, fun x hx => by simp at hx, fun p hp => ?_⟩
  · show ((leftF d.fs).map (·.1)).Nodup
    unfold leftF; rw [List.map_map]
    exact (hs.map _).nodup h.names
  · show ((leftF d.fs).map (·.2.id)).Nodup
    unfold leftF; rw [List.map_map]
    exact (hs.map _).nodup h.ids
  · show (leftF d.fs).length ≤ 60
    unfold leftF; rw [List.length_map]
    exact Nat.le_trans hs.length_le h.few
  · obtain ⟨q, hq, rfl⟩ := hm p hp; exact h.short q hq
  · obtain ⟨q, hq, rfl⟩ := hm p hp; exact h.safe q hq
  · obtain ⟨q, hq, rfl⟩ := hm p hp; exact h.safe q hq
  · obtain ⟨q, hq, rfl⟩ := hm p hp; exact h.next q hq
theorem Ds.ok.crash {d : Ds} (h : d.ok) (keep : List Int) : (crashD d keep).2.ok := by
  unfold crashD
  split
  · exact h
  · exact leftF_ok (redoN_ok h keep d.ws.length) false
theorem crash_rd {d : Ds} (h : d.off = true → d.rd) (keep : List Int) : (crashD d keep).2.rd := by
  unfold crashD
  split
  · rename_i ho; exact h ho
  · intro h; cases h
theorem crash_live {d : Ds} (h : d.live) (keep : List Int) : (crashD d keep).2.live := by
  unfold crashD
  split
  · exact h
  · intro x hx; simp at hx
/-- A disk as it should be. -/
structure Ds.good (d : Ds) : Prop where
  ok : d.ok
  live : d.live
  rd : d.rd
theorem newD_good (room : Int) : (newD room).good := ⟨newD_ok _, newD_live _, newD_rd _⟩
end Go.Proofs.Ytfgpadikmnhldaa

/-
  'append' in a region that draws its order: the step's form. Conditions: those of the append's law.
-/
namespace Go.Proofs.Ytfgpadikmnhldaa
open Go Go.RowKit

/-- 'out = append(out, src...)' in a region that draws: the step's form of wpList_app. -/
theorem step_app {P : Program} {w : World} {ops : Array Oper} {o : Oper} {a : Act} {K : Act → World → Prop} {Q : Exit → Act → World → Prop} {E : Prop} (hgd : o.guard = none) (s x : Operand) (t : TypeId)
    (ho : o.op = .call { callee := .builtin .append, args := #[s, x], argTypes := #[t, t] })
    (base : Nat) (e : TypeId) (i : TypeInfo) (z : Value) (size bytes : Nat) (ht : P.underlying t = some (.slice e)) (hi : P.info? e = some i) (hz : i.zero = some z)
    (hsize : i.size = size) (hby : i.bytes = bytes) (hzs : z.cells.size = size) (hsz : 0 < size)
    (v : Value) (n : Nat) (xs : List Value) (hs : a.eval s = v) (hown : w.ownsRow base e size v n xs)
    (A : Option Addr) (m c : Nat) (news : List Value) (hx : a.eval x = .slice A m c) (hr : Rd w A news) (hl : news.length = m * size) (h1 : ∀ u ∈ news, u.oneCell' = true)
    (h63 : n + m ≤ maxLen) (hbytes : (n + m) * bytes ≤ 140737488355328) (hbase : base ≤ w.heap.size)
    (h : ∀ v' w', w'.ownsRow base e size v' (n + m) (xs ++ news) → w.grownBy w' v.ownBlock → Below base w w' → (v'.ownBlock = v.ownBlock ∨ v'.ownBlock = some w.heap.size) → K (a.put o.dst v') w') :
    if Region.wanted o (yielded ops a.tmps) = true then Oper.wp P o a w K Q else E := by
  have hw : Region.wanted o (yielded ops a.tmps) = true := by simp [Region.wanted, hgd]
  rw [if_pos hw]
  have := wpList_app (P := P) (w := w) (ops := ops) (rest := []) (o := o) (a := a) (Q := fun _ _ _ => True) hgd s x t ho base e i z size bytes ht hi hz hsize hby hzs hsz v n xs hs hown A m c news hx hr hl h1 h63 hbytes hbase (fun _ _ _ _ _ _ => trivial)
  have hbel : ∀ w', w.grownBy w' v.ownBlock → Below base w w' := fun w' hg => (Below.refl base w).grown hg hbase fun k hk => (hown.lt k hk).1
  clear this
  cases A with
  | none =>
    have hn : news = [] := by
      cases news with
      | nil => rfl
      | cons b l =>
        obtain ⟨ad, e, _⟩ := hr 0 b (by simp)
        cases e
    subst hn
    have hm : m = 0 := by
      have : m * size = 0 := by simpa using hl.symm
      rcases Nat.mul_eq_zero.1 this with h0 | h0
      · exact h0
      · omega
    subst hm
    have hrun : (Builtin.append_ #[t, t] o.type #[v, .slice none 0 c]).run P w = .ok v w := by
      rcases hown.2 with ⟨rfl, rfl⟩ | ⟨g, cap, cur, rfl, _, _, hnc, _⟩
      · simp [Builtin.append_, run_underlying ht, sizeOf, typeInfo, hi, Builtin.lenOf, Builtin.firstCells]
      · simp [Builtin.append_, run_underlying ht, sizeOf, typeInfo, hi, Builtin.lenOf, Builtin.firstCells, hnc, storeCells]
    unfold Oper.wp execOp
    simp only [ho, resolve, invoke, builtin, Sem.run_bind, Sem.run_pure, Result.andThen_ok, List.map_toArray, List.map_cons, List.map_nil, hs, hx, hrun]
    exact h v w (by simpa using hown) (World.grownBy.refl _ _) (Below.refl _ _) (.inl rfl)
  | some ad =>
    obtain ⟨v', w', hr', h2, h3, _, h5⟩ := run_append_own_at (P := P) w base t o.type e i z size bytes ht hi hz hsize hby hzs hsz v n xs hown ad m c news hl (fun j u hu => by
      obtain ⟨ad', e, hc⟩ := hr j u hu
      injection e with e
      subst e; exact hc) h1 h63 hbytes hbase
    unfold Oper.wp execOp
    simp only [ho, resolve, invoke, builtin, Sem.run_bind, Sem.run_pure, Result.andThen_ok, List.map_toArray, List.map_cons, List.map_nil, hs, hx, hr']
    exact h v' w' h2 h3 (hbel w' h3) h5

theorem strCells_u8s (s : ByteArray) : Lib.strCells s = u8s (bts s) := by simp [Lib.strCells, u8s, bts]
/-- 'append' in a region that draws its order, guarded or not: the step's form. -/
theorem step_app_g {P : Program} {w : World} {ops : Array Oper} {o : Oper} {a : Act} {K : Act → World → Prop} {Q : Exit → Act → World → Prop} {E : Prop} (hw : Region.wanted o (yielded ops a.tmps) = true) (s x : Operand) (t : TypeId)
    (ho : o.op = .call { callee := .builtin .append, args := #[s, x], argTypes := #[t, t] })
    (base : Nat) (e : TypeId) (i : TypeInfo) (z : Value) (size bytes : Nat) (ht : P.underlying t = some (.slice e)) (hi : P.info? e = some i) (hz : i.zero = some z)
    (hsize : i.size = size) (hby : i.bytes = bytes) (hzs : z.cells.size = size) (hsz : 0 < size)
    (v : Value) (n : Nat) (xs : List Value) (hs : a.eval s = v) (hown : w.ownsRow base e size v n xs)
    (A : Option Addr) (m c : Nat) (news : List Value) (hx : a.eval x = .slice A m c) (hr : Rd w A news) (hl : news.length = m * size) (h1 : ∀ u ∈ news, u.oneCell' = true)
    (h63 : n + m ≤ maxLen) (hbytes : (n + m) * bytes ≤ 140737488355328) (hbase : base ≤ w.heap.size)
    (h : ∀ v' w', w'.ownsRow base e size v' (n + m) (xs ++ news) → w.grownBy w' v.ownBlock → Below base w w' → (v'.ownBlock = v.ownBlock ∨ v'.ownBlock = some w.heap.size) → K (a.put o.dst v') w') :
    if Region.wanted o (yielded ops a.tmps) = true then Oper.wp P o a w K Q else E := by
  have hs := step_app (P := P) (w := w) (ops := ops) (o := { o with guard := none }) (a := a) (K := K) (Q := Q) (E := E) rfl s x t ho base e i z size bytes ht hi hz hsize hby hzs hsz v n xs hs hown A m c news hx hr hl h1 h63 hbytes hbase h
  rw [if_pos (by simp [Region.wanted])] at hs
  rw [if_pos hw]
  exact hs
end Go.Proofs.Ytfgpadikmnhldaa

/-
  'append' onto a row of the call's own leaves what lay in it; rows in blocks of their own. Conditions: those of the append's law.
-/
namespace Go.Proofs.Ytfgpadikmnhldaa
open Go Go.RowKit

theorem append_keeps {P : Program} (w : World) (base : Nat) (t ty e : TypeId) (i : TypeInfo) (z : Value) (size bytes : Nat) (ht : P.underlying t = some (.slice e)) (hi : P.info? e = some i) (hz : i.zero = some z)
    (hsize : i.size = size) (hby : i.bytes = bytes)
    (v : Value) (n : Nat) (xs : List Value) (hown : w.ownsRow base e size v n xs)
    (a : Addr) (m c : Nat) (news : List Value) (hl : news.length = m * size) (hnews : ∀ j u, news[j]? = some u → w.cell? (a.add j) = some u) (h1 : ∀ u ∈ news, u.oneCell' = true)
    (h63 : n + m ≤ maxLen) (hbytes : (n + m) * bytes ≤ 140737488355328) {v' : Value} {w' : World} (hr : (Builtin.append_ #[t, t] ty #[v, .slice (some a) m c]).run P w = .ok v' w') :
    w'.ownsRow base e size v n xs := by
  subst hsize
  subst hby
  have hsmall : n + m ≤ 9223372036854775807 := by simp only [maxLen] at h63; omega
  rcases hown.2 with ⟨rfl, rfl⟩ | ⟨g, cap, cur, rfl, hbg, hg, hnc, hcm, hcs, htake⟩
  · exact ⟨hown.1, .inl ⟨rfl, rfl⟩⟩
  · by_cases hroom : n + m ≤ cap
    · have hfit : n * i.size + news.length ≤ cur.size := by rw [hl, hcs, ← Nat.add_mul]; exact Nat.mul_le_mul_right _ hroom
      have hr2 := run_append_room (P := P) w t ty e i ht hi g n cap cur hg a m c news hl hnews h1 hroom hfit
      rw [hr2] at hr
      injection hr with _ hw
      subst hw
      refine ⟨hown.1, .inr ⟨g, cap, _, rfl, hbg, setRow_heap w g cur _ e _ hg, hnc, hcm, ?_, ?_⟩⟩
      · simp only [List.size_toArray, List.length_append, List.length_take, List.length_drop, Array.length_toList]
        omega
      · rw [htake, ← hown.1, List.append_assoc]
        exact List.take_left
    · have holds : ∀ j u, xs[j]? = some u → w.cell? ((⟨g, 0, none⟩ : Addr).add j) = some u := hown.cells (g := g) rfl
      have hr2 := run_append_grow (P := P) w t ty e i z ht hi hz ⟨g, 0, none⟩ n cap xs hown.1 holds a m c news hl hnews (by omega) (by omega) (growslice_fits (by omega) hbytes)
      rw [hr2] at hr
      injection hr with _ hw
      subst hw
      exact World.ownsRow.alloc (show w.drew.ownsRow base e i.size _ n xs from hown) _
section
variable {P : Program}
/-- As wpList_app; and what lay in the old row still lies there. -/
theorem wpList_app2 {w : World} {ops : Array Oper} {rest : List Oper} {o : Oper} {a : Act} {Q : Exit → Act → World → Prop} (hgd : o.guard = none) (s x : Operand) (t : TypeId)
    (ho : o.op = .call { callee := .builtin .append, args := #[s, x], argTypes := #[t, t] })
    (base : Nat) (e : TypeId) (i : TypeInfo) (z : Value) (size bytes : Nat) (ht : P.underlying t = some (.slice e)) (hi : P.info? e = some i) (hz : i.zero = some z)
    (hsize : i.size = size) (hby : i.bytes = bytes) (hzs : z.cells.size = size) (hsz : 0 < size)
    (v : Value) (n : Nat) (xs : List Value) (hs : a.eval s = v) (hown : w.ownsRow base e size v n xs)
    (ad : Addr) (m c : Nat) (news : List Value) (hx : a.eval x = .slice (some ad) m c) (hr : Rd w (some ad) news) (hl : news.length = m * size) (h1 : ∀ u ∈ news, u.oneCell' = true)
    (h63 : n + m ≤ maxLen) (hbytes : (n + m) * bytes ≤ 140737488355328) (hbase : base ≤ w.heap.size)
    (h : ∀ v' w', w'.ownsRow base e size v' (n + m) (xs ++ news) → w.grownBy w' v.ownBlock → Below base w w' → (v'.ownBlock = v.ownBlock ∨ v'.ownBlock = some w.heap.size) → w'.ownsRow base e size v n xs → wpList P ops Q rest (a.put o.dst v') w') : wpList P ops Q (o :: rest) a w := by
  have hnews : ∀ j u, news[j]? = some u → w.cell? (ad.add j) = some u := fun j u hu => by
    obtain ⟨ad', e, hc⟩ := hr j u hu
    injection e with e
    subst e; exact hc
  refine wpList_plain hgd fun K hK => ?_
  obtain ⟨v', w', hr', h2, h3, _, h5⟩ := run_append_own_at (P := P) w base t o.type e i z size bytes ht hi hz hsize hby hzs hsz v n xs hown ad m c news hl hnews h1 h63 hbytes hbase
  have hk := append_keeps (P := P) w base t o.type e i z size bytes ht hi hz hsize hby v n xs hown ad m c news hl hnews h1 h63 hbytes hr'
  unfold Oper.wp execOp
  simp only [ho, resolve, invoke, builtin, Sem.run_bind, Sem.run_pure, Result.andThen_ok, List.map_toArray, List.map_cons, List.map_nil, hs, hx, hr']
  exact hK _ _ (h v' w' h2 h3 ((Below.refl base w).grown h3 hbase fun k hk => (hown.lt k hk).1) h5 hk)
end
section
variable {w w' : World} {base base' : Nat} {e e' : TypeId} {s s' : Nat} {u v : Value} {n N : Nat} {xs ys : List Value}
/-- A shorter row in the same block. -/
theorem own_shorter (h : w.ownsRow base e s v N ys) (h' : w'.ownsRow base e s v N ys) (hu : w.ownsRow base' e s u n xs) (hn : n ≤ N) (hb : u.ownBlock = v.ownBlock) : w'.ownsRow base' e s u n xs := by
  refine ⟨hu.1, ?_⟩
  rcases hu.2 with hz | ⟨g, c, cur, rfl, hbg, hg, hnc, hcm, hcs, ht⟩
  · exact .inl hz
  · rcases h.2 with ⟨rfl, _⟩ | ⟨g2, c2, cur2, rfl, _, hg2, _, _, hcs2, ht2⟩
    · simp [Value.ownBlock] at hb
    · have e1 : g = g2 := by simpa [Value.ownBlock] using hb
      subst e1
      rw [hg] at hg2
      injection hg2 with e2
      injection e2 with e2
      subst e2
      rcases h'.2 with ⟨e3, _⟩ | ⟨g3, c3, cur3, e3, _, hg3, _, _, hcs3, ht3⟩
      · cases e3
      · have e4 : g = g3 := by injection e3 with e3; injection e3 with e3; injection e3
        have e5 : c2 = c3 := by injection e3
        subst e4 e5
        refine .inr ⟨g, c, cur3, rfl, hbg, hg3, hnc, hcm, by omega, ?_⟩
        rw [← ht]
        have hle : n * s ≤ N * s := Nat.mul_le_mul_right _ hn
        have a1 : cur3.toList.take (n * s) = (cur3.toList.take (N * s)).take (n * s) := by rw [List.take_take, Nat.min_eq_left hle]
        have a2 : cur.toList.take (n * s) = (cur.toList.take (N * s)).take (n * s) := by rw [List.take_take, Nat.min_eq_left hle]
        rw [a1, a2, ht3, ht2]
/-- What an append onto v leaves of another row. -/
theorem own_thru (hg : w.grownBy w' v.ownBlock) (h : w.ownsRow base e s v N ys) (h' : w'.ownsRow base e s v N ys) (hu : w.ownsRow base' e s u n xs) (hn : u.ownBlock = v.ownBlock → n ≤ N) : w'.ownsRow base' e s u n xs := by
  by_cases hb : u.ownBlock = v.ownBlock
  · exact own_shorter h h' hu (hn hb) hb
  · exact hu.kept hg (.inr hb)
/-- Rows of other elements lie in other blocks. -/
theorem own_own (h : w.ownsRow base e s v N ys) (hu : w.ownsRow base' e' s' u n xs) (hne : e ≠ e') {k : Nat} (hk : v.ownBlock = some k) : u.ownBlock ≠ some k := by
  intro hk2
  rcases h.2 with ⟨rfl, _⟩ | ⟨g, _, _, rfl, _, hg, _⟩
  · simp [Value.ownBlock] at hk
  · rcases hu.2 with ⟨rfl, _⟩ | ⟨g2, _, _, rfl, _, hg2, _⟩
    · simp [Value.ownBlock] at hk2
    · simp [Value.ownBlock] at hk hk2
      subst hk hk2
      rw [hg] at hg2
      injection hg2 with e2
      injection e2 with _ e3
      exact hne e3
/-- A cell of a row is set. -/
theorem own_put {g c p : Nat} {x : Value} (h : w.ownsRow base e s (.slice (some ⟨g, 0, none⟩) n c) n xs) (_ : p < n * s) : (w.setCell ⟨g, p, none⟩ x).ownsRow base e s (.slice (some ⟨g, 0, none⟩) n c) n (xs.set p x) := by
  refine ⟨by rw [List.length_set]; exact h.1, ?_⟩
  rcases h.2 with ⟨e1, _⟩ | ⟨g1, c1, cur, e1, hbg, hg, hnc, hcm, hcs, ht⟩
  · cases e1
  · have e4 : g = g1 := by injection e1 with e1; injection e1 with e1; injection e1
    have e5 : c = c1 := by injection e1
    subst e4 e5
    refine .inr ⟨g, c, cur.setIfInBounds p x, rfl, hbg, heap_setCell_same w g p cur e x hg, hnc, hcm, by simpa using hcs, ?_⟩
    rw [← ht, Array.toList_setIfInBounds, List.take_set]
end
end Go.Proofs.Ytfgpadikmnhldaa

/-
  A map of the call's own, from names to pointers: what it holds, and its operations. Condition: names of no more bytes than a string may have.
-/
namespace Go.Proofs.Ytfgpadikmnhldaa
open Go Go.RowKit Go.Maps Go.ChangeMaps

/-- A name as a key. -/
def kS (s : ByteArray) : Lit := .string s.data.toList
theorem kS_inj {a b : ByteArray} (h : kS a = kS b) : a = b := by
  unfold kS at h
  injection h with h
  have h2 : a.data = b.data := Array.toList_inj.1 h
  cases a; cases b; simp at h2; rw [h2]
theorem kS_key (s : ByteArray) : WideAt.IsKeyLit (kS s) := trivial
/-- A pointer to a block, or none. -/
def ptrV : Option Nat → Value
  | none => .pointer none
  | some b => .pointer (some ⟨b, 0, none⟩)
/-- How it reads: as the block's number. -/
def ptrR : Value → Option (DataW Unit × List MemPlace)
  | .pointer none => some (.nil, [])
  | .pointer (some ⟨b, 0, none⟩) => some (.lit (.int .i64 b), [])
  | _ => none
theorem ptrR_inv {v : Value} {y : DataW Unit × List MemPlace} (h : ptrR v = some y) : ∃ c : Option Nat, v = ptrV c ∧ y = ((match c with | none => .nil | some b => .lit (.int .i64 b)), []) := by
  unfold ptrR at h
  split at h
  · injection h with h; exact ⟨none, rfl, h.symm⟩
  · injection h with h; rename_i b; exact ⟨some b, rfl, h.symm⟩
  · cases h
theorem ptrR_some (b : Nat) : ptrR (.pointer (some ⟨b, 0, none⟩)) = some (.lit (.int .i64 b), []) := rfl
/-- Names of files and their blocks. -/
abbrev Names := List (ByteArray × Nat)
/-- The block is a map that holds these. -/
structure MapAt (w : World) (bm : Nat) (D : DataW Unit) (g : Names) : Prop where
  own : w.ownsMap Try.prog 9 ptrR bm (Maps.size D) D
  has : ∀ s, Maps.has D (kS s) = true ↔ ∃ b, (s, b) ∈ g
  at_ : ∀ s b, (s, b) ∈ g → ∀ z, D.atKey (kS s) z = .lit (.int .i64 b)
  size : Maps.size D = g.length
  nd : (g.map (·.1)).Nodup
theorem strKeyed : Keyed Try.prog 9 := string_keyed Try.underlying9
theorem strKey {s : ByteArray} (h : s.size ≤ maxLen) : keyOf Try.prog 9 (.string s) = some (kS s) := WideMaps.keyOf_string_mk Try.underlying9 h
theorem ownsMap_tight {w : World} {P : Program} {k : TypeId} {R : Value → Option (DataW Unit × List MemPlace)} {b n : Nat} {D : DataW Unit} (h : w.ownsMap P k R b n D) : w.ownsMap P k R b (Maps.size D) D := by
  obtain ⟨es, clock, h1, h2, _, rfl⟩ := h
  refine ⟨es, clock, h1, h2, ?_, rfl⟩
  simp [Maps.size, length_sorted]
section
variable {w w' : World} {bm : Nat} {D : DataW Unit} {g g' : Names} {s : ByteArray} {b : Nat}
theorem MapAt.made (w : World) : MapAt (w.alloc (.map #[] 0)) w.heap.size (.map []) [] := ⟨World.ownsMap_made w _ _ _, fun s => by simp [Maps.has], fun s b h => by simp at h, rfl, by simp⟩
theorem MapAt.lt (h : MapAt w bm D g) : bm < w.heap.size := h.own.lt
theorem MapAt.frm {S : Nat → Prop} (h : MapAt w bm D g) (k : Frm S w w') (hs : ¬ S bm) : MapAt w' bm D g := by
  refine ⟨?_, h.has, h.at_, h.size, h.nd⟩
  obtain ⟨es, clock, h1, h2, h3, h4⟩ := h.own
  exact ⟨es, clock, (k.block bm h.lt hs).trans h1, h2, h3, h4⟩
theorem MapAt.below (h : MapAt w bm D g) (k : Below w.heap.size w w') : MapAt w' bm D g := h.frm (S := no) (Frm.of_below k) (fun h => h)
theorem MapAt.perm (h : MapAt w bm D g) (p : g.Perm g') : MapAt w bm D g' :=
  ⟨h.own, fun s => by rw [h.has]; exact ⟨fun ⟨b, hb⟩ => ⟨b, p.mem_iff.1 hb⟩, fun ⟨b, hb⟩ => ⟨b, p.mem_iff.2 hb⟩⟩, fun s b hb => h.at_ s b (p.mem_iff.2 hb), by rw [h.size, p.length_eq], (p.map _).nodup_iff.1 h.nd⟩
theorem MapAt.one (h : MapAt w bm D g) {b' : Nat} (h1 : (s, b) ∈ g) (h2 : (s, b') ∈ g) : b = b' := by
  have e1 := h.at_ s b h1 .nil
  rw [h.at_ s b' h2 .nil] at e1
  injection e1 with e1
  injection e1 with _ e1
  omega
theorem MapAt.put (h : MapAt w bm D g) (hw : ∃ n, w'.ownsMap Try.prog 9 ptrR bm n (D.put (kS s) (.lit (.int .i64 b)))) : MapAt w' bm (D.put (kS s) (.lit (.int .i64 b))) ((s, b) :: g.filter fun p => !decide (p.1 = s)) := by
  have hI := h.own.isMap
  have hT := h.own.tidy strKeyed
  obtain ⟨n, hw⟩ := hw
  have hmem : ∀ t c, (t, c) ∈ ((s, b) :: g.filter fun p => !decide (p.1 = s)) ↔ (t = s ∧ c = b) ∨ (t ≠ s ∧ (t, c) ∈ g) := fun t c => by
    rw [List.mem_cons, List.mem_filter]
    constructor
    · rintro (e | ⟨e1, e2⟩)
      · injection e with e1 e2; exact .inl ⟨e1, e2⟩
      · exact .inr ⟨by simpa using e2, e1⟩
    · rintro (⟨rfl, rfl⟩ | ⟨e1, e2⟩)
      · exact .inl rfl
      · exact .inr ⟨e2, by simpa using e1⟩
  refine ⟨ownsMap_tight hw, fun t => ?_, fun t c ht z => ?_, ?_, ?_⟩
  · by_cases e : t = s
    · subst e
      rw [Maps.has_put_same hI (kS_key _)]
      exact ⟨fun _ => ⟨b, by simp⟩, fun _ => rfl⟩
    · rw [Maps.has_put_other (fun h => e (kS_inj h)), h.has]
      constructor
      · rintro ⟨c, hc⟩; exact ⟨c, (hmem t c).2 (.inr ⟨e, hc⟩)⟩
      · rintro ⟨c, hc⟩
        rcases (hmem t c).1 hc with ⟨h1, _⟩ | ⟨_, h1⟩
        · exact absurd h1 e
        · exact ⟨c, h1⟩
  · rcases (hmem t c).1 ht with ⟨rfl, rfl⟩ | ⟨h1, h2⟩
    · exact Maps.atKey_put_same hI (kS_key _) _ _
    · rw [Maps.atKey_put_other (fun h => h1 (kS_inj h))]; exact h.at_ t c h2 z
  · rw [Maps.size_put hT, List.length_cons, h.size]
    have hf : (g.filter fun p => !decide (p.1 = s)).length + (g.filter fun p => decide (p.1 = s)).length = g.length := by
      clear hw hI hT h hmem
      induction g with
      | nil => rfl
      | cons q l ih =>
        by_cases e : q.1 = s
        · rw [List.filter_cons_of_neg (by simp [e]), List.filter_cons_of_pos (by simp [e]), List.length_cons, List.length_cons]; omega
        · rw [List.filter_cons_of_pos (by simp [e]), List.filter_cons_of_neg (by simp [e]), List.length_cons, List.length_cons]; omega
    have hone : (g.filter fun p => decide (p.1 = s)).length = if Maps.has D (kS s) then 1 else 0 := by
      split
      · rename_i hh
        obtain ⟨c, hc⟩ := (h.has s).1 hh
        have hnd : (g.filter fun p => decide (p.1 = s)).map (·.1) |>.Nodup := (List.filter_sublist.map _).nodup h.nd
        cases hfl : g.filter fun p => decide (p.1 = s) with
        | nil => have hin : (s, c) ∈ g.filter fun p => decide (p.1 = s) := List.mem_filter.2 ⟨hc, by simp⟩
                 rw [hfl] at hin; simp at hin
        | cons p l =>
          cases l with
          | nil => rfl
          | cons q l =>
            rw [hfl] at hnd
            have h1 : p.1 = s := by have : p ∈ g.filter fun p => decide (p.1 = s) := by rw [hfl]; simp
                                    simpa using (List.mem_filter.1 this).2
            have h2 : q.1 = s := by have : q ∈ g.filter fun p => decide (p.1 = s) := by rw [hfl]; simp
                                    simpa using (List.mem_filter.1 this).2
            simp [h1, h2] at hnd
      · rename_i hh
        rw [List.length_eq_zero_iff, List.filter_eq_nil_iff]
        rintro ⟨t, c⟩ hp ht
        have e : t = s := by simpa using ht
        exact hh ((h.has s).2 ⟨c, e ▸ hp⟩)
    split at hone
    · rename_i hh; rw [if_pos hh]; omega
    · rename_i hh; rw [if_neg hh]; omega
  · rw [List.map_cons, List.nodup_cons]
    refine ⟨fun hm => ?_, (List.filter_sublist.map _).nodup h.nd⟩
    obtain ⟨p, hp, e⟩ := List.mem_map.1 hm
    have := (List.mem_filter.1 hp).2
    simp [e] at this
theorem MapAt.del (h : MapAt w bm D g) (hw : ∃ n, w'.ownsMap Try.prog 9 ptrR bm n (D.del (kS s))) : MapAt w' bm (D.del (kS s)) (g.filter fun p => !decide (p.1 = s)) := by
  have hT := h.own.tidy strKeyed
  obtain ⟨n, hw⟩ := hw
  have hmem : ∀ t c, (t, c) ∈ (g.filter fun p => !decide (p.1 = s)) ↔ (t ≠ s ∧ (t, c) ∈ g) := fun t c => by
    rw [List.mem_filter]
    exact ⟨fun ⟨h1, h2⟩ => ⟨by simpa using h2, h1⟩, fun ⟨h1, h2⟩ => ⟨h2, by simpa using h1⟩⟩
  refine ⟨ownsMap_tight hw, fun t => ?_, fun t c ht z => ?_, ?_, (List.filter_sublist.map _).nodup h.nd⟩
  · by_cases e : t = s
    · subst e
      rw [Maps.has_del_same]
      constructor
      · intro h; cases h
      · rintro ⟨c, hc⟩; exact absurd rfl ((hmem _ _).1 hc).1
    · rw [Maps.has_del_other (fun h => e (kS_inj h)), h.has]
      exact ⟨fun ⟨c, hc⟩ => ⟨c, (hmem t c).2 ⟨e, hc⟩⟩, fun ⟨c, hc⟩ => ⟨c, ((hmem t c).1 hc).2⟩⟩
  · obtain ⟨h1, h2⟩ := (hmem t c).1 ht
    rw [Maps.atKey_del_other (fun h => h1 (kS_inj h))]; exact h.at_ t c h2 z
  · have h1 := Maps.size_del hT (k := kS s)
    by_cases hh : Maps.has D (kS s) = true
    · rw [if_pos hh] at h1
      have hp := h.put (w' := w') (s := s) (b := 0) (g := g) (bm := bm) (D := D)
      have hn : (g.filter fun p => !decide (p.1 = s)).length + 1 = g.length := by
        obtain ⟨c, hc⟩ := (h.has s).1 hh
        have hnd := h.nd
        clear hp h1 hmem hw hT hh h
        induction g with
        | nil => simp at hc
        | cons q l ih =>
          rw [List.map_cons, List.nodup_cons] at hnd
          rcases List.mem_cons.1 hc with rfl | hc1
          · have : l.filter (fun p => !decide (p.1 = s)) = l := List.filter_eq_self.2 fun p hp => by
              have : p.1 ≠ s := fun e => hnd.1 (List.mem_map.2 ⟨p, hp, e⟩)
              simpa using this
            simp [this]
          · have hq : q.1 ≠ s := fun e => hnd.1 (List.mem_map.2 ⟨(s, c), hc1, e.symm⟩)
            rw [List.filter_cons_of_pos (by simpa using hq), List.length_cons, List.length_cons, ih hc1 hnd.2]
      rw [h.size] at h1; omega
    · rw [if_neg hh] at h1
      have : g.filter (fun p => !decide (p.1 = s)) = g := List.filter_eq_self.2 fun p hp => by
        have : p.1 ≠ s := fun e => hh ((h.has s).2 ⟨p.2, by rw [← e]; exact hp⟩)
        simpa using this
      rw [this]; rw [h.size] at h1; omega
end
end Go.Proofs.Ytfgpadikmnhldaa

/-
  A map of the call's own, from names to pointers: look-ups, stores, deletions, and the range at the operation. Condition: names that a string may be.
-/
namespace Go.Proofs.Ytfgpadikmnhldaa
open Go Go.RowKit Go.Maps Go.ChangeMaps
theorem zeroPtr (w : World) : (zeroValue 55).run Try.prog w = .ok (.pointer none) w := by kernel_rfl
section
variable {w : World} {ops : Array Oper} {rest : List Oper} {o : Oper} {a : Act} {Q : Exit → Act → World → Prop} {bm : Nat} {D : DataW Unit} {g : Names} {s : ByteArray}
theorem wpList_look_yes (hg : o.guard = none) (m x : Operand) (hop : o.op = Op.lookup 46 m x true) (hm : a.eval m = .map (some bm)) (hx : a.eval x = .string s) (h : MapAt w bm D g) (hs : s.size ≤ maxLen) {b : Nat} (hb : (s, b) ∈ g)
    (hK : wpList Try.prog ops Q rest (a.put o.dst (.tuple #[.pointer (some ⟨b, 0, none⟩), .bool true])) w) : wpList Try.prog ops Q (o :: rest) a w :=
  wpList_lookup_own_ok w hg m x _ hop 9 55 strKeyed Try.underlying46 ptrR (zeroPtr w) .nil [] rfl bm _ D hm h.own _ (kS s) hx (strKey hs) fun v ps hv => by
    rw [h.at_ s b hb .nil] at hv
    obtain ⟨c, rfl, e⟩ := ptrR_inv hv
    injection e with e1 _
    cases c with
    | none => cases e1
    | some c =>
      injection e1 with e1
      injection e1 with _ e1
      obtain rfl : b = c := by omega
      rw [(h.has s).2 ⟨b, hb⟩]
      exact hK
theorem wpList_look_no (hg : o.guard = none) (m x : Operand) (hop : o.op = Op.lookup 46 m x true) (hm : a.eval m = .map (some bm)) (hx : a.eval x = .string s) (h : MapAt w bm D g) (hs : s.size ≤ maxLen) (hn : ∀ b, (s, b) ∉ g)
    (hK : wpList Try.prog ops Q rest (a.put o.dst (.tuple #[.pointer none, .bool false])) w) : wpList Try.prog ops Q (o :: rest) a w :=
  wpList_lookup_own_ok w hg m x _ hop 9 55 strKeyed Try.underlying46 ptrR (zeroPtr w) .nil [] rfl bm _ D hm h.own _ (kS s) hx (strKey hs) fun v ps hv => by
    have hh : Maps.has D (kS s) = false := by
      cases e : Maps.has D (kS s)
      · rfl
      · obtain ⟨b, hb⟩ := (h.has s).1 e; exact absurd hb (hn b)
    rw [Maps.atKey_of_not_has hh] at hv
    obtain ⟨c, rfl, e⟩ := ptrR_inv hv
    injection e with e1 _
    cases c with
    | none => rw [hh]; exact hK
    | some c => cases e1
theorem wpList_store (hg : o.guard = none) (m x v : Operand) (hop : o.op = Op.mapUpdate 46 m x v) (hm : a.eval m = .map (some bm)) (hx : a.eval x = .string s) {b : Nat} (hv : a.eval v = .pointer (some ⟨b, 0, none⟩)) (h : MapAt w bm D g) (hs : s.size ≤ maxLen) (hn : g.length < 1000)
    (hK : ∀ w' D', MapAt w' bm D' ((s, b) :: g.filter fun p => !decide (p.1 = s)) → w.grownBy w' (some bm) → wpList Try.prog ops Q rest (a.put o.dst undef) w') : wpList Try.prog ops Q (o :: rest) a w :=
  wpList_mapUpdate_own w hg m x v _ hop 9 55 strKeyed Try.underlying46 ptrR bm _ D hm h.own (by rw [h.size]; unfold maxLen; omega) _ _ (kS s) hx hv (strKey hs) (.lit (.int .i64 b)) [] rfl fun w' h1 h2 =>
    hK w' _ (h.put ⟨_, h1⟩) h2
theorem mapTurned_grown {w w' : World} {b : Nat} (h : w.mapTurned w' b) : w.grownBy w' (some b) := h.grown
theorem wpList_del (hg : o.guard = none) (m x : Operand) (hop : o.op = Op.call { callee := Callee.builtin Builtin.delete, args := #[m, x], argTypes := #[46, 9] }) (hm : a.eval m = .map (some bm)) (hx : a.eval x = .string s) (h : MapAt w bm D g) (hs : s.size ≤ maxLen)
    (hK : ∀ w' D', MapAt w' bm D' (g.filter fun p => !decide (p.1 = s)) → w.grownBy w' (some bm) → wpList Try.prog ops Q rest (a.put o.dst (.tuple #[])) w') : wpList Try.prog ops Q (o :: rest) a w :=
  wpList_delete_own w hg m x _ _ hop 55 strKeyed Try.underlying46 ptrR bm _ D hm h.own _ (kS s) hx (strKey hs) fun w' h1 h2 =>
    hK w' _ (h.del ⟨_, h1⟩) h2.grown
theorem wpList_maplen (hg : o.guard = none) (m : Operand) (hop : o.op = Op.call { callee := Callee.builtin Builtin.len, args := #[m], argTypes := #[46] }) (hm : a.eval m = .map (some bm)) (h : MapAt w bm D g)
    (hK : wpList Try.prog ops Q rest (a.put o.dst (.int .i64 (g.length : Nat))) w) : wpList Try.prog ops Q (o :: rest) a w :=
  wpList_len_own w hg m _ hop 9 55 Try.underlying46 ptrR bm _ D hm h.own (by rw [h.size]; exact hK)
/-- Which names are still to come. -/
def leftG (left : Lit → Bool) (g : Names) : Names := g.filter fun p => left (kS p.1)
theorem wpList_rangeF (hg : o.guard = none) (m : Operand) (hop : o.op = Op.range 46 m) (hm : a.eval m = .map (some bm)) (h : MapAt w bm D g)
    (hK : ∀ w', w'.ranges Try.prog 9 ptrR bm w.heap.size (Maps.size D) D (Maps.has D) (Maps.size D) → w.grownBy w' none → w'.heap.size = w.heap.size + 1 → wpList Try.prog ops Q rest (a.put o.dst (.pointer (some ⟨w.heap.size, 0, none⟩))) w') : wpList Try.prog ops Q (o :: rest) a w :=
  wpList_range_own w hg m _ hop 9 55 strKeyed Try.underlying46 ptrR bm _ D hm h.own hK
theorem wpList_nextF (hg : o.guard = none) (it : Operand) (hop : o.op = Op.next it false) {r n cnt : Nat} {left : Lit → Bool} (hit : a.eval it = .pointer (some ⟨r, 0, none⟩)) (h : MapAt w bm D g) (hr : w.ranges Try.prog 9 ptrR bm r n D left cnt) (hle : ∀ k, left k = true → Maps.has D k = true)
    (hDone : (∀ k, left k = false) → wpList Try.prog ops Q rest (a.put o.dst (.tuple #[.bool false])) w)
    (hMore : ∀ (s : ByteArray) (b : Nat) (w' : World) (cnt' : Nat), (s, b) ∈ g → left (kS s) = true → w'.ranges Try.prog 9 ptrR bm r n D (fun z => left z && !z.sameKey (kS s)) cnt' → cnt' < cnt → w.grownBy w' (some r) → w'.heap.size = w.heap.size →
      (Instr.entry (.pointer (some ⟨r, 0, none⟩))).run Try.prog w' = .ok (.tuple #[.string s, .pointer (some ⟨b, 0, none⟩)]) w' → wpList Try.prog ops Q rest (a.put o.dst (.tuple #[.bool true, .string s, .pointer (some ⟨b, 0, none⟩)])) w') : wpList Try.prog ops Q (o :: rest) a w :=
  wpList_next_ranges w hg it hop 9 strKeyed ptrR Value.string ptrV (fun key kl hk => by obtain ⟨s, e, _⟩ := WideMaps.string_of_keyOf Try.underlying9 hk; exact ⟨s, e⟩)
    (fun v y hv => by obtain ⟨c, e, _⟩ := ptrR_inv hv; exact ⟨c, e⟩) bm r n D left cnt hit hr (fun _ h0 => hDone h0) fun s c kl y w' cnt' hk hl hv hat hrg hlt hgr hsz hen => by
      have hs : kl = kS s := by
        obtain ⟨s', e, h1, _⟩ := WideMaps.string_of_keyOf Try.underlying9 hk
        have e2 : s = s' := Value.string.inj e
        rw [e2]; exact h1
      subst hs
      obtain ⟨b, hb⟩ := (h.has s).1 (hle _ hl)
      have e1 := hat .nil
      rw [h.at_ s b hb .nil] at e1
      obtain ⟨c', e2, e3⟩ := ptrR_inv hv
      rw [e3] at e1
      cases c' with
      | none => cases e1
      | some c' =>
        simp only at e1
        injection e1 with e1
        injection e1 with _ e1
        obtain rfl : b = c' := by omega
        cases c with
        | none => simp [ptrV] at e2
        | some c =>
          have : c = b := by simpa [ptrV] using e2
          subst this
          exact hMore s c w' cnt' hb hl hrg hlt hgr hsz hen
end
end Go.Proofs.Ytfgpadikmnhldaa

/-
  The type of a block: blocks of other types are other blocks. No condition of its own.
-/
namespace Go.Proofs.Ytfgpadikmnhldaa
open Go Go.RowKit

/-- The block q holds cells of the type t. -/
def TyAt (w : World) (q : Nat) (t : TypeId) : Prop := ∃ cs fr, w.heap[q]? = some (.cells cs t fr)
theorem TyAt.eq {w : World} {q : Nat} {t t' : TypeId} (h : TyAt w q t) (k : TyAt w q t') : t = t' := by
  obtain ⟨cs, fr, h⟩ := h
  obtain ⟨cs', fr', k⟩ := k
  rw [h] at k; injection k with k; injection k
theorem Blk.ty {w : World} {g : Nat} {t : TypeId} {cs : Array Value} (h : Blk w g t cs) : TyAt w g t := ⟨cs, _, h⟩
theorem own_ty {w : World} {base n s : Nat} {e : TypeId} {v : Value} {xs : List Value} (h : w.ownsRow base e s v n xs) {q : Nat} (hq : v.ownBlock = some q) : TyAt w q e := by
  rcases h.2 with ⟨rfl, _⟩ | ⟨g, _, cur, rfl, _, hg, _⟩
  · simp [Value.ownBlock] at hq
  · simp [Value.ownBlock] at hq
    subst hq
    exact ⟨cur, _, hg⟩
/-- Every block in S is of one of the types in Ts. -/
def TyS (w : World) (S : Nat → Prop) (Ts : List TypeId) : Prop := ∀ q, q < w.heap.size → S q → ∃ t ∈ Ts, TyAt w q t
theorem TyAt.below {w w' : World} {q : Nat} {t : TypeId} (h : TyAt w q t) (k : Below w.heap.size w w') : TyAt w' q t := by
  obtain ⟨cs, fr, h⟩ := h
  exact ⟨cs, fr, (k.block q (Array.getElem?_eq_some_iff.1 h).1).trans h⟩
theorem TyAt.lt {w : World} {q : Nat} {t : TypeId} (h : TyAt w q t) : q < w.heap.size := by
  obtain ⟨cs, fr, h⟩ := h
  exact (Array.getElem?_eq_some_iff.1 h).1
theorem Blk.frm_ty {w w' : World} {g : Nat} {t : TypeId} {cs : Array Value} {S : Nat → Prop} {Ts : List TypeId} (h : Blk w g t cs) (k : Frm S w w') (hS : TyS w S Ts) (hn : t ∉ Ts) : Blk w' g t cs :=
  h.frm k fun hs => by
    obtain ⟨t', ht, hq⟩ := hS g h.lt hs
    exact hn ((h.ty.eq hq) ▸ ht)
theorem own_frm_ty {w w' : World} {base n s : Nat} {e : TypeId} {v : Value} {xs : List Value} {S : Nat → Prop} {Ts : List TypeId} (h : w.ownsRow base e s v n xs) (k : Frm S w w') (hS : TyS w S Ts) (hn : e ∉ Ts) : w'.ownsRow base e s v n xs :=
  own_frm h k fun g hg hs => by
    obtain ⟨t', ht, hq⟩ := hS g (own_ty h hg).lt hs
    exact hn (((own_ty h hg).eq hq) ▸ ht)
theorem TyS.no (w : World) (Ts : List TypeId) : TyS w no Ts := fun _ _ h => h.elim
theorem TyS.one {w : World} {g : Nat} {t : TypeId} {cs : Array Value} (h : Blk w g t cs) : TyS w (fun q => q = g) [t] := fun q _ e => ⟨t, by simp, e ▸ h.ty⟩
theorem TyS.two {w : World} {g base n s : Nat} {t e : TypeId} {cs : Array Value} {v : Value} {xs : List Value} (h : Blk w g t cs) (o : w.ownsRow base e s v n xs) : TyS w (fun q => q = g ∨ v.ownBlock = some q) [t, e] := fun q _ hs => by
  rcases hs with rfl | hs
  · exact ⟨t, by simp, h.ty⟩
  · exact ⟨e, by simp, own_ty o hs⟩
theorem TyS.three {w : World} {g base n s base' n' s' : Nat} {t e e' : TypeId} {cs : Array Value} {v v' : Value} {xs xs' : List Value} (h : Blk w g t cs) (o : w.ownsRow base e s v n xs) (o' : w.ownsRow base' e' s' v' n' xs') : TyS w (fun q => q = g ∨ v.ownBlock = some q ∨ v'.ownBlock = some q) [t, e, e'] := fun q _ hs => by
  rcases hs with rfl | hs | hs
  · exact ⟨t, by simp, h.ty⟩
  · exact ⟨e, by simp, own_ty o hs⟩
  · exact ⟨e', by simp, own_ty o' hs⟩
end Go.Proofs.Ytfgpadikmnhldaa

/-
  Plain facts about rows of records, and about the order of texts. No program in them.
-/
namespace Go.Proofs.Ytfgpadikmnhldaa
open Go Go.RowKit

section
variable {α : Type} (cells : α → List Value) {sz : Nat}
theorem flat_len (hk : ∀ x, (cells x).length = sz) (xs : List α) : (xs.flatMap cells).length = xs.length * sz := by
  induction xs with
  | nil => simp
  | cons x xs ih => rw [List.flatMap_cons, List.length_append, hk, ih, List.length_cons, Nat.add_mul]; omega
theorem flat_at (hk : ∀ x, (cells x).length = sz) (xs : List α) (k : Nat) (x : α) (h : xs[k]? = some x) (j : Nat) (v : Value) (hv : (cells x)[j]? = some v) : (xs.flatMap cells)[k * sz + j]? = some v := by
  induction xs generalizing k with
  | nil => simp at h
  | cons d xs ih =>
    rw [List.flatMap_cons]
    cases k with
    | zero =>
      simp at h; subst h
      have hj : j < (cells d).length := (List.getElem?_eq_some_iff.1 hv).1
      rw [Nat.zero_mul, Nat.zero_add, List.getElem?_append_left hj]; exact hv
    | succ k =>
      simp at h
      rw [List.getElem?_append_right (by rw [hk, Nat.add_mul]; omega), hk, show (k + 1) * sz + j - sz = k * sz + j by rw [Nat.add_mul]; omega]
      exact ih k h
theorem flat_snoc (xs : List α) (x : α) : (xs ++ [x]).flatMap cells = xs.flatMap cells ++ cells x := by simp
theorem flat_one (hk : ∀ x, ∀ u ∈ cells x, u.oneCell' = true) (xs : List α) : ∀ u ∈ xs.flatMap cells, u.oneCell' = true := by
  intro u hu
  obtain ⟨x, _, h⟩ := List.mem_flatMap.1 hu
  exact hk x u h
end
/-- A text below another one. -/
def ltB (a b : ByteArray) : Bool := decide (bts a < bts b)
theorem less_eq (a b : ByteArray) : Op.bytesLess a.toList b.toList = ltB a b := by
  rw [bytesLess_eq, ByteArray.toList_eq, ByteArray.toList_eq]; rfl
theorem ltB_irrefl (a : ByteArray) : ltB a a = false := by unfold ltB; simp [List.lt_irrefl]
theorem ltB_trans {a b c : ByteArray} (h : ltB a b = true) (k : ltB b c = true) : ltB a c = true := by
  unfold ltB at *
  simp only [decide_eq_true_eq] at *
  exact List.lt_trans h k
theorem ltB_tri (a b : ByteArray) (h : ltB a b = false) (k : ltB b a = false) : a = b := by
  unfold ltB at *
  simp only [decide_eq_false_iff_not, List.not_lt] at *
  exact bts_inj (List.le_antisymm k h)
theorem leq_eq (a b : ByteArray) : (Op.bytesLess a.toList b.toList || a.toList == b.toList) = !ltB b a := by
  rw [less_eq, str_beq]
  cases h : ltB a b
  · cases k : ltB b a
    · simp [ltB_tri a b h k]
    · have : bts a ≠ bts b := fun e => by have := bts_inj e; subst this; rw [ltB_irrefl] at k; cases k
      simp [this]
  · cases k : ltB b a
    · rfl
    · have := ltB_trans h k; rw [ltB_irrefl] at this; cases this
theorem geq_eq (a b : ByteArray) : (!Op.bytesLess a.toList b.toList) = !ltB a b := by rw [less_eq]
theorem gtr_eq (a b : ByteArray) : (!(Op.bytesLess a.toList b.toList || a.toList == b.toList)) = ltB b a := by rw [leq_eq]; simp
/-- A text with a zero behind it is the next one. -/
theorem ltB_zero (a : ByteArray) : ltB a (a ++ ⟨#[0]⟩) = true := by
  unfold ltB
  rw [bts_append, decide_eq_true_eq]
  generalize bts a = l
  induction l with
  | nil => show ([] : List UInt8) < [0]; exact List.nil_lt_cons _ _
  | cons x l ih => rw [List.cons_append]; exact List.cons_lt_cons_iff.2 (.inr ⟨rfl, ih⟩)
end Go.Proofs.Ytfgpadikmnhldaa

/-
  Worlds that differ by draws alone. No condition of its own.
-/
namespace Go.Proofs.Ytfgpadikmnhldaa
open Go Go.RowKit

/-- Nothing but draws. -/
def Qt (w w' : World) : Prop := ∃ n, w' = w.drewN n
theorem Qt.refl (w : World) : Qt w w := ⟨0, rfl⟩
theorem Qt.drewN (w : World) (n : Nat) : Qt w (w.drewN n) := ⟨n, rfl⟩
theorem Qt.below {w w' : World} (h : Qt w w') (B : Nat) : Below B w w' := by obtain ⟨n, rfl⟩ := h; exact below_drewN (Below.refl _ _) n
theorem Qt.trans {a b c : World} (h : Qt a b) (k : Qt b c) : Qt a c := by
  obtain ⟨n, rfl⟩ := h; obtain ⟨m, rfl⟩ := k; exact ⟨n + m, by rw [World.drewN_drewN]⟩
end Go.Proofs.Ytfgpadikmnhldaa

/-
  A region that draws its order, whose operations only read and whose calls make new memory at most: one walk serves every order. No condition of its own.
-/
namespace Go.Proofs.Ytfgpadikmnhldaa
open Go Go.RowKit

/-- A world that is this one but for new memory. -/
structure NewM (w : World) where
  w' : World
  h : Below w.heap.size w w'
instance (w : World) : Nonempty (NewM w) := ⟨⟨w, Below.refl _ _⟩⟩
theorem NewM.cell {w : World} {p : Addr} {v : Value} (h : w.cell? p = some v) : ∀ r : NewM w, r.w'.cell? p = some v := fun r => (r.h.cell (block_lt_of_cell h)).trans h
theorem wp_region_quiet_new {P : Program} {id : Nat} {Q : Exit → Act → World → Prop} {a : Act} {w : World} {l : List Oper} (hm : P.follows .mixedOrders = true) (hB : Region.lexB .any l.toArray = true)
    (h : wpQuiet P l.toArray (fun w' => ∃ r : NewM w, w' = r.w') (fun a' => ∀ w', (∃ r : NewM w, w' = r.w') → Q .normal a' w') l a) : (Code.region id l.toArray true).wp P Q a w :=
  wp_region_quiet (C := fun w' => ∃ r : NewM w, w' = r.w') hm hB ⟨⟨{ w with drawn := w.drawn + 1 }, (Below.refl _ w).drew⟩, rfl⟩ (by simpa using h)
theorem NewM.call {P : Program} {f : FuncId} {args : Array Value} {w : World} {r : NewM w} {v : Value} (h : Calls P f args r.w' fun e w'' => e = .returned v ∧ Below r.w'.heap.size r.w' w'') :
    Calls P f args r.w' fun e w'' => e = .returned v ∧ ∃ r' : NewM w, w'' = r'.w' :=
  h.mono fun _ w'' ⟨he, hb⟩ => ⟨he, ⟨w'', below_of hb r.h r.h.size⟩, rfl⟩
theorem NewM.call_same {P : Program} {f : FuncId} {args : Array Value} {w : World} {r : NewM w} {v : Value} (h : Calls P f args r.w' fun e w'' => e = .returned v ∧ w'' = r.w') :
    Calls P f args r.w' fun e w'' => e = .returned v ∧ ∃ r' : NewM w, w'' = r'.w' :=
  h.mono fun _ _ ⟨he, hb⟩ => ⟨he, r, hb⟩
/-- A call tells whether something is so. -/
inductive TellsB (e : Ending) (p : Prop) : Prop
  | mk (b : Bool) (h : e = .returned (.bool b)) (k : b = true ↔ p) : TellsB e p
end Go.Proofs.Ytfgpadikmnhldaa

/-
  How much room is left behind parts of given sizes. Conditions: the room is no more than 2^40; no more parts than a thousand.
-/
namespace Go.Proofs.Ytfgpadikmnhldaa
open Go Go.RowKit

def natsV (l : List Nat) : List Value := l.map fun (x : Nat) => Value.int .i64 (x : Int)
theorem natsV_at (l : List Nat) (k x : Nat) (h : l[k]? = some x) : (natsV l)[k]? = some (.int .i64 (x : Int)) := by simp [natsV, h]
theorem take_sum (l : List Nat) (k x : Nat) (h : l[k]? = some x) : (l.take (k + 1)).sum = (l.take k).sum + x := by
  rw [List.take_add_one, h, List.sum_append]; simp
/-- What room is left. -/
inductive RoomR (e : Ending) (left : Int) (s : Nat) : Prop
  | mk (r : Int) (he : e = .returned (.int .i64 r)) (h : r = -1 ∨ 0 ≤ r ∧ r = left - s) : RoomR e left s
set_option maxRecDepth 100000 in
theorem room_any (A : Option Addr) (n c : Nat) (l : List Nat) (left : Int) (w : World) (hr : Rd w A (natsV l)) (hn : l.length = n) (hm : n ≤ 1000) (hl0 : -1 ≤ left) (hl1 : left ≤ 1099511627776) :
    Calls Try.prog 14 #[.int .i64 left, .slice A n c] w fun e w' => RoomR e left l.sum ∧ w' = w := by
  have HR := Lib.hid hr
  have HN := Lib.hid hn
  have HT : Hid (l.take n = l) := List.take_of_length_le (by omega)
  have hnn : (n : Int) ≤ 1000 := by omega
  have HL0 := Lib.hid hl0
  have HL1 := Lib.hid hl1
  clear hr hn hl0 hl1
  go_enter Try.func14, Try.ntmps14
  go_wp2
  go_loopw [0, 4, 5] (fun u0 u4 u5 wr => ∃ (k : Nat) (t : Int), k ≤ n ∧ u5 = .int .i64 k ∧ u0 = .int .i64 t ∧ t = left - (l.take k).sum ∧ (0 ≤ t ∨ (t = -1 ∧ (l.take k).sum = 0)) ∧ wr = w) (fun _ _ u5 _ => n - (intOf u5).toNat)
  case atStart => exact ⟨0, left, by omega, rfl, rfl, by simp, by have := HL0.out; simp; omega, rfl⟩
  case round =>
    obtain ⟨k, t, hk, rfl, rfl, ht, ht0, rfl⟩ := hrel
    have HT1 := Lib.hid ht
    have HT0 := Lib.hid ht0
    clear ht ht0
    by_cases hlt : k < n
    · obtain ⟨x, hx⟩ : ∃ x, l[k]? = some x := ⟨l[k]'(by have := HN.out; omega), List.getElem?_eq_getElem _⟩
      obtain ⟨b, o, rfl, hb, hc⟩ := HR.out.flat (by simp [natsV]; have := HN.out; omega)
      have d0 := hc _ _ (natsV_at l k x hx)
      have HS := Lib.hid (take_sum l k x hx)
      have hki : (k : Int) < (n : Int) := by omega
      have h1 : t ≤ 1099511627776 := by have := HT1.out; have := HL1.out; omega
      have hx0 : (0 : Int) ≤ (x : Int) := by omega
      clear hc hx
      by_cases hneg : t < 0
      · go_wp2
        go_ret
        exact ⟨⟨-1, rfl, .inl rfl⟩, rfl⟩
      · by_cases hbig : t < (x : Int)
        · go_wp2
          go_ret
          exact ⟨⟨-1, rfl, .inl rfl⟩, rfl⟩
        · go_wp2
          go_roundw
          case rel => exact ⟨k + 1, t - x, by omega, by go_num, rfl, by rw [HS.out, HT1.out]; omega, .inl (by omega), (by trivial)⟩
          case measure => simp [intOf]; omega
    · obtain rfl : k = n := by omega
      go_wp2
      go_ret
      exact ⟨⟨t, rfl, by have h1 := HT0.out; have h2 := HT1.out; rw [HT.out] at h1 h2; omega⟩, rfl⟩
end Go.Proofs.Ytfgpadikmnhldaa

/-
  The check sum as plain numbers: one shift, four shifts by a table, the fold over bytes; its linearity. No condition.
-/
namespace Go.Proofs.Ytfgpadikmnhldaa
open Go Go.RowKit

/-- One shift of a sum. -/
def sh1 (n : Nat) : Nat := if n % 2 = 1 then (n / 2) ^^^ 2197175160 else n / 2
def shN : Nat → Nat → Nat
  | 0, n => n
  | k + 1, n => sh1 (shN k n)
theorem sh1_lt {n : Nat} (h : n < 4294967296) : sh1 n < 4294967296 := by
  unfold sh1; split
  · exact Nat.xor_lt_two_pow (n := 32) (by omega) (by omega)
  · omega
theorem shN_lt (k : Nat) {n : Nat} (h : n < 4294967296) : shN k n < 4294967296 := by
  induction k with
  | zero => exact h
  | succ k ih => exact sh1_lt ih
theorem shN_add (a b n : Nat) : shN (a + b) n = shN a (shN b n) := by
  induction a with
  | zero => simp [shN]
  | succ a ih => rw [show a + 1 + b = (a + b) + 1 by omega]; simp only [shN]; rw [ih]

theorem xor_mod2 (a b : Nat) : (a ^^^ b) % 2 = (a % 2 + b % 2) % 2 := by
  have h1 : (a ^^^ b).testBit 0 = (a.testBit 0 ^^ b.testBit 0) := Nat.testBit_xor a b 0
  simp only [Nat.testBit_zero] at h1
  rcases Nat.mod_two_eq_zero_or_one a with ha | ha <;> rcases Nat.mod_two_eq_zero_or_one b with hb | hb <;> rcases Nat.mod_two_eq_zero_or_one (a ^^^ b) with hc | hc <;> simp_all
theorem xor_div2 (a b : Nat) : (a ^^^ b) / 2 = a / 2 ^^^ b / 2 := by
  apply Nat.eq_of_testBit_eq; intro i
  rw [Nat.testBit_xor, ← Nat.testBit_succ, ← Nat.testBit_succ, ← Nat.testBit_succ, Nat.testBit_xor]
theorem sh1_xor (a b : Nat) : sh1 (a ^^^ b) = sh1 a ^^^ sh1 b := by
  unfold sh1
  rw [xor_mod2, xor_div2]
  rcases Nat.mod_two_eq_zero_or_one a with ha | ha <;> rcases Nat.mod_two_eq_zero_or_one b with hb | hb <;> simp [ha, hb]
  · ac_rfl
  · ac_rfl
  · rw [show a / 2 ^^^ 2197175160 ^^^ (b / 2 ^^^ 2197175160) = (a / 2 ^^^ b / 2) ^^^ (2197175160 ^^^ 2197175160) by ac_rfl, Nat.xor_self, Nat.xor_zero]
theorem shN_xor (k a b : Nat) : shN k (a ^^^ b) = shN k a ^^^ shN k b := by
  induction k with
  | zero => rfl
  | succ k ih => simp only [shN]; rw [ih, sh1_xor]
theorem shN_high (k m : Nat) : shN k (2 ^ k * m) = m := by
  induction k generalizing m with
  | zero => simp [shN]
  | succ k ih =>
    have : 2 ^ (k + 1) * m = 2 ^ k * (2 * m) := by rw [Nat.pow_succ]; ac_rfl
    simp only [shN]; rw [this, ih]; unfold sh1; rw [if_neg (by omega)]; omega
theorem split4 (x : Nat) : x = 16 * (x / 16) ^^^ x % 16 := by
  have h : 16 * (x / 16) ^^^ x % 16 = 16 * (x / 16) + x % 16 := by
    have h1 := Nat.two_pow_add_eq_or_of_lt (i := 4) (b := x % 16) (by omega) (x / 16)
    rw [show (2 : Nat) ^ 4 = 16 by rfl] at h1
    rw [h1]
    apply Nat.eq_of_testBit_eq; intro i
    rw [Nat.testBit_xor, Nat.testBit_or]
    by_cases hi : i < 4
    · have : (16 * (x / 16)).testBit i = false := by
        rw [show 16 * (x / 16) = 2 ^ 4 * (x / 16) by rfl, Nat.testBit_two_pow_mul]; simp; omega
      simp [this]
    · have : (x % 16).testBit i = false := by
        apply Nat.testBit_lt_two_pow
        have h2 : 2 ^ 4 ≤ 2 ^ i := Nat.pow_le_pow_right (by omega) (by omega)
        omega
      simp [this]
  omega
/-- Four shifts are one shift by four and a look into the table. -/
theorem shN4 (x : Nat) : (x / 16) ^^^ shN 4 (x % 16) = shN 4 x := by
  conv => rhs; rw [split4 x, shN_xor]
  rw [show 16 * (x / 16) = 2 ^ 4 * (x / 16) by rfl, shN_high]

/-- The sum's fold over bytes. -/
def crcL (x : Nat) (l : List UInt8) : Nat := l.foldl (fun x b => shN 8 (x ^^^ b.toNat)) x
theorem crcL_snoc (x : Nat) (l : List UInt8) (b : UInt8) : crcL x (l ++ [b]) = shN 8 (crcL x l ^^^ b.toNat) := by simp [crcL]
theorem crcL_append (x : Nat) (l m : List UInt8) : crcL x (l ++ m) = crcL (crcL x l) m := by simp [crcL]
theorem xor_byte_lt {x : Nat} (h : x < 4294967296) (b : UInt8) : x ^^^ b.toNat < 4294967296 :=
  Nat.xor_lt_two_pow (n := 32) h (by have := b.toNat_lt; omega)
theorem crcL_lt {x : Nat} (h : x < 4294967296) (l : List UInt8) : crcL x l < 4294967296 := by
  induction l generalizing x with
  | nil => exact h
  | cons b l ih => exact ih (shN_lt 8 (xor_byte_lt h b))
/-- The sum of these bytes. -/
def crc (l : List UInt8) : Nat := crcL 4294967295 l ^^^ 4294967295
theorem crc_lt (l : List UInt8) : crc l < 4294967296 := Nat.xor_lt_two_pow (n := 32) (crcL_lt (by omega) l) (by omega)

theorem bitsand1 (n : Nat) (h : n < 4294967296) : bits BinOp.and IntKind.u32 (n : Int) 1 = ((n % 2 : Nat) : Int) := by
  have := u32_and n 1 (by omega) (by omega) (by omega) (by omega)
  simpa [Nat.and_one_is_mod] using this
theorem bitsand15 (n : Nat) (h : n < 4294967296) : bits BinOp.and IntKind.u32 (n : Int) 15 = ((n % 16 : Nat) : Int) := by
  have := u32_and n 15 (by omega) (by omega) (by omega) (by omega)
  have h2 : n &&& 15 = n % 16 := Nat.and_two_pow_sub_one_eq_mod n 4
  simpa [h2] using this
theorem bitsxor (n m : Nat) (h : n < 4294967296) (h' : m < 4294967296) : bits BinOp.xor IntKind.u32 (n : Int) (m : Int) = ((n ^^^ m : Nat) : Int) := by
  have := u32_xor n m (by omega) (by omega) (by omega) (by omega)
  simpa using this

/-- The table behind k rounds. -/
def tabV (k : Nat) : Array Value := ((List.range 16).map fun j => Value.int .u32 (if j < k then (shN 4 j : Int) else 0)).toArray
theorem tabV_size (k : Nat) : (tabV k).size = 16 := by simp [tabV]
theorem tabV_at (k j : Nat) (h : j < 16) : (tabV k)[j]? = some (.int .u32 (if j < k then (shN 4 j : Int) else 0)) := by
  simp [tabV, h]
theorem tabV_16 (j : Nat) (h : j < 16) : (tabV 16)[j]? = some (.int .u32 (shN 4 j : Int)) := by
  rw [tabV_at 16 j h, if_pos h]
theorem tabV_set (k : Nat) (h : k < 16) : (tabV k).setIfInBounds k (.int .u32 (shN 4 k : Int)) = tabV (k + 1) := by
  apply Array.ext_getElem?
  intro j
  rw [Array.getElem?_setIfInBounds]
  by_cases hj : j < 16
  · rw [tabV_at _ _ hj, tabV_at _ _ hj, tabV_size]
    by_cases e : k = j
    · subst e; simp [h]
    · simp [e]
      by_cases h1 : j < k
      · simp [h1, show j < k + 1 by omega]
      · simp [h1, show ¬ j < k + 1 by omega]
  · have : k ≠ j := by omega
    simp [this, tabV, hj]
theorem tabV_one (k : Nat) : (tabV k).all (·.oneCell') = true := by
  rw [Array.all_eq_true_iff_forall_mem]
  intro v hv
  simp [tabV] at hv
  obtain ⟨j, _, rfl⟩ := hv
  rfl
def zer16 : Array Value := #[.int .u32 0, .int .u32 0, .int .u32 0, .int .u32 0, .int .u32 0, .int .u32 0, .int .u32 0, .int .u32 0, .int .u32 0, .int .u32 0, .int .u32 0, .int .u32 0, .int .u32 0, .int .u32 0, .int .u32 0, .int .u32 0]

end Go.Proofs.Ytfgpadikmnhldaa
