/-
  Texts put together: contracts of the functions that the claim reaches. Conditions: those of each.
-/
import Derived.WalkKit
import Derived.WalkSpells
import Derived.WalkLawsBesides
import Derived.Lib.Hide
import Derived.Deep.Draws
import Derived.Laws.CopyOwn
import Derived.Deep.DeepCutAuto
import Derived.BigQuiet
import Derived.Deep.QuietTactic
import Derived.Deep.RegionHeld3
import Derived.Deep.AppendLies
import Derived.Maps.AppendAt
import Derived.RegionTactic
import Derived.Lib.SlBytesConst
import Derived.ShutString
import Derived.Deep.WholeRow
import Derived.Test.YtdhohaeopfgbmaaRows
import Derived.ProofKit
import Derived.OpenShut
import Derived.Deep.Slices
import Derived.Deep.Fields
import Derived.Lib.SmallJoins
import Derived.Sort.Walk0
import Derived.Deep.Quiet
import Derived.Lib.AppendStr
import Derived.Test.YtdhohaeopfgbmaaChecked
import Derived.Laws.ResultCell
import Derived.Lib.BufferMore
/-
  Words for memory and small lemmas that all walks of this claim use: a slice that reads as a list, blocks known whole, worlds that differ above a block number only. No condition of its own; over any program.
-/
namespace Go.Proofs.Ytdhohaeopfgbmaa
open Go Go.RowKit

/-- The cells behind an address, as a list. -/
def Rd (w : World) (A : Option Addr) (xs : List Value) : Prop :=
  ∀ j x, xs[j]? = some x → ∃ ad, A = some ad ∧ w.cell? (ad.add j) = some x

theorem add_block (a : Addr) (n : Nat) : (a.add n).block = a.block := by unfold Addr.add; split <;> rfl
theorem add_add' (a : Addr) (i j : Nat) : (a.add i).add j = a.add (i + j) := by
  unfold Addr.add
  by_cases hi : i = 0 <;> by_cases hj : j = 0 <;> simp [hi, hj, Nat.add_assoc]
theorem add_flat (b i j : Nat) : (⟨b, i, none⟩ : Addr).add j = ⟨b, i + j, none⟩ := by
  unfold Addr.add; split <;> simp_all

section
variable {w w' : World} {A : Option Addr} {xs : List Value}
theorem Rd.nil (w : World) (A : Option Addr) : Rd w A [] := fun j x h => by simp at h
theorem Rd.at_ (h : Rd w A xs) {k : Nat} {x : Value} (hk : xs[k]? = some x) : ∃ ad, A = some ad ∧ w.cell? (ad.add k) = some x := h k x hk
theorem Rd.keep (h : Rd w A xs) (hk : ∀ p : Addr, p.block < w.heap.size → w'.cell? p = w.cell? p) : Rd w' A xs := fun j x hx => by
  obtain ⟨ad, e, hc⟩ := h j x hx
  exact ⟨ad, e, by rw [hk _ (block_lt_of_cell hc)]; exact hc⟩
theorem Rd.below (h : Rd w A xs) (hb : Below w.heap.size w w') : Rd w' A xs := h.keep fun _ hp => hb.cell hp
theorem Rd.alloc (h : Rd w A xs) (o : Obj) : Rd (w.alloc o) A xs := h.keep fun p hp => World.cell?_alloc_lt w o p hp
theorem Rd.drew (h : Rd w A xs) : Rd w.drew A xs := h
theorem Rd.drewN (h : Rd w A xs) (n : Nat) : Rd (w.drewN n) A xs := h
theorem Rd.row {b i : Nat} (h : ∀ j x, xs[j]? = some x → w.cell? ⟨b, i + j, none⟩ = some x) : Rd w (some ⟨b, i, none⟩) xs := fun j x hx =>
  ⟨_, rfl, by rw [add_flat]; exact h j x hx⟩
theorem Rd.new (w : World) (cs : Array Value) (t : TypeId) : Rd (w.alloc (.cells cs t)) (some ⟨w.heap.size, 0, none⟩) cs.toList := Rd.row fun j x hx => by
  rw [Nat.zero_add, World.cell?_alloc_new]; simpa using hx
theorem Rd.flat (h : Rd w A xs) (hne : 0 < xs.length) : ∃ b o, A = some ⟨b, o, none⟩ ∧ b < w.heap.size ∧ ∀ j x, xs[j]? = some x → w.cell? ⟨b, o + j, none⟩ = some x := by
  obtain ⟨⟨b, o, sp⟩, e, hc⟩ := h 0 _ (List.getElem?_eq_getElem hne)
  have h0 : (⟨b, o, sp⟩ : Addr).add 0 = ⟨b, o, sp⟩ := rfl
  rw [h0] at hc
  have hsp : sp = none := by
    unfold World.cell? at hc
    split at hc
    · cases sp with
      | none => rfl
      | some s => simp at hc
    · cases hc
  subst hsp
  refine ⟨b, o, e, block_lt_of_cell hc, fun j x hx => ?_⟩
  obtain ⟨ad, e', hc'⟩ := h j x hx
  rw [e] at e'; injection e' with e'; subst e'
  rw [add_flat] at hc'; exact hc'
theorem Rd.cut (h : Rd w A xs) {k cap : Nat} (hc : xs.length ≤ cap) (hk : k ≤ xs.length) : Rd w (if cap = k then A else A.map (·.add k)) (xs.drop k) := by
  intro j x hx
  rw [List.getElem?_drop] at hx
  obtain ⟨ad, rfl, hcell⟩ := h _ _ hx
  have hl := (List.getElem?_eq_some_iff.1 hx).1
  rw [if_neg (by omega)]
  exact ⟨_, rfl, by rw [add_add']; exact hcell⟩
theorem Rd.take (h : Rd w A xs) (k : Nat) : Rd w A (xs.take k) := fun j x hx => h j x (by
  rw [List.getElem?_take] at hx
  split at hx
  · exact hx
  · cases hx)
theorem Rd.set {g i p : Nat} {v : Value} (h : Rd w (some ⟨g, i, none⟩) xs) (hp : p < xs.length) : Rd (w.setCell ⟨g, i + p, none⟩ v) (some ⟨g, i, none⟩) (xs.set p v) := Rd.row fun j x hx => by
  obtain ⟨ad, e, hold⟩ := h p _ (List.getElem?_eq_getElem hp)
  injection e with e; subst e
  rw [add_flat] at hold
  by_cases hj : j = p
  · subst hj
    rw [List.getElem?_set_self hp] at hx
    rw [World.cell?_setCell_same _ _ _ hold]; exact hx
  · rw [List.getElem?_set_ne (fun e => hj e.symm)] at hx
    rw [World.cell?_setCell_other _ _ _ _ (by intro e; injection e with _ e2; omega)]
    obtain ⟨ad, e, hc⟩ := h j x hx
    injection e with e; subst e
    rw [add_flat] at hc; exact hc
theorem Rd.of_own {base : Nat} {e : TypeId} {size n c : Nat} (h : w.ownsRow base e size (.slice A n c) n xs) : Rd w A xs := fun j x hx => by
  have hl := (List.getElem?_eq_some_iff.1 hx).1
  have hn : 0 < n := by
    rcases Nat.eq_zero_or_pos n with h0 | h0
    · have := h.1; rw [h0, Nat.zero_mul] at this; omega
    · exact h0
  obtain ⟨g, cap, hv, _, hlt⟩ := h.form hn
  have hA : A = some ⟨g, 0, none⟩ := by injection hv
  subst hA
  exact ⟨_, rfl, h.cells (g := g) rfl j x hx⟩
end

theorem below_drewN {B : Nat} {a w : World} (h : Below B a w) (n : Nat) : Below B a (w.drewN n) := ⟨h.os, h.tape, h.output, h.size, h.block⟩
theorem below_setRow {B : Nat} {a w : World} (h : Below B a w) {g : Nat} (hg : B ≤ g) (cs : Array Value) : Below B a (w.setRow g cs) :=
  h.trans ⟨rfl, rfl, rfl, by simp, fun k hk => setRow_other w g k cs (by omega)⟩
theorem below_new {w w' : World} (o : Obj) (h : Below (w.heap.size + 1) (w.alloc o) w') : Below w.heap.size w w' :=
  ((Below.refl _ w).alloc (Nat.le_refl _) o).trans (h.mono (by omega))
theorem below_of {w x w' : World} {B n : Nat} (h : Below n x w') (hx : Below B w x) (hn : B ≤ n) : Below B w w' := hx.trans (h.mono hn)
theorem below_cells {w w' : World} {B : Nat} (hb : Below B w w') : (∀ b o, b < B → w'.cell? ⟨b, o, none⟩ = w.cell? ⟨b, o, none⟩) ∧ (∀ b o, b < B → w'.frozen? ⟨b, o, none⟩ = w.frozen? ⟨b, o, none⟩) :=
  ⟨fun b o h => hb.cell (p := ⟨b, o, none⟩) h, fun b o h => hb.frozen (p := ⟨b, o, none⟩) h⟩

/-- What was there has not turned, but for the blocks in S. -/
structure Frm (S : Nat → Prop) (w w' : World) : Prop where
  os : w'.os = w.os
  tape : w'.tape = w.tape
  output : w'.output = w.output
  size : w.heap.size ≤ w'.heap.size
  block : ∀ k, k < w.heap.size → ¬ S k → w'.heap[k]? = w.heap[k]?
/-- No block. -/
def no : Nat → Prop := fun _ => False
/-- One block. -/
def at1 (g : Nat) : Nat → Prop := fun k => k = g
section
variable {w w' a b c : World} {S T : Nat → Prop}
theorem Frm.refl (S : Nat → Prop) (w : World) : Frm S w w := ⟨rfl, rfl, rfl, Nat.le_refl _, fun _ _ _ => rfl⟩
theorem Frm.trans (h : Frm S a b) (k : Frm T b c) (hT : ∀ i, i < a.heap.size → T i → S i) : Frm S a c :=
  ⟨k.os.trans h.os, k.tape.trans h.tape, k.output.trans h.output, Nat.le_trans h.size k.size, fun i hi hs => (k.block i (Nat.lt_of_lt_of_le hi h.size) (fun t => hs (hT i hi t))).trans (h.block i hi hs)⟩
theorem Frm.then_ (h : Frm S a b) (k : Frm S b c) : Frm S a c := h.trans k fun _ _ h => h
theorem Frm.mono (h : Frm S a b) (hS : ∀ i, i < a.heap.size → S i → T i) : Frm T a b := ⟨h.os, h.tape, h.output, h.size, fun i hi hs => h.block i hi fun t => hs (hS i hi t)⟩
theorem Frm.of_below (h : Below a.heap.size a b) : Frm S a b := ⟨h.os, h.tape, h.output, h.size, fun i hi _ => h.block i hi⟩
theorem Frm.below {B : Nat} (h : Frm S a b) (hB : B ≤ a.heap.size) (hS : ∀ i, S i → B ≤ i) : Below B a b :=
  ⟨h.os, h.tape, h.output, h.size, fun i hi => h.block i (by omega) fun t => by have := hS i t; omega⟩
theorem Frm.quiet (h : Below a.heap.size a b) (k : Frm S b c) : Frm S a c := (Frm.of_below h).then_ k
theorem Frm.step (h : Frm S a b) (k : Below b.heap.size b c) : Frm S a c := h.then_ (Frm.of_below k)
theorem Frm.alloc (h : Frm S a b) (o : Obj) : Frm S a (b.alloc o) := h.step ((Below.refl _ _).alloc (Nat.le_refl _) o)
theorem Frm.drew (h : Frm S a b) : Frm S a b.drew := ⟨h.os, h.tape, h.output, h.size, h.block⟩
theorem Frm.drewN (h : Frm S a b) (n : Nat) : Frm S a (b.drewN n) := ⟨h.os, h.tape, h.output, h.size, h.block⟩
theorem Frm.setCell (h : Frm S a b) {p : Addr} (hp : p.block < a.heap.size → S p.block) (u : Value) : Frm S a (b.setCell p u) :=
  h.trans (T := at1 p.block) ⟨rfl, rfl, rfl, by simp [World.setCell], fun k _ hk => Below.heap_setCell _ _ _ _ hk⟩ fun i hi ht => by
    unfold at1 at ht; subst ht; exact hp hi
theorem Frm.setRow (h : Frm S a b) {g : Nat} (hp : g < a.heap.size → S g) (cs : Array Value) : Frm S a (b.setRow g cs) :=
  h.trans (T := at1 g) ⟨rfl, rfl, rfl, by simp, fun k _ hk => setRow_other _ _ _ _ hk⟩ fun i hi ht => by
    unfold at1 at ht; subst ht; exact hp hi
theorem Frm.grown (h : Frm S a b) {row : Option Nat} (hg : b.grownBy c row) (hr : ∀ k, row = some k → k < a.heap.size → S k) : Frm S a c :=
  h.trans (T := fun k => row = some k) ⟨hg.os, hg.tape, hg.output, hg.size, fun i hi hs => hg.block i hi fun e => hs e.symm⟩ fun i hi ht => hr i ht hi
theorem Frm.cell (h : Frm S a b) {p : Addr} (hp : p.block < a.heap.size) (hs : ¬ S p.block) : b.cell? p = a.cell? p := World.cell?_of_block (w := a) (h.block p.block hp hs)
theorem Frm.frozen (h : Frm S a b) {p : Addr} (hp : p.block < a.heap.size) (hs : ¬ S p.block) : b.frozen? p = a.frozen? p := World.frozen?_of_block (w := a) (h.block p.block hp hs)
theorem below_frm {B : Nat} (h : Below B a b) (k : Frm S b c) (hB : B ≤ a.heap.size) (hS : ∀ i, S i → B ≤ i) : Below B a c := below_of (k.below (Nat.le_trans hB h.size) hS) h (Nat.le_refl _)
theorem Rd.frm {A : Option Addr} {xs : List Value} (h : Rd w A xs) (k : Frm S w w') (hs : ∀ ad, A = some ad → ¬ S ad.block) : Rd w' A xs := fun j x hx => by
  obtain ⟨ad, e, hc⟩ := h j x hx
  have hb := block_lt_of_cell hc
  exact ⟨ad, e, by rw [k.cell hb (by rw [add_block]; exact hs ad e)]; exact hc⟩
theorem own_frm {base : Nat} {e : TypeId} {size n : Nat} {v : Value} {xs : List Value} (h : w.ownsRow base e size v n xs) (k : Frm S w w') (hs : ∀ g, v.ownBlock = some g → ¬ S g) : w'.ownsRow base e size v n xs := by
  refine ⟨h.1, ?_⟩
  rcases h.2 with h0 | ⟨g, cap, cur, rfl, hb, hh, r⟩
  · exact .inl h0
  · exact .inr ⟨g, cap, cur, rfl, hb, (k.block g (lt_of_block hh) (hs g rfl)).trans hh, r⟩
theorem own_base {base base' : Nat} {e : TypeId} {size n : Nat} {v : Value} {xs : List Value} (h : w.ownsRow base e size v n xs) (hb : base' ≤ base) : w.ownsRow base' e size v n xs := by
  refine ⟨h.1, ?_⟩
  rcases h.2 with h0 | ⟨g, cap, cur, rfl, hg, r⟩
  · exact .inl h0
  · exact .inr ⟨g, cap, cur, rfl, by omega, r⟩
end

theorem own_form {w : World} {base : Nat} {e : TypeId} {size n : Nat} {v : Value} {xs : List Value} (h : w.ownsRow base e size v n xs) : ∃ A c, v = .slice A n c ∧ n ≤ c := by
  rcases h.2 with ⟨rfl, rfl⟩ | ⟨g, cap, cur, rfl, _, _, h, _⟩
  · exact ⟨_, _, rfl, Nat.le_refl _⟩
  · exact ⟨_, _, rfl, h⟩

/-- A block known whole, none of its cells frozen. -/
def Blk (w : World) (g : Nat) (t : TypeId) (cs : Array Value) : Prop := w.heap[g]? = some (.cells cs t (0, 0))
section
variable {w w' : World} {g : Nat} {t : TypeId} {cs : Array Value} {S : Nat → Prop}
theorem Blk.lt (h : Blk w g t cs) : g < w.heap.size := lt_of_block h
theorem Blk.cell (h : Blk w g t cs) (i : Nat) : w.cell? ⟨g, i, none⟩ = cs[i]? := cell_of_row w g i cs t (0, 0) h
theorem Blk.free (h : Blk w g t cs) (i : Nat) : w.frozen? ⟨g, i, none⟩ = false := frozen_of_row w g i cs t h
theorem Blk.new (w : World) (t : TypeId) (cs : Array Value) : Blk (w.alloc (.cells cs t)) w.heap.size t cs := heap_alloc_new w _
theorem Blk.frm (h : Blk w g t cs) (k : Frm S w w') (hs : ¬ S g) : Blk w' g t cs := (k.block g h.lt hs).trans h
theorem Blk.below (h : Blk w g t cs) (k : Below w.heap.size w w') : Blk w' g t cs := (k.block g h.lt).trans h
theorem Blk.alloc (h : Blk w g t cs) (o : Obj) : Blk (w.alloc o) g t cs := (Below.heap_alloc w o g h.lt).trans h
theorem Blk.drew (h : Blk w g t cs) : Blk w.drew g t cs := h
theorem Blk.drewN (h : Blk w g t cs) (n : Nat) : Blk (w.drewN n) g t cs := h
theorem Blk.set_ (h : Blk w g t cs) (i : Nat) (u : Value) : Blk (w.setCell ⟨g, i, none⟩ u) g t (cs.setIfInBounds i u) := heap_setCell_same w g i cs t u h
theorem Blk.far (h : Blk w g t cs) {p : Addr} (hp : g ≠ p.block) (u : Value) : Blk (w.setCell p u) g t cs := (heap_setCell_other w p g u hp).trans h
theorem Blk.ne_ {g' : Nat} {t' : TypeId} {cs' : Array Value} (h : Blk w g t cs) (h' : Blk w g' t' cs') (hne : t ≠ t') : g ≠ g' := by
  rintro rfl
  unfold Blk at h h'
  rw [h] at h'
  injection h' with h'
  injection h' with _ ht
  exact hne ht
theorem Blk.own_ne {base : Nat} {e : TypeId} {size n : Nat} {v : Value} {xs : List Value} (h : Blk w g t cs) (ho : w.ownsRow base e size v n xs) (hne : e ≠ t) : v.ownBlock ≠ some g := by
  rcases ho.2 with ⟨rfl, _⟩ | ⟨g', cap, cur, rfl, _, hh, _⟩
  · simp [Value.ownBlock]
  · intro he
    have : g' = g := by simpa [Value.ownBlock] using he
    subst this
    exact Blk.ne_ (t := e) hh h hne rfl
end

/-- A cell behind a store, whatever the world. -/
theorem cell_set_if (w : World) (b i b' j : Nat) (v : Value) : (w.setCell ⟨b, i, none⟩ v).cell? ⟨b', j, none⟩ = if b = b' ∧ i = j then (w.cell? ⟨b, i, none⟩).map (fun _ => v) else w.cell? ⟨b', j, none⟩ := by
  by_cases h : b = b' ∧ i = j
  · obtain ⟨rfl, rfl⟩ := h
    rw [if_pos ⟨rfl, rfl⟩]
    cases hc : w.cell? ⟨b, i, none⟩ with
    | none =>
      simp only [World.cell?, World.setCell, Array.getElem?_modify, if_true] at hc ⊢
      cases hh : w.heap[b]? with
      | none => simp
      | some o =>
        cases o <;> simp [hh] at hc ⊢
        omega
    | some u => rw [World.cell?_setCell_same _ _ _ hc]; rfl
  · rw [if_neg h, World.cell?_setCell_other]
    intro e; injection e with e1 e2; exact h ⟨e1, e2⟩

/-- The bytes of a string. -/
def bts (s : ByteArray) : List UInt8 := s.data.toList
/-- A string of these bytes. -/
def bs (l : List UInt8) : ByteArray := ⟨l.toArray⟩
abbrev str (l : List UInt8) : Value := .string (bs l)
theorem bts_bs (l : List UInt8) : bts (bs l) = l := rfl
theorem bs_bts (s : ByteArray) : bs (bts s) = s := by cases s; rfl
theorem bts_inj {s t : ByteArray} (h : bts s = bts t) : s = t := by rw [← bs_bts s, h, bs_bts]
theorem bts_append (s t : ByteArray) : bts (s ++ t) = bts s ++ bts t := by simp [bts]
theorem bs_append (s t : ByteArray) : s ++ t = bs (bts s ++ bts t) := by rw [← bts_append, bs_bts]
theorem bs_size (l : List UInt8) : (bs l).size = l.length := by simp [bs, ByteArray.size]
theorem str_beq (s t : ByteArray) : (s.toList == t.toList) = decide (bts s = bts t) := by
  rw [ByteArray.toList_eq, ByteArray.toList_eq]
  by_cases h : bts s = bts t
  · simp [h, show s.data.toList = t.data.toList from h]
  · simp only [h, decide_false]
    rw [beq_eq_false_iff_ne]; exact h
theorem bts_extract (s : ByteArray) (a e : Nat) : bts (s.extract a e) = ((bts s).take e).drop a := by
  simp [bts, ByteArray.data_extract, Array.toList_extract, List.take_drop]
  by_cases h : a ≤ e
  · congr 1; congr 1; omega
  · rw [List.drop_eq_nil_of_le, List.drop_eq_nil_of_le] <;> simp <;> omega
theorem bts_len (s : ByteArray) : (bts s).length = s.size := by
  cases s; simp [bts, ByteArray.size]

/-- The cells of a slice of bytes. -/
def u8s (l : List UInt8) : List Value := l.map fun b => .int .u8 (b.toNat : Int)
theorem u8s_len (l : List UInt8) : (u8s l).length = l.length := by simp [u8s]
theorem u8s_one (l : List UInt8) : ∀ u ∈ u8s l, u.oneCell' = true := by
  intro u hu; simp [u8s] at hu; obtain ⟨b, _, rfl⟩ := hu; rfl

theorem u8s_set (l : List UInt8) (p : Nat) (v : UInt8) : (u8s l).set p (.int .u8 (v.toNat : Int)) = u8s (l.set p v) := by simp [u8s, List.map_set]
theorem cell_u8 {w : World} {g : Nat} {l : List UInt8} {p : Nat} {b : UInt8} (hr : Rd w (some ⟨g, 0, none⟩) (u8s l)) (hb : l[p]? = some b) : w.cell? ⟨g, p, none⟩ = some (.int .u8 (b.toNat : Int)) := by
  obtain ⟨ad, e, hc⟩ := hr p (.int .u8 (b.toNat : Int)) (by simp [u8s, hb])
  injection e with e; subst e
  rw [add_flat, Nat.zero_add] at hc; exact hc

section
variable {P : Program}
theorem run_loadCells_rd (w : World) (a : Addr) (xs : List Value) (hr : Rd w (some a) xs) : (loadCells a xs.length).run P w = .ok xs.toArray w :=
  run_loadCells_list (P := P) w a xs fun j v hv => by
    obtain ⟨ad, e, hc⟩ := hr j v hv
    injection e with e
    subst e; exact hc
theorem foldl_push_u8 : ∀ (ns : List Int) (s : ByteArray), ns.foldl (fun r n => r.push (UInt8.ofNat n.toNat)) s = ⟨s.data ++ (ns.map fun n => UInt8.ofNat n.toNat).toArray⟩
  | [], s => by simp
  | n :: ns, s => by
    rw [List.foldl_cons, foldl_push_u8 ns]
    simp [ByteArray.push]
theorem run_bytes_str (w : World) (src dst e : TypeId) (hs : P.underlying src = some (.slice e)) (he : P.underlying e = some (.int .u8)) (hd : P.underlying dst = some .string)
    (A : Option Addr) (n c : Nat) (l : List UInt8) (hr : Rd w A (u8s l)) (hn : l.length = n) : (convert src dst (.slice A n c)).run P w = .ok (str l) w := by
  rw [run_convert_bytes_string w src dst e A n c hs he hd]
  cases A with
  | none =>
    have hl : l = [] := by
      cases l with
      | nil => rfl
      | cons b l =>
        obtain ⟨ad, e, _⟩ := hr 0 (.int .u8 (b.toNat : Int)) (by simp [u8s])
        cases e
    subst hl
    simp [Conv.bytesToString, str, bs]; rfl
  | some a =>
    have hl : (loadCells a n).run P w = .ok ((l.map fun b => (b.toNat : Int)).map (Value.int .u8)).toArray w := by
      have := run_loadCells_rd (P := P) w a (u8s l) hr
      rw [u8s_len, hn] at this
      rw [this]; simp [u8s]
    rw [run_bytesToString w a n c _ hl, foldl_push_u8]
    simp [ByteArray.empty, ByteArray.emptyWithCapacity, str, bs, Function.comp_def]
    rfl
/-- 'string(b)', b any slice of bytes that reads as l. -/
theorem wpList_bytes_str {ops : Array Oper} {rest : List Oper} {o : Oper} {a : Act} {w : World} {Q : Exit → Act → World → Prop} (hgd : o.guard = none) (src dst : TypeId) (x : Operand) (ho : o.op = .convert src dst x)
    (e : TypeId) (hs : P.underlying src = some (.slice e)) (he : P.underlying e = some (.int .u8)) (hd : P.underlying dst = some .string)
    (A : Option Addr) (n c : Nat) (l : List UInt8) (hx : a.eval x = .slice A n c) (hr : Rd w A (u8s l)) (hn : l.length = n)
    (h : wpList P ops Q rest (a.put o.dst (str l)) w) : wpList P ops Q (o :: rest) a w :=
  wpList_plain hgd fun K hK => by
    unfold Oper.wp execOp
    simp only [ho, hx, Sem.run_bind, run_bytes_str w src dst e hs he hd A n c l hr hn, Result.andThen_ok, Sem.run_pure]
    exact hK _ _ h

/-- '[]byte(s)': a new row of the bytes of s, none of them frozen. -/
theorem wpList_str_bytes {ops : Array Oper} {rest : List Oper} {o : Oper} {a : Act} {w : World} {Q : Exit → Act → World → Prop} (hgd : o.guard = none) (src dst : TypeId) (x : Operand) (ho : o.op = .convert src dst x)
    (e : TypeId) (hs : P.underlying src = some .string) (hd : P.underlying dst = some (.slice e)) (he : P.underlying e = some (.int .u8)) (s : ByteArray) (hx : a.eval x = .string s)
    (h : ∀ c w', s.size ≤ c → Below w.heap.size w w' → w'.heap.size = w.heap.size + 1 → Rd w' (some ⟨w.heap.size, 0, none⟩) (u8s (bts s)) → (∀ j, j < s.size → w'.frozen? ⟨w.heap.size, j, none⟩ = false) →
      wpList P ops Q rest (a.put o.dst (.slice (some ⟨w.heap.size, 0, none⟩) s.size c)) w') : wpList P ops Q (o :: rest) a w :=
  wpList_plain hgd fun K hK => by
    unfold Oper.wp execOp
    simp only [ho, hx, Sem.run_bind, run_bytes_of_string w src dst e s hs hd he, Result.andThen_ok, Sem.run_pure]
    refine hK _ _ (h _ _ (grownCap_ge w s.size 0 e) (((Below.refl _ _).drew).alloc (Nat.le_refl _) _) (by simp) ?_ ?_)
    · refine Rd.row fun j x hx => ?_
      have hj : j < s.data.size := by
        have := (List.getElem?_eq_some_iff.1 hx).1
        simpa [u8s, bts] using this
      have hc : (w.drew.alloc (.cells (bytesRow s (grownCap w s.size 0 e)) e ((bytesRow s (grownCap w s.size 0 e)).size, (bytesRow s (grownCap w s.size 0 e)).size + 1))).cell? ⟨w.heap.size, 0 + j, none⟩ = (bytesRow s (grownCap w s.size 0 e))[j]? := by
        rw [cell_of_row _ w.heap.size (0 + j) _ _ _ (heap_alloc_new w.drew _), Nat.zero_add]
      rw [hc, bytesRow_at s _ j hj]
      simp [u8s, bts] at hx
      obtain ⟨b, hb, rfl⟩ := hx
      simp [Array.getElem?_eq_getElem hj] at hb
      rw [hb]
    · intro j hj
      have hh : (w.drew.alloc (.cells (bytesRow s (grownCap w s.size 0 e)) e ((bytesRow s (grownCap w s.size 0 e)).size, (bytesRow s (grownCap w s.size 0 e)).size + 1))).heap[w.heap.size]? = some _ := heap_alloc_new w.drew _
      have hsz : s.size ≤ (bytesRow s (grownCap w s.size 0 e)).size := by
        unfold bytesRow; rw [Array.size_append, Array.size_map]; exact Nat.le_add_right s.data.size _
      simp only [World.frozen?, hh]
      simp; omega

/-- 'out = append(out, src...)', out nil or the call's own, src any slice that reads as news. -/
theorem wpList_app {w : World} {ops : Array Oper} {rest : List Oper} {o : Oper} {a : Act} {Q : Exit → Act → World → Prop} (hgd : o.guard = none) (s x : Operand) (t : TypeId)
    (ho : o.op = .call { callee := .builtin .append, args := #[s, x], argTypes := #[t, t] })
    (base : Nat) (e : TypeId) (i : TypeInfo) (z : Value) (size bytes : Nat) (ht : P.underlying t = some (.slice e)) (hi : P.info? e = some i) (hz : i.zero = some z)
    (hsize : i.size = size) (hby : i.bytes = bytes) (hzs : z.cells.size = size) (hsz : 0 < size)
    (v : Value) (n : Nat) (xs : List Value) (hs : a.eval s = v) (hown : w.ownsRow base e size v n xs)
    (A : Option Addr) (m c : Nat) (news : List Value) (hx : a.eval x = .slice A m c) (hr : Rd w A news) (hl : news.length = m * size) (h1 : ∀ u ∈ news, u.oneCell' = true)
    (h63 : n + m ≤ maxLen) (hbytes : (n + m) * bytes ≤ 140737488355328) (hbase : base ≤ w.heap.size)
    (h : ∀ v' w', w'.ownsRow base e size v' (n + m) (xs ++ news) → w.grownBy w' v.ownBlock → Below base w w' → (v'.ownBlock = v.ownBlock ∨ v'.ownBlock = some w.heap.size) → wpList P ops Q rest (a.put o.dst v') w') : wpList P ops Q (o :: rest) a w := by
  have hbel : ∀ w', w.grownBy w' v.ownBlock → Below base w w' := fun w' hg => (Below.refl base w).grown hg hbase fun k hk => (hown.lt k hk).1
  cases A with
  | none =>
    have hn : news = [] := by
      cases news with
      | nil => rfl
      | cons b l =>
        obtain ⟨ad, e, _⟩ := hr 0 b (by simp)
        cases e
    subst hn
    have hm : m = 0 := by
      have : m * size = 0 := by simpa using hl.symm
      rcases Nat.mul_eq_zero.1 this with h0 | h0
      · exact h0
      · omega
    subst hm
    have hrun : (Builtin.append_ #[t, t] o.type #[v, .slice none 0 c]).run P w = .ok v w := by
      rcases hown.2 with ⟨rfl, rfl⟩ | ⟨g, cap, cur, rfl, _, _, hnc, _⟩
      · simp [Builtin.append_, run_underlying ht, sizeOf, typeInfo, hi, Builtin.lenOf, Builtin.firstCells]
      · simp [Builtin.append_, run_underlying ht, sizeOf, typeInfo, hi, Builtin.lenOf, Builtin.firstCells, hnc, storeCells]
    refine wpList_plain hgd fun K hK => ?_
    unfold Oper.wp execOp
    simp only [ho, resolve, invoke, builtin, Sem.run_bind, Sem.run_pure, Result.andThen_ok, List.map_toArray, List.map_cons, List.map_nil, hs, hx, hrun]
    exact hK _ _ (h v w (by simpa using hown) (World.grownBy.refl _ _) (Below.refl _ _) (.inl rfl))
  | some ad =>
    refine wpList_append_own_at w hgd s x t ho base e i z size bytes ht hi hz hsize hby hzs hsz v n xs hs hown ad m c news hx hl (fun j u hu => ?_) h1 h63 hbytes hbase fun v' w' h2 h3 _ h5 => h v' w' h2 h3 (hbel w' h3) h5
    obtain ⟨ad', e, hc⟩ := hr j u hu
    injection e with e
    subst e; exact hc
end

theorem one_int (k : IntKind) (n : Int) : ∀ u ∈ [Value.int k n], u.oneCell' = true := by intro u hu; simp at hu; subst hu; rfl
theorem one_str (s : ByteArray) : ∀ u ∈ [Value.string s], u.oneCell' = true := by intro u hu; simp at hu; subst hu; rfl
theorem Rd.one (w : World) (v : Value) (t : TypeId) : Rd (w.alloc (.cells #[v] t)) (some ⟨w.heap.size, 0, none⟩) [v] := by simpa using Rd.new w #[v] t
/-- A number in n bytes, the lowest first. -/
def lowB : Nat → Nat → List UInt8
  | _, 0 => []
  | v, n + 1 => UInt8.ofNat v :: lowB (v / 256) n
theorem lowB_len (v n : Nat) : (lowB v n).length = n := by
  induction n generalizing v with
  | zero => rfl
  | succ n ih => simp [lowB, ih]
theorem lowB_snoc (v n : Nat) : lowB v (n + 1) = lowB v n ++ [UInt8.ofNat (v / 256 ^ n)] := by
  induction n generalizing v with
  | zero => simp [lowB]
  | succ n ih =>
    rw [lowB, ih (v / 256), lowB]
    simp [Nat.div_div_eq_div_mul, Nat.pow_succ, Nat.mul_comm]

theorem ret_int {k : IntKind} {a b : Int} (h : a = b) : Ending.returned (.int k a) = .returned (.int k b) := by rw [h]
theorem ret_bool {a b : Bool} (h : a = b) : Ending.returned (.bool a) = .returned (.bool b) := by rw [h]
theorem int_eq {k : IntKind} {a b : Int} (h : a = b) : Value.int k a = .int k b := by rw [h]

theorem take_snoc (s : ByteArray) (k : Nat) (h : k < s.size) : s.data.toList.take (k + 1) = s.data.toList.take k ++ [s[k]] := by
  rw [List.take_succ_eq_append_getElem (by simpa using h)]; rfl
theorem take_all (s : ByteArray) : s.data.toList.take s.size = s.data.toList := List.take_of_length_le (by simp)

end Go.Proofs.Ytdhohaeopfgbmaa

/-
  The row's last step where the world behind the call is known by 'Below' alone: every argument reads as it did, whatever its type; and what arguments of some types are, opened. No condition of its own.
-/
namespace Go.Proofs.Ytdhohaeopfgbmaa
open Go Go.RowKit Go.WideShapes Go.ChangeShapes

section
variable {H : Type} {enc : TypeId × Value → H} {P : Program}

theorem trodAll_below (hl : laidOutB P = true) {W W' : World} {sp : Nat → Bool} (hb : Below W.heap.size W W') : ∀ (ts : List TypeId) (vs : List Value) (ds : List (DataW H)) (ps : List MemPlace),
    (∀ t ∈ ts, P.readableRec t = true ∧ t < P.types.size) → DataW.TrodAll enc P W 0 (fun _ => true) true ts vs ds ps → (∀ x ∈ ps, x.block < W.heap.size) → (∀ x ∈ ps, sp x.block = true) →
    DataW.TrodAll enc P W' 0 sp true ts vs ds ps
  | [], vs, ds, ps, _, h, _, _ => by
    obtain ⟨rfl, rfl, rfl⟩ := trodAll_nil h; rfl
  | t :: ts, vs, ds, ps, ht, h, hlt, hsp => by
    obtain ⟨v, vs', d, ds', p, q, rfl, rfl, rfl, h0, h1⟩ := trodAll_cons h
    obtain ⟨hr, hrow⟩ := ht t (by simp)
    exact trodAll_cons_mk (WideElems.Trod_stays hl hr hrow h0 (fun x hx => hb.same (hlt x (by simp [hx]))) (fun x hx => hsp x (by simp [hx])))
      (trodAll_below hl hb ts vs' ds' q (fun t ht' => ht t (by simp [ht'])) h1 (fun x hx => hlt x (by simp [hx])) (fun x hx => hsp x (by simp [hx])))

/-- A law's end: true was returned, and nothing that was there has turned. -/
theorem law_post (hl : laidOutB P = true) {f : Func} {s : ChangeSpec} {W W' : World} {args : Array Value} {ds gs : List (DataW H)} {before : List MemPlace} {tb : TypeId}
    (hts : f.params.toList.all (fun t => P.readableRec t && decide (t < P.types.size)) = true) (hrt : f.resultTypes = #[tb]) (htb : P.underlying tb = some .bool) (hvars : s.vars = [])
    (hspec : s.fn H (ds ++ gs) = { results := [.lit (.bool true)], args := ds, vars := gs })
    (hW : DataW.Whole enc P f.params.toList s.vars false W args.toList ds gs before) (hb : Below W.heap.size W W') : s.post enc P f false true false false W args (.bool true) W' := by
  have hlt : ∀ p ∈ before, p.block < W.heap.size := fun p hp => hW.lt p hp
  obtain ⟨p, q, hA, hV, rfl, hz, hn⟩ := id hW
  have hts' : ∀ t ∈ f.params.toList, P.readableRec t = true ∧ t < P.types.size := fun t ht => by
    have := List.all_eq_true.1 hts t ht
    simpa using this
  refine ⟨ds, gs, p ++ q, [], p, q, hW, ?_, ?_, ?_, hb.frame _, fun h => by cases h⟩
  · rw [hrt, hspec]
    exact trodAll_mk1 (shut_bool htb true)
  · rw [hspec]
    exact trodAll_below hl hb _ _ _ _ hts' hA (fun x hx => hlt x (by simp [hx])) (fun x hx => by simpa using hlt x (by simp [hx]))
  · rw [hspec]
    rw [hvars] at hV ⊢
    cases gs with
    | nil => exact hV
    | cons g gs => simp [DataW.TrodVars] at hV

variable {w : World} {base : Nat} {spare : Nat → Bool} {held : Bool} {r : Reach}
/-- A slice of strings. -/
theorem open_strs {t e : TypeId} {v : Value} {d : DataW H} {p : List MemPlace} (ht : P.underlying t = some (.slice e)) (he : P.underlying e = some .string) (hc : P.cellsOf e = 1)
    (hv : Value.okWide P w r base t v) (h : DataW.Trod enc P w 0 spare held t v d p) :
    ∃ (A : Option Addr) (n c : Nat) (ss : List ByteArray), v = .slice A n c ∧ Rd w A (ss.map Value.string) ∧ ss.length = n ∧ n ≤ c ∧ c ≤ maxLen ∧ (∀ s ∈ ss, s.size ≤ maxLen) := by
  obtain ⟨a0, len, cap, rfl⟩ := okWide_slice ht hv
  obtain ⟨fuel, hf⟩ := h
  rcases open_strings ht he hc hf with ⟨hcs, _⟩ | ⟨a, len', cap', ss, hcs, _, hl, hm, hz, _, hcell, hws⟩
  · simp [Value.cells] at hcs
    obtain ⟨rfl, rfl, rfl⟩ := hcs
    exact ⟨none, 0, 0, [], rfl, Rd.nil _ _, rfl, Nat.le_refl _, by unfold maxLen; omega, by simp⟩
  · simp [Value.cells] at hcs
    obtain ⟨rfl, rfl, rfl⟩ := hcs
    have hle : len ≤ ss.length := by rw [hz]; split <;> omega
    refine ⟨some a, len, cap, ss.take len, rfl, ?_, by rw [List.length_take]; omega, hl, hm, fun s hs => hws s (List.mem_of_mem_take hs)⟩
    intro j x hx
    rw [List.getElem?_map, Option.map_eq_some_iff] at hx
    obtain ⟨s, hs, rfl⟩ := hx
    rw [List.getElem?_take] at hs
    split at hs
    · rename_i hj
      refine ⟨a, rfl, ?_⟩
      rw [hcell j (by omega), List.getD_eq_getElem?_getD, hs]; rfl
    · cases hs
/-- A slice of integers of one kind. -/
theorem open_nums {t e : TypeId} {k : IntKind} {v : Value} {d : DataW H} {p : List MemPlace} (ht : P.underlying t = some (.slice e)) (he : P.underlying e = some (.int k)) (hc : P.cellsOf e = 1)
    (hv : Value.okWide P w r base t v) (h : DataW.Trod enc P w 0 spare held t v d p) :
    ∃ (A : Option Addr) (n c : Nat) (zs : List Int), v = .slice A n c ∧ Rd w A (zs.map (Value.int k)) ∧ zs.length = n ∧ n ≤ c ∧ c ≤ maxLen ∧ (∀ z ∈ zs, (Lit.int k z).wf = true) := by
  obtain ⟨a0, len, cap, rfl⟩ := okWide_slice ht hv
  obtain ⟨fuel, hf⟩ := h
  rcases open_ints ht he hc hf with ⟨hcs, _⟩ | ⟨a, len', cap', zs, hcs, _, hl, hm, hz, _, hcell, hws⟩
  · simp [Value.cells] at hcs
    obtain ⟨rfl, rfl, rfl⟩ := hcs
    exact ⟨none, 0, 0, [], rfl, Rd.nil _ _, rfl, Nat.le_refl _, by unfold maxLen; omega, by simp⟩
  · simp [Value.cells] at hcs
    obtain ⟨rfl, rfl, rfl⟩ := hcs
    have hle : len ≤ zs.length := by rw [hz]; split <;> omega
    refine ⟨some a, len, cap, zs.take len, rfl, ?_, by rw [List.length_take]; omega, hl, hm, fun s hs => hws s (List.mem_of_mem_take hs)⟩
    intro j x hx
    rw [List.getElem?_map, Option.map_eq_some_iff] at hx
    obtain ⟨s, hs, rfl⟩ := hx
    rw [List.getElem?_take] at hs
    split at hs
    · rename_i hj
      refine ⟨a, rfl, ?_⟩
      rw [hcell j (by omega), List.getD_eq_getElem?_getD, hs]; rfl
    · cases hs
theorem wf_i64 {z : Int} (h : (Lit.int .i64 z).wf = true) : -9223372036854775808 ≤ z ∧ z ≤ 9223372036854775807 := by
  simp [Lit.wf, IntKind.min, IntKind.max, IntKind.bits, IntKind.signed] at h; omega
end

theorem Try.ownKnob0 : ownKnob Try.prog.godebug = none := by kernel_rfl
theorem Try.laid0 : laidOutB Try.prog = true := by kernel_rfl
end Go.Proofs.Ytdhohaeopfgbmaa

/-
  Arguments that are slices of structs of one-cell fields, opened. No condition of its own.
-/
namespace Go.Proofs.Ytdhohaeopfgbmaa
open Go Go.RowKit Go.WideShapes Go.ChangeShapes Go.Deep

theorem flat_inv {α : Type} (cells : α → List Value) (k : Nat) (hk : ∀ x, (cells x).length = k) : ∀ (xs : List α) (j : Nat) (v : Value), (xs.flatMap cells)[j]? = some v → ∃ i x r, xs[i]? = some x ∧ j = i * k + r ∧ (cells x)[r]? = some v
  | [], j, v, h => by simp at h
  | x :: xs, j, v, h => by
    rw [List.flatMap_cons] at h
    by_cases hj : j < k
    · rw [List.getElem?_append_left (by rw [hk]; exact hj)] at h
      exact ⟨0, x, j, rfl, by omega, h⟩
    · rw [List.getElem?_append_right (by rw [hk]; omega), hk] at h
      obtain ⟨i, y, r, h1, h2, h3⟩ := flat_inv cells k hk xs (j - k) v h
      exact ⟨i + 1, y, r, by simpa using h1, by rw [Nat.add_mul]; omega, h3⟩

section
variable {H : Type} {enc : TypeId × Value → H} {P : Program} {w : World} {base : Nat} {spare : Nat → Bool} {held : Bool} {r : Reach}
theorem open_recs {α : Type} [Inhabited α] (cells : α → List Value) (ok : α → Prop) {t e : TypeId} {fs : Array Field} {v : Value} {d : DataW H} {p : List MemPlace} (ht : P.underlying t = some (.slice e)) (he : P.underlying e = some (.struct fs))
    (hone : oneCellFields P fs = true) (hC : P.cellsOf e = fs.size) (hlen : ∀ x, (cells x).length = fs.size)
    (dec : ∀ cs : Nat → Value, (∀ j f, fs[j]? = some f → ∃ m y, DataW.trod enc P w 0 spare held m f.type [cs j] = some y) → ∃ x, ok x ∧ ∀ j u, (cells x)[j]? = some u → cs j = u)
    (hv : Value.okWide P w r base t v) (h : DataW.Trod enc P w 0 spare held t v d p) :
    ∃ (A : Option Addr) (n c : Nat) (xs : List α), v = .slice A n c ∧ Rd w A (xs.flatMap cells) ∧ xs.length = n ∧ n ≤ c ∧ c ≤ maxLen ∧ ∀ x ∈ xs, ok x := by
  obtain ⟨a0, len0, cap0, rfl⟩ := okWide_slice ht hv
  obtain ⟨fuel, hf⟩ := h
  rcases open_slice ht hf with ⟨hcs, _⟩ | ⟨a, len, cap, m, n, D, Pl, hcs, _, hl, hm, hmm, _, hi⟩
  · simp [Value.cells] at hcs
    obtain ⟨rfl, rfl, rfl⟩ := hcs
    exact ⟨none, 0, 0, [], rfl, Rd.nil _ _, rfl, Nat.le_refl _, by unfold maxLen; omega, by simp⟩
  · simp [Value.cells] at hcs
    obtain ⟨rfl, rfl, rfl⟩ := hcs
    have hlm : len0 ≤ m := by rw [hmm]; split <;> omega
    have hx : ∀ i, i < len0 → ∃ x : α, ok x ∧ ∀ j u, (cells x)[j]? = some u → w.cell? (a.add (i * fs.size + j)) = some u := by
      intro i hil
      obtain ⟨cs', hc, ht'⟩ := hi i (by omega)
      rw [hC] at hc
      obtain ⟨_, hcl, hat⟩ := World.cells?_some hc
      obtain ⟨ys, n', _, _, _, _, hg⟩ := DataW.trod_struct he ht'
      obtain ⟨x, hok, hxc⟩ := dec (fun j => cs'.getD j default) (fun j f hj => by
        obtain ⟨ho, hk⟩ := hone_of hone j f hj
        have hjl : j < fs.size := (Array.getElem?_eq_some_iff.1 hj).1
        have h1 := hg j f hj
        rw [ho, hk] at h1
        have e1 : (cs'.drop j).take 1 = [cs'.getD j default] := by
          rw [List.drop_eq_getElem_cons (by omega), List.getD_eq_getElem?_getD, List.getElem?_eq_getElem (by omega)]
          rfl
        rw [e1] at h1
        obtain ⟨_, hys, _⟩ := DataW.trod_struct he ht'
        have hyl : ys[j]? = some (ys[j]'(by omega)) := List.getElem?_eq_getElem (by omega)
        exact ⟨n', _, h1.trans hyl⟩)
      refine ⟨x, hok, fun j u hu => ?_⟩
      have hjl : j < fs.size := by have := (List.getElem?_eq_some_iff.1 hu).1; rw [hlen] at this; exact this
      rw [← Go.Deep.add_add, hat j hjl, List.getElem?_eq_getElem (by omega)]
      have := hxc j u hu
      rw [List.getD_eq_getElem?_getD, List.getElem?_eq_getElem (by omega)] at this
      exact congrArg some this
    obtain ⟨f, hfx⟩ := choose_lt hx
    refine ⟨some a, len0, cap0, (List.range len0).map f, rfl, ?_, by simp, hl, hm, fun x hx => ?_⟩
    · intro j u hu
      obtain ⟨i, x, q, h1, h2, h3⟩ := flat_inv cells fs.size hlen _ j u hu
      rw [List.getElem?_map, Option.map_eq_some_iff] at h1
      obtain ⟨i', hi', rfl⟩ := h1
      have hil : i < len0 := by have := (List.getElem?_eq_some_iff.1 hi').1; simpa using this
      rw [List.getElem?_range hil] at hi'
      obtain rfl := Option.some.inj hi'
      exact ⟨a, rfl, by rw [h2]; exact (hfx i hil).2 q u h3⟩
    · rw [List.mem_map] at hx
      obtain ⟨i, hi', rfl⟩ := hx
      exact (hfx i (List.mem_range.1 hi')).1
end
end Go.Proofs.Ytdhohaeopfgbmaa

/-
  Arguments of nested types, opened: what the cells of a type hold. No condition of its own.
-/
namespace Go.Proofs.Ytdhohaeopfgbmaa
open Go Go.RowKit Go.WideShapes Go.ChangeShapes Go.Deep
section
variable {H : Type} {enc : TypeId × Value → H} {P : Program} {w : World} {spare : Nat → Bool} {held : Bool}
/-- The cells are those of a value of the type. -/
def Dec (enc : TypeId × Value → H) (P : Program) (w : World) (spare : Nat → Bool) (held : Bool) (t : TypeId) (cs : List Value) : Prop := ∃ m y, DataW.trod enc P w 0 spare held m t cs = some y
theorem Dec.int {t : TypeId} {k : IntKind} {cs : List Value} (ht : P.underlying t = some (.int k)) (h : Dec enc P w spare held t cs) : ∃ z : Int, cs = [.int k z] ∧ (Lit.int k z).wf = true := by
  obtain ⟨m, y, h⟩ := h
  obtain ⟨z, e, _, hz⟩ := DataW.trod_int ht h
  exact ⟨z, e, hz⟩
theorem Dec.string {t : TypeId} {cs : List Value} (ht : P.underlying t = some .string) (h : Dec enc P w spare held t cs) : ∃ s : ByteArray, cs = [.string s] ∧ s.size ≤ maxLen := by
  obtain ⟨m, y, h⟩ := h
  obtain ⟨s, e, _, hz⟩ := DataW.trod_string ht h
  exact ⟨s, e, hz⟩
theorem Dec.bool {t : TypeId} {cs : List Value} (ht : P.underlying t = some .bool) (h : Dec enc P w spare held t cs) : ∃ b : Bool, cs = [.bool b] := by
  obtain ⟨m, y, h⟩ := h
  obtain ⟨b, e, _⟩ := DataW.trod_bool ht h
  exact ⟨b, e⟩
theorem Dec.struct {t : TypeId} {fs : Array Field} {cs : List Value} (ht : P.underlying t = some (.struct fs)) (h : Dec enc P w spare held t cs) : cs.length = P.cellsOf t ∧ ∀ (j : Nat) (f : Field), fs[j]? = some f → Dec enc P w spare held f.type ((cs.drop f.offset).take (P.cellsOf f.type)) := by
  obtain ⟨m, y, h⟩ := h
  obtain ⟨ys, n', _, _, hl, hys, hg⟩ := DataW.trod_struct ht h
  refine ⟨hl, fun j f hj => ?_⟩
  have hjl : j < fs.size := (Array.getElem?_eq_some_iff.1 hj).1
  have hyl : ys[j]? = some (ys[j]'(by omega)) := List.getElem?_eq_getElem (by omega)
  exact ⟨n', _, (hg j f hj).trans hyl⟩
/-- The cell is a slice of records. -/
theorem Dec.slice {α : Type} [Inhabited α] (cells : α → List Value) (ok : α → Prop) (K : Nat) {t e : TypeId} {cs : List Value} (ht : P.underlying t = some (.slice e)) (hC : P.cellsOf e = K) (hlen : ∀ x, (cells x).length = K)
    (dec : ∀ cs, cs.length = K → Dec enc P w spare held e cs → ∃ x, ok x ∧ cells x = cs) (h : Dec enc P w spare held t cs) :
    ∃ (A : Option Addr) (n c : Nat) (xs : List α), cs = [.slice A n c] ∧ Rd w A (xs.flatMap cells) ∧ xs.length = n ∧ n ≤ c ∧ c ≤ maxLen ∧ ∀ x ∈ xs, ok x := by
  obtain ⟨fuel, y, hf⟩ := h
  rcases open_slice ht hf with ⟨hcs, _⟩ | ⟨a, len, cap, m, n, D, Pl, hcs, _, hl, hm, hmm, _, hi⟩
  · exact ⟨none, 0, 0, [], hcs, Rd.nil _ _, rfl, Nat.le_refl _, by unfold maxLen; omega, by simp⟩
  · have hlm : len ≤ m := by rw [hmm]; split <;> omega
    have hx : ∀ i, i < len → ∃ x : α, ok x ∧ ∀ j u, (cells x)[j]? = some u → w.cell? (a.add (i * K + j)) = some u := by
      intro i hil
      obtain ⟨cs', hc, ht'⟩ := hi i (by omega)
      rw [hC] at hc
      obtain ⟨_, hcl, hat⟩ := World.cells?_some hc
      obtain ⟨x, hok, hxc⟩ := dec cs' hcl ⟨n, _, ht'⟩
      refine ⟨x, hok, fun j u hu => ?_⟩
      have hjl : j < K := by have := (List.getElem?_eq_some_iff.1 hu).1; rw [hlen] at this; exact this
      rw [← Go.Deep.add_add, hat j hjl, ← hxc]
      exact hu
    obtain ⟨f, hfx⟩ := choose_lt hx
    refine ⟨some a, len, cap, (List.range len).map f, hcs, ?_, by simp, hl, hm, fun x hx => ?_⟩
    · intro j u hu
      obtain ⟨i, x, q, h1, h2, h3⟩ := flat_inv cells K hlen _ j u hu
      rw [List.getElem?_map, Option.map_eq_some_iff] at h1
      obtain ⟨i', hi', rfl⟩ := h1
      have hil : i < len := by have := (List.getElem?_eq_some_iff.1 hi').1; simpa using this
      rw [List.getElem?_range hil] at hi'
      obtain rfl := Option.some.inj hi'
      exact ⟨a, rfl, by rw [h2]; exact (hfx i hil).2 q u h3⟩
    · rw [List.mem_map] at hx
      obtain ⟨i, hi', rfl⟩ := hx
      exact (hfx i (List.mem_range.1 hi')).1
/-- An argument that is a slice of records. -/
theorem open_deep {α : Type} [Inhabited α] (cells : α → List Value) (ok : α → Prop) (K : Nat) {base : Nat} {r : Reach} {t e : TypeId} {v : Value} {d : DataW H} {p : List MemPlace} (ht : P.underlying t = some (.slice e)) (hC : P.cellsOf e = K) (hlen : ∀ x, (cells x).length = K)
    (dec : ∀ cs, cs.length = K → Dec enc P w spare held e cs → ∃ x, ok x ∧ cells x = cs) (hv : Value.okWide P w r base t v) (h : DataW.Trod enc P w 0 spare held t v d p) :
    ∃ (A : Option Addr) (n c : Nat) (xs : List α), v = .slice A n c ∧ Rd w A (xs.flatMap cells) ∧ xs.length = n ∧ n ≤ c ∧ c ≤ maxLen ∧ ∀ x ∈ xs, ok x := by
  obtain ⟨a0, len0, cap0, rfl⟩ := okWide_slice ht hv
  obtain ⟨fuel, hf⟩ := h
  obtain ⟨A, n, c, xs, h1, h2⟩ := Dec.slice cells ok K ht hC hlen dec ⟨fuel, _, hf⟩
  simp [Value.cells] at h1
  obtain ⟨rfl, rfl, rfl⟩ := h1
  exact ⟨_, _, _, xs, rfl, h2⟩
/-- The cell is a slice of numbers. -/
theorem Dec.nums {t e : TypeId} {k : IntKind} {cs : List Value} (ht : P.underlying t = some (.slice e)) (he : P.underlying e = some (.int k)) (hC : P.cellsOf e = 1) (h : Dec enc P w spare held t cs) :
    ∃ (A : Option Addr) (n c : Nat) (zs : List Int), cs = [.slice A n c] ∧ Rd w A (zs.map (Value.int k)) ∧ zs.length = n ∧ n ≤ c ∧ c ≤ maxLen ∧ ∀ z ∈ zs, (Lit.int k z).wf = true := by
  have := Dec.slice (fun z : Int => [Value.int k z]) (fun z => (Lit.int k z).wf = true) 1 ht hC (fun _ => rfl) (fun cs _ hd => by
    obtain ⟨z, e, hz⟩ := hd.int he
    exact ⟨z, hz, e.symm⟩) h
  obtain ⟨A, n, c, zs, h1, h2, h3⟩ := this
  have e : ∀ l : List Int, (l.flatMap fun z : Int => [Value.int k z]) = l.map (Value.int k) := fun l => by
    induction l with
    | nil => rfl
    | cons x l ih => rw [List.flatMap_cons, ih]; rfl
  exact ⟨A, n, c, zs, h1, by rw [← e]; exact h2, h3⟩
end
end Go.Proofs.Ytdhohaeopfgbmaa

/-
  Plain facts about rows of records, and about the order of texts. No program in them.
-/
namespace Go.Proofs.Ytdhohaeopfgbmaa
open Go Go.RowKit

section
variable {α : Type} (cells : α → List Value) {sz : Nat}
theorem flat_len (hk : ∀ x, (cells x).length = sz) (xs : List α) : (xs.flatMap cells).length = xs.length * sz := by
  induction xs with
  | nil => simp
  | cons x xs ih => rw [List.flatMap_cons, List.length_append, hk, ih, List.length_cons, Nat.add_mul]; omega
theorem flat_at (hk : ∀ x, (cells x).length = sz) (xs : List α) (k : Nat) (x : α) (h : xs[k]? = some x) (j : Nat) (v : Value) (hv : (cells x)[j]? = some v) : (xs.flatMap cells)[k * sz + j]? = some v := by
  induction xs generalizing k with
  | nil => simp at h
  | cons d xs ih =>
    rw [List.flatMap_cons]
    cases k with
    | zero =>
      simp at h; subst h
      have hj : j < (cells d).length := (List.getElem?_eq_some_iff.1 hv).1
      rw [Nat.zero_mul, Nat.zero_add, List.getElem?_append_left hj]; exact hv
    | succ k =>
      simp at h
      rw [List.getElem?_append_right (by rw [hk, Nat.add_mul]; omega), hk, show (k + 1) * sz + j - sz = k * sz + j by rw [Nat.add_mul]; omega]
      exact ih k h
theorem flat_snoc (xs : List α) (x : α) : (xs ++ [x]).flatMap cells = xs.flatMap cells ++ cells x := by simp
theorem flat_one (hk : ∀ x, ∀ u ∈ cells x, u.oneCell' = true) (xs : List α) : ∀ u ∈ xs.flatMap cells, u.oneCell' = true := by
  intro u hu
  obtain ⟨x, _, h⟩ := List.mem_flatMap.1 hu
  exact hk x u h
end
/-- A text below another one. -/
def ltB (a b : ByteArray) : Bool := decide (bts a < bts b)
theorem less_eq (a b : ByteArray) : Op.bytesLess a.toList b.toList = ltB a b := by
  rw [bytesLess_eq, ByteArray.toList_eq, ByteArray.toList_eq]; rfl
theorem ltB_irrefl (a : ByteArray) : ltB a a = false := by unfold ltB; simp [List.lt_irrefl]
theorem ltB_trans {a b c : ByteArray} (h : ltB a b = true) (k : ltB b c = true) : ltB a c = true := by
  unfold ltB at *
  simp only [decide_eq_true_eq] at *
  exact List.lt_trans h k
theorem ltB_tri (a b : ByteArray) (h : ltB a b = false) (k : ltB b a = false) : a = b := by
  unfold ltB at *
  simp only [decide_eq_false_iff_not, List.not_lt] at *
  exact bts_inj (List.le_antisymm k h)
theorem leq_eq (a b : ByteArray) : (Op.bytesLess a.toList b.toList || a.toList == b.toList) = !ltB b a := by
  rw [less_eq, str_beq]
  cases h : ltB a b
  · cases k : ltB b a
    · simp [ltB_tri a b h k]
    · have : bts a ≠ bts b := fun e => by have := bts_inj e; subst this; rw [ltB_irrefl] at k; cases k
      simp [this]
  · cases k : ltB b a
    · rfl
    · have := ltB_trans h k; rw [ltB_irrefl] at this; cases this
theorem geq_eq (a b : ByteArray) : (!Op.bytesLess a.toList b.toList) = !ltB a b := by rw [less_eq]
theorem gtr_eq (a b : ByteArray) : (!(Op.bytesLess a.toList b.toList || a.toList == b.toList)) = ltB b a := by rw [leq_eq]; simp
/-- A text with a zero behind it is the next one. -/
theorem ltB_zero (a : ByteArray) : ltB a (a ++ ⟨#[0]⟩) = true := by
  unfold ltB
  rw [bts_append, decide_eq_true_eq]
  generalize bts a = l
  induction l with
  | nil => show ([] : List UInt8) < [0]; exact List.nil_lt_cons _ _
  | cons x l ih => rw [List.cons_append]; exact List.cons_lt_cons_iff.2 (.inr ⟨rfl, ih⟩)
end Go.Proofs.Ytdhohaeopfgbmaa

/-
  Commands and entries, as they lie in memory; arguments that are slices of entries, opened. No condition of its own.
-/
namespace Go.Proofs.Ytdhohaeopfgbmaa
open Go Go.RowKit Go.WideShapes Go.ChangeShapes Go.Deep
/-- A command. -/
structure Cm where
  kind : Int
  path : ByteArray
  key : ByteArray
  val : ByteArray
  old : ByteArray
deriving Inhabited
def Cm.cells (x : Cm) : List Value := [.int .i64 x.kind, .string x.path, .string x.key, .string x.val, .string x.old]
def flatCm (l : List Cm) : List Value := l.flatMap Cm.cells
def Cm.fits (x : Cm) : Prop := (-9223372036854775808 ≤ x.kind ∧ x.kind ≤ 9223372036854775807) ∧ x.path.size ≤ maxLen ∧ x.key.size ≤ maxLen ∧ x.val.size ≤ maxLen ∧ x.old.size ≤ maxLen
theorem flatCm_len (L : List Cm) : (flatCm L).length = L.length * 5 := flat_len Cm.cells (fun _ => rfl) L
theorem flatCm_at (L : List Cm) (k : Nat) (x : Cm) (h : L[k]? = some x) (j : Nat) (v : Value) (hv : x.cells[j]? = some v) : (flatCm L)[k * 5 + j]? = some v := flat_at Cm.cells (fun _ => rfl) L k x h j v hv
/-- An entry: its Index, its Term, the request's client, number and commands. -/
structure En where
  index : Int
  term : Int
  client : Int
  seq : Int
  A : Option Addr
  n : Nat
  c : Nat
  cmds : List Cm
deriving Inhabited
def En.cells (x : En) : List Value := [.int .i64 x.index, .int .i64 x.term, .int .i64 x.client, .int .i64 x.seq, .slice x.A x.n x.c]
def flatEn (l : List En) : List Value := l.flatMap En.cells
def i64In (z : Int) : Prop := -9223372036854775808 ≤ z ∧ z ≤ 9223372036854775807
def En.fits (w : World) (x : En) : Prop := i64In x.index ∧ i64In x.term ∧ i64In x.client ∧ i64In x.seq ∧ Rd w x.A (flatCm x.cmds) ∧ x.cmds.length = x.n ∧ x.n ≤ maxLen ∧ ∀ y ∈ x.cmds, y.fits
theorem flatEn_len (L : List En) : (flatEn L).length = L.length * 5 := flat_len En.cells (fun _ => rfl) L
theorem flatEn_at (L : List En) (k : Nat) (x : En) (h : L[k]? = some x) (j : Nat) (v : Value) (hv : x.cells[j]? = some v) : (flatEn L)[k * 5 + j]? = some v := flat_at En.cells (fun _ => rfl) L k x h j v hv
theorem Rd.cm {w : World} {A : Option Addr} {L : List Cm} (h : Rd w A (flatCm L)) {k : Nat} (hk : k < L.length) : ∃ b o x, A = some ⟨b, o, none⟩ ∧ b < w.heap.size ∧ L[k]? = some x ∧ w.cell? ⟨b, o + k * 5, none⟩ = some (.int .i64 x.kind) ∧ w.cell? ⟨b, o + k * 5 + 1, none⟩ = some (.string x.path) ∧ w.cell? ⟨b, o + k * 5 + 2, none⟩ = some (.string x.key) ∧ w.cell? ⟨b, o + k * 5 + 3, none⟩ = some (.string x.val) ∧ w.cell? ⟨b, o + k * 5 + 4, none⟩ = some (.string x.old) := by
  obtain ⟨x, hx⟩ : ∃ x, L[k]? = some x := ⟨L[k]'hk, List.getElem?_eq_getElem _⟩
  obtain ⟨b, o, e, hb, hc⟩ := h.flat (by rw [flatCm_len]; omega)
  refine ⟨b, o, x, e, hb, hx, ?_, ?_, ?_, ?_, ?_⟩
  · have := hc _ _ (flatCm_at L k x hx 0 _ rfl); simpa using this
  all_goals rw [Nat.add_assoc]
  · exact hc _ _ (flatCm_at L k x hx 1 _ rfl)
  · exact hc _ _ (flatCm_at L k x hx 2 _ rfl)
  · exact hc _ _ (flatCm_at L k x hx 3 _ rfl)
  · exact hc _ _ (flatCm_at L k x hx 4 _ rfl)
theorem Rd.en {w : World} {A : Option Addr} {L : List En} (h : Rd w A (flatEn L)) {k : Nat} (hk : k < L.length) : ∃ b o x, A = some ⟨b, o, none⟩ ∧ b < w.heap.size ∧ L[k]? = some x ∧ w.cell? ⟨b, o + k * 5, none⟩ = some (.int .i64 x.index) ∧ w.cell? ⟨b, o + k * 5 + 1, none⟩ = some (.int .i64 x.term) ∧ w.cell? ⟨b, o + k * 5 + 2, none⟩ = some (.int .i64 x.client) ∧ w.cell? ⟨b, o + k * 5 + 3, none⟩ = some (.int .i64 x.seq) ∧ w.cell? ⟨b, o + k * 5 + 4, none⟩ = some (.slice x.A x.n x.c) := by
  obtain ⟨x, hx⟩ : ∃ x, L[k]? = some x := ⟨L[k]'hk, List.getElem?_eq_getElem _⟩
  obtain ⟨b, o, e, hb, hc⟩ := h.flat (by rw [flatEn_len]; omega)
  refine ⟨b, o, x, e, hb, hx, ?_, ?_, ?_, ?_, ?_⟩
  · have := hc _ _ (flatEn_at L k x hx 0 _ rfl); simpa using this
  all_goals rw [Nat.add_assoc]
  · exact hc _ _ (flatEn_at L k x hx 1 _ rfl)
  · exact hc _ _ (flatEn_at L k x hx 2 _ rfl)
  · exact hc _ _ (flatEn_at L k x hx 3 _ rfl)
  · exact hc _ _ (flatEn_at L k x hx 4 _ rfl)
section
variable {H : Type} {enc : TypeId × Value → H} {P : Program} {w : World} {base : Nat} {spare : Nat → Bool} {held : Bool} {r : Reach}
/-- The cells of a command. -/
theorem Dec.cm {t ti ts : TypeId} {f0 f1 f2 f3 f4 : Field} {cs : List Value} (ht : P.underlying t = some (.struct #[f0, f1, f2, f3, f4])) (hone : oneCellFields P #[f0, f1, f2, f3, f4] = true) (h0 : f0.type = ti) (h1 : f1.type = ts) (h2 : f2.type = ts) (h3 : f3.type = ts) (h4 : f4.type = ts) (hi : P.underlying ti = some (.int .i64)) (hs : P.underlying ts = some .string)
    (hl : cs.length = 5) (hd : Dec enc P w spare held t cs) : ∃ x : Cm, x.fits ∧ x.cells = cs := by
  obtain ⟨_, hg⟩ := hd.struct ht
  obtain ⟨o0, k0⟩ := hone_of hone 0 f0 rfl
  obtain ⟨o1, k1⟩ := hone_of hone 1 f1 rfl
  obtain ⟨o2, k2⟩ := hone_of hone 2 f2 rfl
  obtain ⟨o3, k3⟩ := hone_of hone 3 f3 rfl
  obtain ⟨o4, k4⟩ := hone_of hone 4 f4 rfl
  have g0 := hg 0 f0 rfl
  have g1 := hg 1 f1 rfl
  have g2 := hg 2 f2 rfl
  have g3 := hg 3 f3 rfl
  have g4 := hg 4 f4 rfl
  rw [o0, k0, h0] at g0
  rw [o1, k1, h1] at g1
  rw [o2, k2, h2] at g2
  rw [o3, k3, h3] at g3
  rw [o4, k4, h4] at g4
  match cs, hl with
  | [c0, c1, c2, c3, c4], _ =>
    obtain ⟨z0, e0, w0⟩ := g0.int hi
    obtain ⟨s1, e1, w1⟩ := g1.string hs
    obtain ⟨s2, e2, w2⟩ := g2.string hs
    obtain ⟨s3, e3, w3⟩ := g3.string hs
    obtain ⟨s4, e4, w4⟩ := g4.string hs
    simp at e0 e1 e2 e3 e4
    subst e0 e1 e2 e3 e4
    exact ⟨⟨z0, s1, s2, s3, s4⟩, ⟨wf_i64 w0, w1, w2, w3, w4⟩, rfl⟩
/-- The cells of an entry: the request lies within it. -/
theorem Dec.en {t ti tq tl tc ts : TypeId} {f0 f1 f2 q0 q1 q2 c0 c1 c2 c3 c4 : Field} {cs : List Value} (ht : P.underlying t = some (.struct #[f0, f1, f2])) (o0 : f0.offset = 0) (o1 : f1.offset = 1) (o2 : f2.offset = 2) (h0 : f0.type = ti) (h1 : f1.type = ti) (h2 : f2.type = tq) (ci : P.cellsOf ti = 1) (cq : P.cellsOf tq = 3)
    (hq : P.underlying tq = some (.struct #[q0, q1, q2])) (honeq : oneCellFields P #[q0, q1, q2] = true) (y0 : q0.type = ti) (y1 : q1.type = ti) (y2 : q2.type = tl) (hl : P.underlying tl = some (.slice tc)) (hc : P.underlying tc = some (.struct #[c0, c1, c2, c3, c4])) (honec : oneCellFields P #[c0, c1, c2, c3, c4] = true) (cc : P.cellsOf tc = 5)
    (z0 : c0.type = ti) (z1 : c1.type = ts) (z2 : c2.type = ts) (z3 : c3.type = ts) (z4 : c4.type = ts) (hi : P.underlying ti = some (.int .i64)) (hs : P.underlying ts = some .string)
    (hl5 : cs.length = 5) (hd : Dec enc P w spare held t cs) : ∃ x : En, x.fits w ∧ x.cells = cs := by
  obtain ⟨_, hg⟩ := hd.struct ht
  have g0 := hg 0 f0 rfl
  have g1 := hg 1 f1 rfl
  have g2 := hg 2 f2 rfl
  rw [o0, h0, ci] at g0
  rw [o1, h1, ci] at g1
  rw [o2, h2, cq] at g2
  match cs, hl5 with
  | [a0, a1, a2, a3, a4], _ =>
    simp only [List.drop_zero, List.drop_succ_cons, List.take_succ_cons, List.take_zero] at g0 g1 g2
    obtain ⟨_, hg2⟩ := g2.struct hq
    obtain ⟨p0, k0⟩ := hone_of honeq 0 q0 rfl
    obtain ⟨p1, k1⟩ := hone_of honeq 1 q1 rfl
    obtain ⟨p2, k2⟩ := hone_of honeq 2 q2 rfl
    have m0 := hg2 0 q0 rfl
    have m1 := hg2 1 q1 rfl
    have m2 := hg2 2 q2 rfl
    rw [p0, k0, y0] at m0
    rw [p1, k1, y1] at m1
    rw [p2, k2, y2] at m2
    obtain ⟨i0, e0, w0⟩ := g0.int hi
    obtain ⟨i1, e1, w1⟩ := g1.int hi
    obtain ⟨i2, e2, w2⟩ := m0.int hi
    obtain ⟨i3, e3, w3⟩ := m1.int hi
    obtain ⟨A, n, c, l, e4, r4, l4, n4, x4, y4⟩ := m2.slice Cm.cells Cm.fits 5 hl cc (fun _ => rfl) (fun _ h5 hd => hd.cm hc honec z0 z1 z2 z3 z4 hi hs h5)
    simp at e0 e1 e2 e3 e4
    subst e0 e1 e2 e3 e4
    exact ⟨⟨i0, i1, i2, i3, A, n, c, l⟩, ⟨wf_i64 w0, wf_i64 w1, wf_i64 w2, wf_i64 w3, r4, l4, Nat.le_trans n4 x4, y4⟩, rfl⟩
theorem open_ens {te t ti tq tl tc ts : TypeId} {f0 f1 f2 q0 q1 q2 c0 c1 c2 c3 c4 : Field} {v : Value} {d : DataW H} {p : List MemPlace} (hte : P.underlying te = some (.slice t)) (ht : P.underlying t = some (.struct #[f0, f1, f2])) (o0 : f0.offset = 0) (o1 : f1.offset = 1) (o2 : f2.offset = 2) (h0 : f0.type = ti) (h1 : f1.type = ti) (h2 : f2.type = tq) (ci : P.cellsOf ti = 1) (cq : P.cellsOf tq = 3) (ct : P.cellsOf t = 5)
    (hq : P.underlying tq = some (.struct #[q0, q1, q2])) (honeq : oneCellFields P #[q0, q1, q2] = true) (y0 : q0.type = ti) (y1 : q1.type = ti) (y2 : q2.type = tl) (hl : P.underlying tl = some (.slice tc)) (hc : P.underlying tc = some (.struct #[c0, c1, c2, c3, c4])) (honec : oneCellFields P #[c0, c1, c2, c3, c4] = true) (cc : P.cellsOf tc = 5)
    (z0 : c0.type = ti) (z1 : c1.type = ts) (z2 : c2.type = ts) (z3 : c3.type = ts) (z4 : c4.type = ts) (hi : P.underlying ti = some (.int .i64)) (hs : P.underlying ts = some .string) (hv : Value.okWide P w r base te v) (h : DataW.Trod enc P w 0 spare held te v d p) :
    ∃ (A : Option Addr) (n c : Nat) (es : List En), v = .slice A n c ∧ Rd w A (flatEn es) ∧ es.length = n ∧ n ≤ c ∧ c ≤ maxLen ∧ ∀ o ∈ es, o.fits w :=
  open_deep En.cells (En.fits w) 5 hte ct (fun _ => rfl) (fun _ h5 hd => hd.en ht o0 o1 o2 h0 h1 h2 ci cq hq honeq y0 y1 y2 hl hc honec cc z0 z1 z2 z3 z4 hi hs h5) hv h
end
end Go.Proofs.Ytdhohaeopfgbmaa

/-
  Arguments that are slices of the log law's acts, opened. No condition of its own.
-/
namespace Go.Proofs.Ytdhohaeopfgbmaa
open Go Go.RowKit Go.WideShapes Go.ChangeShapes Go.Deep Go.Joins
/-- Something that is done to a log. -/
structure OpH where
  kind : Int
  a : Int
  b : Int
  A : Option Addr
  n : Nat
  c : Nat
  es : List En
  own : Bool
deriving Inhabited
def OpH.cells (x : OpH) : List Value := [.int .i64 x.kind, .int .i64 x.a, .int .i64 x.b, .slice x.A x.n x.c, .bool x.own]
def flatH (L : List OpH) : List Value := L.flatMap OpH.cells
def OpH.fits (w : World) (x : OpH) : Prop := i64In x.a ∧ Rd w x.A (flatEn x.es) ∧ x.es.length = x.n ∧ x.n ≤ maxLen ∧ ∀ y ∈ x.es, y.fits w
theorem flatH_len (L : List OpH) : (flatH L).length = L.length * 5 := flat_len OpH.cells (fun _ => rfl) L
theorem flatH_at (L : List OpH) (k : Nat) (x : OpH) (h : L[k]? = some x) (j : Nat) (v : Value) (hv : x.cells[j]? = some v) : (flatH L)[k * 5 + j]? = some v := flat_at OpH.cells (fun _ => rfl) L k x h j v hv
theorem Rd.oph {w : World} {A : Option Addr} {L : List OpH} (h : Rd w A (flatH L)) {k : Nat} (hk : k < L.length) : ∃ b o x, A = some ⟨b, o, none⟩ ∧ b < w.heap.size ∧ L[k]? = some x ∧ w.cell? ⟨b, o + k * 5, none⟩ = some (.int .i64 x.kind) ∧ w.cell? ⟨b, o + k * 5 + 1, none⟩ = some (.int .i64 x.a) ∧ w.cell? ⟨b, o + k * 5 + 2, none⟩ = some (.int .i64 x.b) ∧ w.cell? ⟨b, o + k * 5 + 3, none⟩ = some (.slice x.A x.n x.c) ∧ w.cell? ⟨b, o + k * 5 + 4, none⟩ = some (.bool x.own) := by
  obtain ⟨x, hx⟩ : ∃ x, L[k]? = some x := ⟨L[k]'hk, List.getElem?_eq_getElem _⟩
  obtain ⟨b, o, e, hb, hc⟩ := h.flat (by rw [flatH_len]; omega)
  refine ⟨b, o, x, e, hb, hx, ?_, ?_, ?_, ?_, ?_⟩
  · have := hc _ _ (flatH_at L k x hx 0 _ rfl); simpa using this
  · have := hc _ _ (flatH_at L k x hx 1 _ rfl); rwa [← Nat.add_assoc] at this
  · have := hc _ _ (flatH_at L k x hx 2 _ rfl); rwa [← Nat.add_assoc] at this
  · have := hc _ _ (flatH_at L k x hx 3 _ rfl); rwa [← Nat.add_assoc] at this
  · have := hc _ _ (flatH_at L k x hx 4 _ rfl); rwa [← Nat.add_assoc] at this
section
variable {H : Type} {enc : TypeId × Value → H} {P : Program} {w : World} {base : Nat} {spare : Nat → Bool} {held : Bool} {r : Reach}
theorem open_ophs {e te t ti tb tq tl tc ts tt : TypeId} {f0 f1 f2 f3 f4 g0 g1 g2 q0 q1 q2 c0 c1 c2 c3 c4 : Field} {v : Value} {d : DataW H} {p : List MemPlace} (htt : P.underlying tt = some (.slice e)) (he : P.underlying e = some (.struct #[f0, f1, f2, f3, f4])) (hone : oneCellFields P #[f0, f1, f2, f3, f4] = true) (hC : P.cellsOf e = 5)
    (h0 : f0.type = ti) (h1 : f1.type = ti) (h2 : f2.type = ti) (h3 : f3.type = te) (h4 : f4.type = tb) (hi : P.underlying ti = some (.int .i64)) (hs : P.underlying ts = some .string) (hb : P.underlying tb = some .bool)
    (hte : P.underlying te = some (.slice t)) (ht : P.underlying t = some (.struct #[g0, g1, g2])) (o0 : g0.offset = 0) (o1 : g1.offset = 1) (o2 : g2.offset = 2) (j0 : g0.type = ti) (j1 : g1.type = ti) (j2 : g2.type = tq) (ci : P.cellsOf ti = 1) (cq : P.cellsOf tq = 3) (ct : P.cellsOf t = 5) (hq : P.underlying tq = some (.struct #[q0, q1, q2])) (honeq : oneCellFields P #[q0, q1, q2] = true) (y0 : q0.type = ti) (y1 : q1.type = ti) (y2 : q2.type = tl) (hl : P.underlying tl = some (.slice tc)) (hc : P.underlying tc = some (.struct #[c0, c1, c2, c3, c4])) (honec : oneCellFields P #[c0, c1, c2, c3, c4] = true) (cc : P.cellsOf tc = 5) (z0 : c0.type = ti) (z1 : c1.type = ts) (z2 : c2.type = ts) (z3 : c3.type = ts) (z4 : c4.type = ts) (hv : Value.okWide P w r base tt v) (h : DataW.Trod enc P w 0 spare held tt v d p) :
    ∃ (A : Option Addr) (n c : Nat) (os : List OpH), v = .slice A n c ∧ Rd w A (flatH os) ∧ os.length = n ∧ n ≤ c ∧ c ≤ maxLen ∧ ∀ o ∈ os, o.fits w := by
  refine open_deep OpH.cells (OpH.fits w) 5 htt hC (fun _ => rfl) (fun cs hl5 hd => ?_) hv h
  obtain ⟨_, hg⟩ := hd.struct he
  obtain ⟨m0, k0⟩ := hone_of hone 0 f0 rfl
  obtain ⟨m1, k1⟩ := hone_of hone 1 f1 rfl
  obtain ⟨m2, k2⟩ := hone_of hone 2 f2 rfl
  obtain ⟨m3, k3⟩ := hone_of hone 3 f3 rfl
  obtain ⟨m4, k4⟩ := hone_of hone 4 f4 rfl
  have d0 := hg 0 f0 rfl
  have d1 := hg 1 f1 rfl
  have d2 := hg 2 f2 rfl
  have d3 := hg 3 f3 rfl
  have d4 := hg 4 f4 rfl
  rw [m0, k0, h0] at d0
  rw [m1, k1, h1] at d1
  rw [m2, k2, h2] at d2
  rw [m3, k3, h3] at d3
  rw [m4, k4, h4] at d4
  match cs, hl5 with
  | [a0, a1, a2, a3, a4], _ =>
    obtain ⟨z0', e0, _⟩ := d0.int hi
    obtain ⟨z1', e1, w1⟩ := d1.int hi
    obtain ⟨z2', e2, _⟩ := d2.int hi
    obtain ⟨A, n, c, l, e3, r3, l3, n3, x3, y3⟩ := d3.slice En.cells (En.fits w) 5 hte ct (fun _ => rfl) (fun _ h5 hd => hd.en ht o0 o1 o2 j0 j1 j2 ci cq hq honeq y0 y1 y2 hl hc honec cc z0 z1 z2 z3 z4 hi hs h5)
    obtain ⟨b4, e4⟩ := d4.bool hb
    simp at e0 e1 e2 e3 e4
    subst e0 e1 e2 e3 e4
    exact ⟨⟨z0', z1', z2', A, n, c, l, b4⟩, ⟨wf_i64 w1, r3, l3, Nat.le_trans n3 x3, y3⟩, rfl⟩
end
end Go.Proofs.Ytdhohaeopfgbmaa

/-
  What the helpers of the statements give over lists of texts: Room, Short, SameTexts, LentTexts, StaysTexts. Conditions: lengths below 2^47 where memory is made.
-/
namespace Go.Proofs.Ytdhohaeopfgbmaa
open Go Go.RowKit

/-- How much is left of n behind these. -/
def roomL : Int → List Int → Int
  | n, [] => n
  | n, z :: zs => if n < 0 ∨ n < z then -1 else roomL (n - z) zs
theorem roomL_le (n : Int) (zs : List Int) (hz : ∀ z ∈ zs, 0 ≤ z) (hn : -1 ≤ n) : -1 ≤ roomL n zs ∧ roomL n zs ≤ n := by
  induction zs generalizing n with
  | nil => simp [roomL]; omega
  | cons z zs ih =>
    simp only [roomL]
    have := hz z (by simp)
    split
    · omega
    · have := ih (n - z) (fun y hy => hz y (by simp [hy])) (by omega)
      omega

theorem drop_at {α : Type} (l : List α) (k : Nat) (x : α) (h : l[k]? = some x) : l.drop k = x :: l.drop (k + 1) := by
  obtain ⟨hk, rfl⟩ := List.getElem?_eq_some_iff.1 h
  exact List.drop_eq_getElem_cons hk

set_option maxHeartbeats 1000000 in
theorem room_any (n : Int) (A : Option Addr) (m c : Nat) (zs : List Int) (w : World) (hr : Rd w A (zs.map (Value.int .i64))) (hm : zs.length = m) (hmax : m ≤ 1000)
    (hn : -1000000000000 ≤ n ∧ n ≤ 1000000000000) (hz : ∀ z ∈ zs, 0 ≤ z ∧ z ≤ 9223372036854775807) :
    Calls Try.prog 79 #[.int .i64 n, .slice A m c] w fun e w' => e = .returned (.int .i64 (roomL n zs)) ∧ w' = w := by
  have HZ := Lib.hid hz
  have HR := Lib.hid hr
  clear hz hr
  go_enter Try.func79, Try.ntmps79
  go_wp2
  go_loop [0, 5] (fun u0 u5 => ∃ (k : Nat) (q : Int), k ≤ m ∧ u5 = .int .i64 k ∧ u0 = .int .i64 q ∧ Hid (roomL n zs = roomL q (zs.drop k)) ∧ -1000000000000 ≤ q ∧ q ≤ 1000000000000) (fun _ u5 => m - (intOf u5).toNat)
  case atStart => exact ⟨0, n, by omega, rfl, rfl, rfl, hn.1, hn.2⟩
  case round =>
    obtain ⟨k, q, hk, rfl, rfl, hq, hq1, hq2⟩ := hrel
    by_cases hlt : k < m
    · obtain ⟨z, hzk⟩ : ∃ z, zs[k]? = some z := ⟨zs[k]'(by omega), List.getElem?_eq_getElem _⟩
      obtain ⟨ad, rfl, hcell⟩ := HR.out.at_ (k := k) (x := .int .i64 z) (by simp [hzk])
      have hz0 := HZ.out z (List.mem_of_getElem? hzk)
      have HD := Lib.hid (drop_at zs k z hzk)
      clear hzk
      by_cases h1 : q < 0
      · have HF : Hid (roomL n zs = -1) := by unfold Hid; rw [hq.out, HD.out]; simp only [roomL]; rw [if_pos (.inl h1)]
        go_wp2
        go_ret
        exact ⟨by rw [HF.out]; rfl, rfl⟩
      · by_cases h2 : q < z
        · have HF : Hid (roomL n zs = -1) := by unfold Hid; rw [hq.out, HD.out]; simp only [roomL]; rw [if_pos (.inr h2)]
          go_wp2
          go_ret
          exact ⟨by rw [HF.out]; rfl, rfl⟩
        · have HF : Hid (roomL n zs = roomL (q - z) (zs.drop (k + 1))) := by unfold Hid; rw [hq.out, HD.out]; simp only [roomL]; rw [if_neg (by omega)]
          go_wp2
          go_round
          case rel => exact ⟨k + 1, q - z, by omega, by go_num, rfl, HF, by omega, by omega⟩
          case measure => simp [intOf]; omega
    · obtain rfl : k = m := by omega
      have HF : Hid (roomL n zs = q) := by unfold Hid; rw [hq.out, List.drop_eq_nil_of_le (by omega)]; rfl
      go_wp2
      go_ret
      exact ⟨by rw [HF.out]; rfl, rfl⟩

/-- Are there at most m texts, of at most n bytes in all? -/
def shortT (n : Int) : List ByteArray → Bool
  | [] => decide (0 ≤ n)
  | s :: ss => if 0 ≤ n then shortT (roomL n [(s.size : Int)]) ss else false

theorem shortT_sum (n : Int) (ss : List ByteArray) (h : shortT n ss = true) : (((ss.map (·.size)).sum : Nat) : Int) ≤ n ∧ 0 ≤ n := by
  induction ss generalizing n with
  | nil => simp [shortT] at h; simp; omega
  | cons s ss ih =>
    simp only [shortT] at h
    split at h
    · rename_i hn
      simp only [roomL] at h
      split at h
      · have := ih (-1) h; omega
      · have := ih _ h; simp at this ⊢; omega
    · cases h

theorem take_succ_eq {α : Type} {l m : List α} {k : Nat} {x : α} (h : l.take k = m.take k) (hl : l[k]? = some x) (hm : m[k]? = some x) : l.take (k + 1) = m.take (k + 1) := by
  rw [List.take_add_one, List.take_add_one, h, hl, hm]

set_option maxHeartbeats 1000000 in
theorem sametexts_any (A B : Option Addr) (m n c d : Nat) (ss tt : List ByteArray) (w : World) (ha : Rd w A (ss.map .string)) (hb : Rd w B (tt.map .string)) (hm : ss.length = m) (hn : tt.length = n) (hmax : m ≤ maxLen) :
    Calls Try.prog 82 #[.slice A m c, .slice B n d] w fun e w' => e = .returned (.bool (decide (ss = tt))) ∧ Below w.heap.size w w' := by
  unfold maxLen at hmax
  obtain ⟨r, hrr⟩ : ∃ r, r = decide (ss = tt) := ⟨_, rfl⟩
  rw [← hrr]
  by_cases hmn : m = n
  · have HA := Lib.hid ha
    have HB := Lib.hid hb
    have HN := Lib.hid hn
    have HRR := Lib.hid hrr
    subst hmn
    clear ha hb hn hrr
    have h1 : ((m : Int) != (m : Int)) = false := by simp
    go_enter Try.func82, Try.ntmps82
    go_wp2
    go_loopw [5] (fun u5 wr => ∃ (k : Nat), k ≤ m ∧ u5 = .int .i64 k ∧ Hid (ss.take k = tt.take k) ∧ Below w.heap.size w wr) (fun u5 _ => m - (intOf u5).toNat)
    case atStart => exact ⟨0, by omega, rfl, rfl, Below.refl _ _⟩
    case round =>
      obtain ⟨k, hk, rfl, ht, hbl⟩ := hrel
      by_cases hlt : k < m
      · obtain ⟨s, hsk⟩ : ∃ s, ss[k]? = some s := ⟨ss[k]'(by omega), List.getElem?_eq_getElem _⟩
        obtain ⟨t, htk⟩ : ∃ t, tt[k]? = some t := ⟨tt[k]'(by have := HN.out; omega), List.getElem?_eq_getElem _⟩
        obtain ⟨ad, rfl, hc1⟩ := (HA.out.below hbl).at_ (k := k) (x := .string s) (by simp [hsk])
        obtain ⟨bd, rfl, hc2⟩ := (HB.out.below hbl).at_ (k := k) (x := .string t) (by simp [htk])
        have hki : (k : Int) < (m : Int) := by omega
        have HS := Lib.hid hsk
        have HT := Lib.hid htk
        clear hsk htk
        by_cases hst : s = t
        · subst hst
          have hq1 : (s.toList == s.toList) = true := by simp
          go_wp2
          go_quiet (fail)
          go_wp2
          go_roundw
          case rel => exact ⟨k + 1, by omega, by go_num, take_succ_eq ht.out HS.out HT.out, below_drewN hbl _⟩
          case measure => simp [intOf]; omega
        · have hq1 : (s.toList == t.toList) = false := by rw [str_beq, decide_eq_false_iff_not]; exact fun h => hst (bts_inj h)
          have HE : Hid (r = false) := by
            unfold Hid; rw [HRR.out, decide_eq_false_iff_not]; intro h
            have h2 := HS.out; rw [h, HT.out] at h2; exact hst (Option.some.inj h2).symm
          go_wp2
          go_quiet (fail)
          go_wp2
          go_ret
          exact ⟨ret_bool HE.out.symm, below_drewN hbl _⟩
      · obtain rfl : k = m := by omega
        have HE : Hid (r = true) := by
          unfold Hid; rw [HRR.out, decide_eq_true_iff]
          have := ht.out; rwa [List.take_of_length_le (by omega), List.take_of_length_le (by have := HN.out; omega)] at this
        go_wp2
        go_ret
        exact ⟨ret_bool HE.out.symm, hbl⟩
  · have h1 : ((m : Int) != (n : Int)) = true := by simp; omega
    have HE : Hid (r = false) := by
      unfold Hid; rw [hrr, decide_eq_false_iff_not]; intro h; rw [h] at hm; omega
    clear hrr ha hb hm hn
    go_enter Try.func82, Try.ntmps82
    go_wp2
    go_ret
    exact ⟨ret_bool HE.out.symm, Below.refl _ _⟩

/-- The word behind what was lent. -/
def markB : ByteArray := ⟨#[109, 97, 114, 107]⟩
theorem strinfo : (Try.prog.info? 9).map (fun i => (i.zero, i.size, i.bytes)) = some (some (.string ⟨#[]⟩), 1, 16) := by kernel_rfl
theorem one_strs (ss : List ByteArray) : ∀ u ∈ ss.map Value.string, u.oneCell' = true := by
  intro u hu; simp at hu; obtain ⟨b, _, rfl⟩ := hu; rfl

end Go.Proofs.Ytdhohaeopfgbmaa

/-
  Worlds that differ by draws alone. No condition of its own.
-/
namespace Go.Proofs.Ytdhohaeopfgbmaa
open Go Go.RowKit

/-- Nothing but draws. -/
def Qt (w w' : World) : Prop := ∃ n, w' = w.drewN n
theorem Qt.refl (w : World) : Qt w w := ⟨0, rfl⟩
theorem Qt.drewN (w : World) (n : Nat) : Qt w (w.drewN n) := ⟨n, rfl⟩
theorem Qt.below {w w' : World} (h : Qt w w') (B : Nat) : Below B w w' := by obtain ⟨n, rfl⟩ := h; exact below_drewN (Below.refl _ _) n
theorem Qt.trans {a b c : World} (h : Qt a b) (k : Qt b c) : Qt a c := by
  obtain ⟨n, rfl⟩ := h; obtain ⟨m, rfl⟩ := k; exact ⟨n + m, by rw [World.drewN_drewN]⟩
end Go.Proofs.Ytdhohaeopfgbmaa

/-
  A region that draws its order, whose operations only read and whose calls make new memory at most: one walk serves every order. No condition of its own.
-/
namespace Go.Proofs.Ytdhohaeopfgbmaa
open Go Go.RowKit

/-- A world that is this one but for new memory. -/
structure NewM (w : World) where
  w' : World
  h : Below w.heap.size w w'
instance (w : World) : Nonempty (NewM w) := ⟨⟨w, Below.refl _ _⟩⟩
theorem NewM.cell {w : World} {p : Addr} {v : Value} (h : w.cell? p = some v) : ∀ r : NewM w, r.w'.cell? p = some v := fun r => (r.h.cell (block_lt_of_cell h)).trans h
theorem wp_region_quiet_new {P : Program} {id : Nat} {Q : Exit → Act → World → Prop} {a : Act} {w : World} {l : List Oper} (hm : P.follows .mixedOrders = true) (hB : Region.lexB .any l.toArray = true)
    (h : wpQuiet P l.toArray (fun w' => ∃ r : NewM w, w' = r.w') (fun a' => ∀ w', (∃ r : NewM w, w' = r.w') → Q .normal a' w') l a) : (Code.region id l.toArray true).wp P Q a w :=
  wp_region_quiet (C := fun w' => ∃ r : NewM w, w' = r.w') hm hB ⟨⟨{ w with drawn := w.drawn + 1 }, (Below.refl _ w).drew⟩, rfl⟩ (by simpa using h)
theorem NewM.call {P : Program} {f : FuncId} {args : Array Value} {w : World} {r : NewM w} {v : Value} (h : Calls P f args r.w' fun e w'' => e = .returned v ∧ Below r.w'.heap.size r.w' w'') :
    Calls P f args r.w' fun e w'' => e = .returned v ∧ ∃ r' : NewM w, w'' = r'.w' :=
  h.mono fun _ w'' ⟨he, hb⟩ => ⟨he, ⟨w'', below_of hb r.h r.h.size⟩, rfl⟩
theorem NewM.call_same {P : Program} {f : FuncId} {args : Array Value} {w : World} {r : NewM w} {v : Value} (h : Calls P f args r.w' fun e w'' => e = .returned v ∧ w'' = r.w') :
    Calls P f args r.w' fun e w'' => e = .returned v ∧ ∃ r' : NewM w, w'' = r'.w' :=
  h.mono fun _ _ ⟨he, hb⟩ => ⟨he, r, hb⟩
/-- A call tells whether something is so. -/
inductive TellsB (e : Ending) (p : Prop) : Prop
  | mk (b : Bool) (h : e = .returned (.bool b)) (k : b = true ↔ p) : TellsB e p
end Go.Proofs.Ytdhohaeopfgbmaa

/-
  'append' in a region that draws its order: the step's form. Conditions: those of the append's law.
-/
namespace Go.Proofs.Ytdhohaeopfgbmaa
open Go Go.RowKit

/-- 'out = append(out, src...)' in a region that draws: the step's form of wpList_app. -/
theorem step_app {P : Program} {w : World} {ops : Array Oper} {o : Oper} {a : Act} {K : Act → World → Prop} {Q : Exit → Act → World → Prop} {E : Prop} (hgd : o.guard = none) (s x : Operand) (t : TypeId)
    (ho : o.op = .call { callee := .builtin .append, args := #[s, x], argTypes := #[t, t] })
    (base : Nat) (e : TypeId) (i : TypeInfo) (z : Value) (size bytes : Nat) (ht : P.underlying t = some (.slice e)) (hi : P.info? e = some i) (hz : i.zero = some z)
    (hsize : i.size = size) (hby : i.bytes = bytes) (hzs : z.cells.size = size) (hsz : 0 < size)
    (v : Value) (n : Nat) (xs : List Value) (hs : a.eval s = v) (hown : w.ownsRow base e size v n xs)
    (A : Option Addr) (m c : Nat) (news : List Value) (hx : a.eval x = .slice A m c) (hr : Rd w A news) (hl : news.length = m * size) (h1 : ∀ u ∈ news, u.oneCell' = true)
    (h63 : n + m ≤ maxLen) (hbytes : (n + m) * bytes ≤ 140737488355328) (hbase : base ≤ w.heap.size)
    (h : ∀ v' w', w'.ownsRow base e size v' (n + m) (xs ++ news) → w.grownBy w' v.ownBlock → Below base w w' → (v'.ownBlock = v.ownBlock ∨ v'.ownBlock = some w.heap.size) → K (a.put o.dst v') w') :
    if Region.wanted o (yielded ops a.tmps) = true then Oper.wp P o a w K Q else E := by
  have hw : Region.wanted o (yielded ops a.tmps) = true := by simp [Region.wanted, hgd]
  rw [if_pos hw]
  have := wpList_app (P := P) (w := w) (ops := ops) (rest := []) (o := o) (a := a) (Q := fun _ _ _ => True) hgd s x t ho base e i z size bytes ht hi hz hsize hby hzs hsz v n xs hs hown A m c news hx hr hl h1 h63 hbytes hbase (fun _ _ _ _ _ _ => trivial)
  have hbel : ∀ w', w.grownBy w' v.ownBlock → Below base w w' := fun w' hg => (Below.refl base w).grown hg hbase fun k hk => (hown.lt k hk).1
  clear this
  cases A with
  | none =>
    have hn : news = [] := by
      cases news with
      | nil => rfl
      | cons b l =>
        obtain ⟨ad, e, _⟩ := hr 0 b (by simp)
        cases e
    subst hn
    have hm : m = 0 := by
      have : m * size = 0 := by simpa using hl.symm
      rcases Nat.mul_eq_zero.1 this with h0 | h0
      · exact h0
      · omega
    subst hm
    have hrun : (Builtin.append_ #[t, t] o.type #[v, .slice none 0 c]).run P w = .ok v w := by
      rcases hown.2 with ⟨rfl, rfl⟩ | ⟨g, cap, cur, rfl, _, _, hnc, _⟩
      · simp [Builtin.append_, run_underlying ht, sizeOf, typeInfo, hi, Builtin.lenOf, Builtin.firstCells]
      · simp [Builtin.append_, run_underlying ht, sizeOf, typeInfo, hi, Builtin.lenOf, Builtin.firstCells, hnc, storeCells]
    unfold Oper.wp execOp
    simp only [ho, resolve, invoke, builtin, Sem.run_bind, Sem.run_pure, Result.andThen_ok, List.map_toArray, List.map_cons, List.map_nil, hs, hx, hrun]
    exact h v w (by simpa using hown) (World.grownBy.refl _ _) (Below.refl _ _) (.inl rfl)
  | some ad =>
    obtain ⟨v', w', hr', h2, h3, _, h5⟩ := run_append_own_at (P := P) w base t o.type e i z size bytes ht hi hz hsize hby hzs hsz v n xs hown ad m c news hl (fun j u hu => by
      obtain ⟨ad', e, hc⟩ := hr j u hu
      injection e with e
      subst e; exact hc) h1 h63 hbytes hbase
    unfold Oper.wp execOp
    simp only [ho, resolve, invoke, builtin, Sem.run_bind, Sem.run_pure, Result.andThen_ok, List.map_toArray, List.map_cons, List.map_nil, hs, hx, hr']
    exact h v' w' h2 h3 (hbel w' h3) h5

theorem strCells_u8s (s : ByteArray) : Lib.strCells s = u8s (bts s) := by simp [Lib.strCells, u8s, bts]
/-- 'append' in a region that draws its order, guarded or not: the step's form. -/
theorem step_app_g {P : Program} {w : World} {ops : Array Oper} {o : Oper} {a : Act} {K : Act → World → Prop} {Q : Exit → Act → World → Prop} {E : Prop} (hw : Region.wanted o (yielded ops a.tmps) = true) (s x : Operand) (t : TypeId)
    (ho : o.op = .call { callee := .builtin .append, args := #[s, x], argTypes := #[t, t] })
    (base : Nat) (e : TypeId) (i : TypeInfo) (z : Value) (size bytes : Nat) (ht : P.underlying t = some (.slice e)) (hi : P.info? e = some i) (hz : i.zero = some z)
    (hsize : i.size = size) (hby : i.bytes = bytes) (hzs : z.cells.size = size) (hsz : 0 < size)
    (v : Value) (n : Nat) (xs : List Value) (hs : a.eval s = v) (hown : w.ownsRow base e size v n xs)
    (A : Option Addr) (m c : Nat) (news : List Value) (hx : a.eval x = .slice A m c) (hr : Rd w A news) (hl : news.length = m * size) (h1 : ∀ u ∈ news, u.oneCell' = true)
    (h63 : n + m ≤ maxLen) (hbytes : (n + m) * bytes ≤ 140737488355328) (hbase : base ≤ w.heap.size)
    (h : ∀ v' w', w'.ownsRow base e size v' (n + m) (xs ++ news) → w.grownBy w' v.ownBlock → Below base w w' → (v'.ownBlock = v.ownBlock ∨ v'.ownBlock = some w.heap.size) → K (a.put o.dst v') w') :
    if Region.wanted o (yielded ops a.tmps) = true then Oper.wp P o a w K Q else E := by
  have hs := step_app (P := P) (w := w) (ops := ops) (o := { o with guard := none }) (a := a) (K := K) (Q := Q) (E := E) rfl s x t ho base e i z size bytes ht hi hz hsize hby hzs hsz v n xs hs hown A m c news hx hr hl h1 h63 hbytes hbase h
  rw [if_pos (by simp [Region.wanted])] at hs
  rw [if_pos hw]
  exact hs
theorem Blk.grown {w w' : World} {g : Nat} {t : TypeId} {cs : Array Value} {row : Option Nat} (h : Blk w g t cs) (hg : w.grownBy w' row) (hne : row ≠ some g) : Blk w' g t cs := (hg.block g h.lt (Ne.symm hne)).trans h
theorem own_set {w : World} {g base n : Nat} {t e : TypeId} {cs : Array Value} {v : Value} {xs : List Value} {size : Nat} (hB : Blk w g t cs) (hO : w.ownsRow base e size v n xs) (hne : e ≠ t) {i : Nat} (u : Value) : (w.setCell ⟨g, i, none⟩ u).ownsRow base e size v n xs :=
  own_frm hO ((Frm.refl (at1 g) w).setCell (p := ⟨g, i, none⟩) (fun _ => rfl) u) fun k hk he => (Blk.own_ne hB hO hne) (by unfold at1 at he; rw [hk, he])
theorem cell_b {w w' : World} {p : Addr} {v : Value} (hb : Below w.heap.size w w') (h : w.cell? p = some v) : w'.cell? p = some v := (hb.cell (block_lt_of_cell h)).trans h
theorem cell_bb {w w' : World} {B b o : Nat} {v : Value} (hb : Below B w w') (hB : b < B) (h : w.cell? ⟨b, o, none⟩ = some v) : w'.cell? ⟨b, o, none⟩ = some v := ((below_cells hb).1 b o hB).trans h
end Go.Proofs.Ytdhohaeopfgbmaa

/-
  'append' onto a row of the call's own leaves what lay in it; rows in blocks of their own. Conditions: those of the append's law.
-/
namespace Go.Proofs.Ytdhohaeopfgbmaa
open Go Go.RowKit

theorem append_keeps {P : Program} (w : World) (base : Nat) (t ty e : TypeId) (i : TypeInfo) (z : Value) (size bytes : Nat) (ht : P.underlying t = some (.slice e)) (hi : P.info? e = some i) (hz : i.zero = some z)
    (hsize : i.size = size) (hby : i.bytes = bytes)
    (v : Value) (n : Nat) (xs : List Value) (hown : w.ownsRow base e size v n xs)
    (a : Addr) (m c : Nat) (news : List Value) (hl : news.length = m * size) (hnews : ∀ j u, news[j]? = some u → w.cell? (a.add j) = some u) (h1 : ∀ u ∈ news, u.oneCell' = true)
    (h63 : n + m ≤ maxLen) (hbytes : (n + m) * bytes ≤ 140737488355328) {v' : Value} {w' : World} (hr : (Builtin.append_ #[t, t] ty #[v, .slice (some a) m c]).run P w = .ok v' w') :
    w'.ownsRow base e size v n xs := by
  subst hsize
  subst hby
  have hsmall : n + m ≤ 9223372036854775807 := by simp only [maxLen] at h63; omega
  rcases hown.2 with ⟨rfl, rfl⟩ | ⟨g, cap, cur, rfl, hbg, hg, hnc, hcm, hcs, htake⟩
  · exact ⟨hown.1, .inl ⟨rfl, rfl⟩⟩
  · by_cases hroom : n + m ≤ cap
    · have hfit : n * i.size + news.length ≤ cur.size := by rw [hl, hcs, ← Nat.add_mul]; exact Nat.mul_le_mul_right _ hroom
      have hr2 := run_append_room (P := P) w t ty e i ht hi g n cap cur hg a m c news hl hnews h1 hroom hfit
      rw [hr2] at hr
      injection hr with _ hw
      subst hw
      refine ⟨hown.1, .inr ⟨g, cap, _, rfl, hbg, setRow_heap w g cur _ e _ hg, hnc, hcm, ?_, ?_⟩⟩
      · simp only [List.size_toArray, List.length_append, List.length_take, List.length_drop, Array.length_toList]
        omega
      · rw [htake, ← hown.1, List.append_assoc]
        exact List.take_left
    · have holds : ∀ j u, xs[j]? = some u → w.cell? ((⟨g, 0, none⟩ : Addr).add j) = some u := hown.cells (g := g) rfl
      have hr2 := run_append_grow (P := P) w t ty e i z ht hi hz ⟨g, 0, none⟩ n cap xs hown.1 holds a m c news hl hnews (by omega) (by omega) (growslice_fits (by omega) hbytes)
      rw [hr2] at hr
      injection hr with _ hw
      subst hw
      exact World.ownsRow.alloc (show w.drew.ownsRow base e i.size _ n xs from hown) _
section
variable {P : Program}
/-- As wpList_app; and what lay in the old row still lies there. -/
theorem wpList_app2 {w : World} {ops : Array Oper} {rest : List Oper} {o : Oper} {a : Act} {Q : Exit → Act → World → Prop} (hgd : o.guard = none) (s x : Operand) (t : TypeId)
    (ho : o.op = .call { callee := .builtin .append, args := #[s, x], argTypes := #[t, t] })
    (base : Nat) (e : TypeId) (i : TypeInfo) (z : Value) (size bytes : Nat) (ht : P.underlying t = some (.slice e)) (hi : P.info? e = some i) (hz : i.zero = some z)
    (hsize : i.size = size) (hby : i.bytes = bytes) (hzs : z.cells.size = size) (hsz : 0 < size)
    (v : Value) (n : Nat) (xs : List Value) (hs : a.eval s = v) (hown : w.ownsRow base e size v n xs)
    (ad : Addr) (m c : Nat) (news : List Value) (hx : a.eval x = .slice (some ad) m c) (hr : Rd w (some ad) news) (hl : news.length = m * size) (h1 : ∀ u ∈ news, u.oneCell' = true)
    (h63 : n + m ≤ maxLen) (hbytes : (n + m) * bytes ≤ 140737488355328) (hbase : base ≤ w.heap.size)
    (h : ∀ v' w', w'.ownsRow base e size v' (n + m) (xs ++ news) → w.grownBy w' v.ownBlock → Below base w w' → (v'.ownBlock = v.ownBlock ∨ v'.ownBlock = some w.heap.size) → w'.ownsRow base e size v n xs → wpList P ops Q rest (a.put o.dst v') w') : wpList P ops Q (o :: rest) a w := by
  have hnews : ∀ j u, news[j]? = some u → w.cell? (ad.add j) = some u := fun j u hu => by
    obtain ⟨ad', e, hc⟩ := hr j u hu
    injection e with e
    subst e; exact hc
  refine wpList_plain hgd fun K hK => ?_
  obtain ⟨v', w', hr', h2, h3, _, h5⟩ := run_append_own_at (P := P) w base t o.type e i z size bytes ht hi hz hsize hby hzs hsz v n xs hown ad m c news hl hnews h1 h63 hbytes hbase
  have hk := append_keeps (P := P) w base t o.type e i z size bytes ht hi hz hsize hby v n xs hown ad m c news hl hnews h1 h63 hbytes hr'
  unfold Oper.wp execOp
  simp only [ho, resolve, invoke, builtin, Sem.run_bind, Sem.run_pure, Result.andThen_ok, List.map_toArray, List.map_cons, List.map_nil, hs, hx, hr']
  exact hK _ _ (h v' w' h2 h3 ((Below.refl base w).grown h3 hbase fun k hk => (hown.lt k hk).1) h5 hk)
end
section
variable {w w' : World} {base base' : Nat} {e e' : TypeId} {s s' : Nat} {u v : Value} {n N : Nat} {xs ys : List Value}
/-- A shorter row in the same block. -/
theorem own_shorter (h : w.ownsRow base e s v N ys) (h' : w'.ownsRow base e s v N ys) (hu : w.ownsRow base' e s u n xs) (hn : n ≤ N) (hb : u.ownBlock = v.ownBlock) : w'.ownsRow base' e s u n xs := by
  refine ⟨hu.1, ?_⟩
  rcases hu.2 with hz | ⟨g, c, cur, rfl, hbg, hg, hnc, hcm, hcs, ht⟩
  · exact .inl hz
  · rcases h.2 with ⟨rfl, _⟩ | ⟨g2, c2, cur2, rfl, _, hg2, _, _, hcs2, ht2⟩
    · simp [Value.ownBlock] at hb
    · have e1 : g = g2 := by simpa [Value.ownBlock] using hb
      subst e1
      rw [hg] at hg2
      injection hg2 with e2
      injection e2 with e2
      subst e2
      rcases h'.2 with ⟨e3, _⟩ | ⟨g3, c3, cur3, e3, _, hg3, _, _, hcs3, ht3⟩
      · cases e3
      · have e4 : g = g3 := by injection e3 with e3; injection e3 with e3; injection e3
        have e5 : c2 = c3 := by injection e3
        subst e4 e5
        refine .inr ⟨g, c, cur3, rfl, hbg, hg3, hnc, hcm, by omega, ?_⟩
        rw [← ht]
        have hle : n * s ≤ N * s := Nat.mul_le_mul_right _ hn
        have a1 : cur3.toList.take (n * s) = (cur3.toList.take (N * s)).take (n * s) := by rw [List.take_take, Nat.min_eq_left hle]
        have a2 : cur.toList.take (n * s) = (cur.toList.take (N * s)).take (n * s) := by rw [List.take_take, Nat.min_eq_left hle]
        rw [a1, a2, ht3, ht2]
/-- What an append onto v leaves of another row. -/
theorem own_thru (hg : w.grownBy w' v.ownBlock) (h : w.ownsRow base e s v N ys) (h' : w'.ownsRow base e s v N ys) (hu : w.ownsRow base' e s u n xs) (hn : u.ownBlock = v.ownBlock → n ≤ N) : w'.ownsRow base' e s u n xs := by
  by_cases hb : u.ownBlock = v.ownBlock
  · exact own_shorter h h' hu (hn hb) hb
  · exact hu.kept hg (.inr hb)
/-- Rows of other elements lie in other blocks. -/
theorem own_own (h : w.ownsRow base e s v N ys) (hu : w.ownsRow base' e' s' u n xs) (hne : e ≠ e') {k : Nat} (hk : v.ownBlock = some k) : u.ownBlock ≠ some k := by
  intro hk2
  rcases h.2 with ⟨rfl, _⟩ | ⟨g, _, _, rfl, _, hg, _⟩
  · simp [Value.ownBlock] at hk
  · rcases hu.2 with ⟨rfl, _⟩ | ⟨g2, _, _, rfl, _, hg2, _⟩
    · simp [Value.ownBlock] at hk2
    · simp [Value.ownBlock] at hk hk2
      subst hk hk2
      rw [hg] at hg2
      injection hg2 with e2
      injection e2 with _ e3
      exact hne e3
/-- A cell of a row is set. -/
theorem own_put {g c p : Nat} {x : Value} (h : w.ownsRow base e s (.slice (some ⟨g, 0, none⟩) n c) n xs) (_ : p < n * s) : (w.setCell ⟨g, p, none⟩ x).ownsRow base e s (.slice (some ⟨g, 0, none⟩) n c) n (xs.set p x) := by
  refine ⟨by rw [List.length_set]; exact h.1, ?_⟩
  rcases h.2 with ⟨e1, _⟩ | ⟨g1, c1, cur, e1, hbg, hg, hnc, hcm, hcs, ht⟩
  · cases e1
  · have e4 : g = g1 := by injection e1 with e1; injection e1 with e1; injection e1
    have e5 : c = c1 := by injection e1
    subst e4 e5
    refine .inr ⟨g, c, cur.setIfInBounds p x, rfl, hbg, heap_setCell_same w g p cur e x hg, hnc, hcm, by simpa using hcs, ?_⟩
    rw [← ht, Array.toList_setIfInBounds, List.take_set]
end
end Go.Proofs.Ytdhohaeopfgbmaa

/-
  The type of a block: blocks of other types are other blocks. No condition of its own.
-/
namespace Go.Proofs.Ytdhohaeopfgbmaa
open Go Go.RowKit

/-- The block q holds cells of the type t. -/
def TyAt (w : World) (q : Nat) (t : TypeId) : Prop := ∃ cs fr, w.heap[q]? = some (.cells cs t fr)
theorem TyAt.eq {w : World} {q : Nat} {t t' : TypeId} (h : TyAt w q t) (k : TyAt w q t') : t = t' := by
  obtain ⟨cs, fr, h⟩ := h
  obtain ⟨cs', fr', k⟩ := k
  rw [h] at k; injection k with k; injection k
theorem Blk.ty {w : World} {g : Nat} {t : TypeId} {cs : Array Value} (h : Blk w g t cs) : TyAt w g t := ⟨cs, _, h⟩
theorem own_ty {w : World} {base n s : Nat} {e : TypeId} {v : Value} {xs : List Value} (h : w.ownsRow base e s v n xs) {q : Nat} (hq : v.ownBlock = some q) : TyAt w q e := by
  rcases h.2 with ⟨rfl, _⟩ | ⟨g, _, cur, rfl, _, hg, _⟩
  · simp [Value.ownBlock] at hq
  · simp [Value.ownBlock] at hq
    subst hq
    exact ⟨cur, _, hg⟩
/-- Every block in S is of one of the types in Ts. -/
def TyS (w : World) (S : Nat → Prop) (Ts : List TypeId) : Prop := ∀ q, q < w.heap.size → S q → ∃ t ∈ Ts, TyAt w q t
theorem TyAt.below {w w' : World} {q : Nat} {t : TypeId} (h : TyAt w q t) (k : Below w.heap.size w w') : TyAt w' q t := by
  obtain ⟨cs, fr, h⟩ := h
  exact ⟨cs, fr, (k.block q (Array.getElem?_eq_some_iff.1 h).1).trans h⟩
theorem TyAt.lt {w : World} {q : Nat} {t : TypeId} (h : TyAt w q t) : q < w.heap.size := by
  obtain ⟨cs, fr, h⟩ := h
  exact (Array.getElem?_eq_some_iff.1 h).1
theorem Blk.frm_ty {w w' : World} {g : Nat} {t : TypeId} {cs : Array Value} {S : Nat → Prop} {Ts : List TypeId} (h : Blk w g t cs) (k : Frm S w w') (hS : TyS w S Ts) (hn : t ∉ Ts) : Blk w' g t cs :=
  h.frm k fun hs => by
    obtain ⟨t', ht, hq⟩ := hS g h.lt hs
    exact hn ((h.ty.eq hq) ▸ ht)
theorem own_frm_ty {w w' : World} {base n s : Nat} {e : TypeId} {v : Value} {xs : List Value} {S : Nat → Prop} {Ts : List TypeId} (h : w.ownsRow base e s v n xs) (k : Frm S w w') (hS : TyS w S Ts) (hn : e ∉ Ts) : w'.ownsRow base e s v n xs :=
  own_frm h k fun g hg hs => by
    obtain ⟨t', ht, hq⟩ := hS g (own_ty h hg).lt hs
    exact hn (((own_ty h hg).eq hq) ▸ ht)
theorem TyS.no (w : World) (Ts : List TypeId) : TyS w no Ts := fun _ _ h => h.elim
theorem TyS.one {w : World} {g : Nat} {t : TypeId} {cs : Array Value} (h : Blk w g t cs) : TyS w (fun q => q = g) [t] := fun q _ e => ⟨t, by simp, e ▸ h.ty⟩
theorem TyS.two {w : World} {g base n s : Nat} {t e : TypeId} {cs : Array Value} {v : Value} {xs : List Value} (h : Blk w g t cs) (o : w.ownsRow base e s v n xs) : TyS w (fun q => q = g ∨ v.ownBlock = some q) [t, e] := fun q _ hs => by
  rcases hs with rfl | hs
  · exact ⟨t, by simp, h.ty⟩
  · exact ⟨e, by simp, own_ty o hs⟩
theorem TyS.three {w : World} {g base n s base' n' s' : Nat} {t e e' : TypeId} {cs : Array Value} {v v' : Value} {xs xs' : List Value} (h : Blk w g t cs) (o : w.ownsRow base e s v n xs) (o' : w.ownsRow base' e' s' v' n' xs') : TyS w (fun q => q = g ∨ v.ownBlock = some q ∨ v'.ownBlock = some q) [t, e, e'] := fun q _ hs => by
  rcases hs with rfl | hs | hs
  · exact ⟨t, by simp, h.ty⟩
  · exact ⟨e, by simp, own_ty o hs⟩
  · exact ⟨e', by simp, own_ty o' hs⟩
end Go.Proofs.Ytdhohaeopfgbmaa

/-
  Commands and entries: their types, an entry without its row. No condition of its own.
-/
namespace Go.Proofs.Ytdhohaeopfgbmaa
open Go Go.RowKit

theorem cmInfo : (Try.prog.info? 96).map (fun i => (i.zero, i.size, i.bytes)) = some (some (.agg #[.int .i64 0, .string ByteArray.empty, .string ByteArray.empty, .string ByteArray.empty, .string ByteArray.empty]), 5, 72) := by kernel_rfl
def En.row (x : En) : Value := .slice x.A x.n x.c
/-- An entry without its row. -/
def plE (x : En) : En := { x with A := none, c := 0 }
theorem enInfo : (Try.prog.info? 53).map (fun i => (i.zero, i.size, i.bytes)) = some (some (.agg #[.int .i64 0, .int .i64 0, .int .i64 0, .int .i64 0, .slice none 0 0]), 5, 56) := by kernel_rfl
theorem flatEn_app (a b : List En) : flatEn (a ++ b) = flatEn a ++ flatEn b := by unfold flatEn; rw [List.flatMap_append]
end Go.Proofs.Ytdhohaeopfgbmaa

/-
  Are entries few and short? Conditions: rows that memory holds.
-/
namespace Go.Proofs.Ytdhohaeopfgbmaa
open Go Go.RowKit
attribute [local go_sem] cell_set_if

def cmZ (x : Cm) : List Int := [9, (x.path.size : Int), (x.key.size : Int), (x.val.size : Int), (x.old.size : Int)]
/-- How much room is left behind commands. -/
def cmdsL : Int → List Cm → Int
  | n, [] => n
  | n, x :: xs => if 0 ≤ n then cmdsL (roomL n (cmZ x)) xs else n
theorem cmdsL_neg {n : Int} (h : ¬ 0 ≤ n) (l : List Cm) : cmdsL n l = n := by
  cases l with
  | nil => rfl
  | cons x xs => unfold cmdsL; rw [if_neg h]
set_option maxRecDepth 100000 in
set_option maxHeartbeats 4000000 in
theorem cmds_any (left : Int) (A : Option Addr) (n c : Nat) (l : List Cm) (w : World) (hr : Rd w A (flatCm l)) (hn : l.length = n) (hm : n ≤ maxLen) (hl0 : -1 ≤ left) (hl1 : left ≤ 1000000) (hS : ∀ x ∈ l, x.path.size ≤ maxLen ∧ x.key.size ≤ maxLen ∧ x.val.size ≤ maxLen ∧ x.old.size ≤ maxLen) :
    Calls Try.prog 78 #[.int .i64 left, .slice A n c] w fun e w' => e = .returned (.int .i64 (cmdsL left l)) ∧ Below w.heap.size w w' := by
  have HR := Lib.hid hr
  have HN := Lib.hid hn
  have HS := Lib.hid hS
  have hnn : (n : Int) ≤ 9223372036854775807 := by unfold maxLen at hm; omega
  have HL0 := Lib.hid hl0
  have HL1 := Lib.hid hl1
  clear hr hn hl0 hl1 hS
  go_enter Try.func78, Try.ntmps78
  go_wp2
  go_loopw [0, 5] (fun u0 u5 wr => ∃ (k : Nat) (t : Int), k ≤ n ∧ u5 = .int .i64 k ∧ u0 = .int .i64 t ∧ Hid (cmdsL left l = cmdsL t (l.drop k)) ∧ -1 ≤ t ∧ t ≤ 1000000 ∧ Hid (Below w.heap.size w wr)) (fun _ u5 _ => n - (intOf u5).toNat)
  case atStart =>
    exact ⟨0, left, by omega, rfl, rfl, rfl, HL0.out, HL1.out, Below.refl _ _⟩
  case round =>
    obtain ⟨k, t, hk, rfl, rfl, ht, ht0, ht1, HB⟩ := hrel
    by_cases hlt : k < n
    · have hki : (k : Int) < (n : Int) := by omega
      have dk : decide ((k : Int) < (n : Int)) = true := decide_eq_true hki
      by_cases h0 : 0 ≤ t
      · have d0 : decide (0 ≤ t) = true := decide_eq_true h0
        obtain ⟨b1, o1, x, rfl, hbl, hx, c0, c1, c2, c3, c4⟩ := (HR.out.below HB.out).cm (k := k) (by have := HN.out; omega)
        have hsx := HS.out x (List.mem_of_getElem? hx)
        have HW := Lib.hid (drop_at l k x hx)
        have RN : Rd ((wr.alloc (.cells #[.int .i64 9, .int .i64 x.path.size, .int .i64 x.key.size, .int .i64 x.val.size, .int .i64 x.old.size] 3)).drew) (some ⟨wr.heap.size, 0, none⟩) ((cmZ x).map (Value.int .i64)) := Rd.new wr #[.int .i64 9, .int .i64 x.path.size, .int .i64 x.key.size, .int .i64 x.val.size, .int .i64 x.old.size] 3
        have hzs : ∀ z ∈ cmZ x, 0 ≤ z ∧ z ≤ 9223372036854775807 := fun z hz => by
          unfold maxLen at hsx
          unfold cmZ at hz
          simp only [List.mem_cons, List.mem_nil_iff, or_false] at hz
          rcases hz with rfl | rfl | rfl | rfl | rfl <;> omega
        have hle := roomL_le t (cmZ x) (fun z hz => (hzs z hz).1) (by omega)
        have HRM := Lib.hid (room_any t (some ⟨wr.heap.size, 0, none⟩) 5 5 (cmZ x) _ RN rfl (by omega) (by omega) hzs)
        obtain ⟨r, hr9⟩ : ∃ r, r = roomL t (cmZ x) := ⟨_, rfl⟩
        rw [← hr9] at HRM hle
        have HNT : Hid (cmdsL left l = cmdsL r (l.drop (k + 1))) := by
          unfold Hid
          rw [ht.out, HW.out]
          conv => lhs; unfold cmdsL
          rw [if_pos h0, hr9]
        clear hx c0 hr9 hzs RN
        unfold maxLen at hsx
        have s1 : (x.path.size : Int) ≤ 9223372036854775807 := by omega
        have s2 : (x.key.size : Int) ≤ 9223372036854775807 := by omega
        have s3 : (x.val.size : Int) ≤ 9223372036854775807 := by omega
        have s4 : (x.old.size : Int) ≤ 9223372036854775807 := by omega
        clear hsx
        have hb1 : b1 < wr.heap.size := hbl
        have SW : wr.cell? ⟨b1, o1 + k * 5 + 1, none⟩ = some (.string x.path) ∧ wr.cell? ⟨b1, o1 + k * 5 + 2, none⟩ = some (.string x.key) ∧ wr.cell? ⟨b1, o1 + k * 5 + 3, none⟩ = some (.string x.val) ∧ wr.cell? ⟨b1, o1 + k * 5 + 4, none⟩ = some (.string x.old) := ⟨c1, c2, c3, c4⟩
        have ba : Below wr.heap.size wr (wr.alloc (.cells #[.int .i64 9, .int .i64 x.path.size, .int .i64 x.key.size, .int .i64 x.val.size, .int .i64 x.old.size] 3)).drew := ((Below.refl _ _).alloc (Nat.le_refl _) _).drew
        have SA : (wr.alloc (.cells #[.int .i64 9, .int .i64 x.path.size, .int .i64 x.key.size, .int .i64 x.val.size, .int .i64 x.old.size] 3)).drew.cell? ⟨b1, o1 + k * 5 + 1, none⟩ = some (.string x.path) ∧ (wr.alloc (.cells #[.int .i64 9, .int .i64 x.path.size, .int .i64 x.key.size, .int .i64 x.val.size, .int .i64 x.old.size] 3)).drew.cell? ⟨b1, o1 + k * 5 + 2, none⟩ = some (.string x.key) ∧ (wr.alloc (.cells #[.int .i64 9, .int .i64 x.path.size, .int .i64 x.key.size, .int .i64 x.val.size, .int .i64 x.old.size] 3)).drew.cell? ⟨b1, o1 + k * 5 + 3, none⟩ = some (.string x.val) ∧ (wr.alloc (.cells #[.int .i64 9, .int .i64 x.path.size, .int .i64 x.key.size, .int .i64 x.val.size, .int .i64 x.old.size] 3)).drew.cell? ⟨b1, o1 + k * 5 + 4, none⟩ = some (.string x.old) :=
          ⟨(ba.cell (p := ⟨b1, _, none⟩) hb1).trans c1, (ba.cell (p := ⟨b1, _, none⟩) hb1).trans c2, (ba.cell (p := ⟨b1, _, none⟩) hb1).trans c3, (ba.cell (p := ⟨b1, _, none⟩) hb1).trans c4⟩
        go_upto_region 4 with fail
        go_region_held3 (fun W => W.cell? ⟨b1, o1 + k * 5 + 1, none⟩ = some (.string x.path) ∧ W.cell? ⟨b1, o1 + k * 5 + 2, none⟩ = some (.string x.key) ∧ W.cell? ⟨b1, o1 + k * 5 + 3, none⟩ = some (.string x.val) ∧ W.cell? ⟨b1, o1 + k * 5 + 4, none⟩ = some (.string x.old)) (first | exact SW | exact SA | with_reducible assumption)
          (first
            | (go_at_call 79; with_reducible refine HRM.out.mono ?_; rintro e w2 ⟨rfl, hw2⟩; obtain rfl := hw2.symm))
        go_wp2
        go_roundw
        case rel => exact ⟨k + 1, r, by omega, by go_num, rfl, HNT, by omega, by omega, HB.out.trans (ba.mono HB.out.size)⟩
        case measure => simp [intOf]; omega
      · have d0 : decide (0 ≤ t) = false := decide_eq_false h0
        go_wp2
        go_ret
        exact ⟨ret_int (by rw [ht.out, cmdsL_neg (by omega)]), HB.out⟩
    · have dk : decide ((k : Int) < (n : Int)) = false := decide_eq_false (by omega)
      obtain rfl : k = n := by omega
      go_wp2
      go_ret
      exact ⟨ret_int (by rw [ht.out, List.drop_eq_nil_of_le (by have := HN.out; omega)]; rfl), HB.out⟩
/-- How much room is left behind entries. -/
def ensL : Int → List En → Int
  | n, [] => n
  | n, x :: xs => if 0 ≤ n then ensL (cmdsL (roomL n [20]) x.cmds) xs else n
theorem ensL_neg {n : Int} (h : ¬ 0 ≤ n) (l : List En) : ensL n l = n := by
  cases l with
  | nil => rfl
  | cons x xs => unfold ensL; rw [if_neg h]
theorem cmdsL_le (n : Int) (l : List Cm) (h : -1 ≤ n) : -1 ≤ cmdsL n l ∧ cmdsL n l ≤ n := by
  induction l generalizing n with
  | nil => exact ⟨h, Int.le_refl _⟩
  | cons x xs ih =>
    unfold cmdsL
    split
    · have h1 := roomL_le n (cmZ x) (fun z hz => by unfold cmZ at hz; simp only [List.mem_cons, List.mem_nil_iff, or_false] at hz; rcases hz with rfl | rfl | rfl | rfl | rfl <;> omega) (by omega)
      have h2 := ih (roomL n (cmZ x)) h1.1
      omega
    · exact ⟨h, Int.le_refl _⟩
/-- Few, and short. -/
def lightE (few : Nat) (l : List En) : Bool := decide (l.length ≤ few) && decide (0 ≤ ensL 20000 (l.take few))
def En.good (w : World) (x : En) : Prop := Rd w x.A (flatCm x.cmds) ∧ x.cmds.length = x.n ∧ x.n ≤ maxLen ∧ ∀ y ∈ x.cmds, y.path.size ≤ maxLen ∧ y.key.size ≤ maxLen ∧ y.val.size ≤ maxLen ∧ y.old.size ≤ maxLen
set_option maxRecDepth 100000 in
set_option maxHeartbeats 4000000 in
theorem lightE_any (few : Nat) (A : Option Addr) (n c : Nat) (l : List En) (w : World) (hr : Rd w A (flatEn l)) (hn : l.length = n) (hm : n ≤ maxLen) (hf : few ≤ 1000) (hG : ∀ x ∈ l, x.good w) :
    Calls Try.prog 36 #[.int .i64 few, .slice A n c] w fun e w' => e = .returned (.bool (lightE few l)) ∧ Below w.heap.size w w' := by
  have HR := Lib.hid hr
  have HN := Lib.hid hn
  have HG := Lib.hid hG
  have HTL : Hid ((l.take few).length = min n few) := by unfold Hid; rw [List.length_take, hn, Nat.min_comm]
  have hnn : (n : Int) ≤ 9223372036854775807 := by unfold maxLen at hm; omega
  have hfi : (few : Int) ≤ 1000 := by omega
  clear hr hn hG
  go_enter Try.func36, Try.ntmps36
  go_wp2
  go_loopw [5, 6] (fun u5 u6 wr => ∃ (k : Nat) (t : Int), k ≤ n ∧ k ≤ few ∧ u6 = .int .i64 k ∧ u5 = .int .i64 t ∧ Hid (ensL 20000 (l.take few) = ensL t ((l.take few).drop k)) ∧ -1 ≤ t ∧ t ≤ 20000 ∧ Hid (Below w.heap.size w wr)) (fun _ u6 _ => n - (intOf u6).toNat)
  case atStart =>
    exact ⟨0, 20000, by omega, by omega, rfl, rfl, rfl, by omega, by omega, Below.refl _ _⟩
  case round =>
    obtain ⟨k, t, hk, hkf, rfl, rfl, ht, ht0, ht1, HB⟩ := hrel
    by_cases hlt : k < n
    · have hki : (k : Int) < (n : Int) := by omega
      have dk : decide ((k : Int) < (n : Int)) = true := decide_eq_true hki
      by_cases hlf : k < few
      · have dl : decide ((k : Int) < (few : Int)) = true := decide_eq_true (by omega)
        by_cases h0 : 0 ≤ t
        · have d0 : decide (0 ≤ t) = true := decide_eq_true h0
          obtain ⟨b1, o1, x, rfl, hbl, hx, c0, c1, c2, c3, c4⟩ := (HR.out.below HB.out).en (k := k) (by have := HN.out; omega)
          obtain ⟨g1, g2, g3, g4⟩ := HG.out x (List.mem_of_getElem? hx)
          have HW := Lib.hid (drop_at (l.take few) k x (by rw [List.getElem?_take, if_pos hlf]; exact hx))
          have RN : Rd ((wr.alloc (.cells #[.int .i64 20] 3)).drew) (some ⟨wr.heap.size, 0, none⟩) ([(20 : Int)].map (Value.int .i64)) := Rd.new wr #[.int .i64 20] 3
          have hle := roomL_le t [20] (fun z hz => by rw [List.mem_singleton.1 hz]; omega) (by omega)
          have HRM := Lib.hid (room_any t (some ⟨wr.heap.size, 0, none⟩) 1 1 [20] _ RN rfl (by omega) (by omega) (fun z hz => by rw [List.mem_singleton.1 hz]; omega))
          obtain ⟨r, hr9⟩ : ∃ r, r = roomL t [20] := ⟨_, rfl⟩
          rw [← hr9] at HRM hle
          have hle3 := cmdsL_le r x.cmds hle.1
          obtain ⟨r3, hr3⟩ : ∃ r3, r3 = cmdsL r x.cmds := ⟨_, rfl⟩
          rw [← hr3] at hle3
          have HNT : Hid (ensL 20000 (l.take few) = ensL r3 ((l.take few).drop (k + 1))) := by
            unfold Hid
            rw [ht.out, HW.out]
            conv => lhs; unfold ensL
            rw [if_pos h0, hr3, hr9]
          have ba : Below wr.heap.size wr (wr.alloc (.cells #[.int .i64 20] 3)).drew := ((Below.refl _ _).alloc (Nat.le_refl _) _).drew
          have BB := HB.out.trans (ba.mono HB.out.size)
          have hcm := cmds_any r x.A x.n x.c x.cmds _ (g1.below BB) g2 g3 hle.1 (by omega) g4
          rw [← hr3] at hcm
          have HC2 := Lib.hid hcm
          have SA : (wr.alloc (.cells #[.int .i64 20] 3)).drew.cell? ⟨b1, o1 + k * 5 + 4, none⟩ = some (.slice x.A x.n x.c) := (ba.cell (p := ⟨b1, _, none⟩) hbl).trans c4
          clear hx c0 c1 c2 c3 RN g1 g2 g3 g4 hr9 hr3 hcm
          go_upto_region 5 with fail
          go_region_held3 (fun W => W.cell? ⟨b1, o1 + k * 5 + 4, none⟩ = some (.slice x.A x.n x.c)) (first | exact c4 | exact SA | with_reducible assumption)
            (first
              | (go_at_call 79; with_reducible refine HRM.out.mono ?_; rintro e w2 ⟨rfl, hw2⟩; obtain rfl := hw2.symm)
              | (go_at_call 78; with_reducible refine HC2.out.mono ?_; rintro e w3 ⟨rfl, b3⟩
                 have HB3 := Lib.hid (BB.trans (b3.mono BB.size))
                 have S3 := (b3.cell (p := ⟨b1, o1 + k * 5 + 4, none⟩) (by have := ba.size; show b1 < _; omega)).trans SA))
          go_wp2
          go_roundw
          case rel => exact ⟨k + 1, r3, by omega, by omega, by go_num, rfl, HNT, by omega, by omega, HB3.out⟩
          case measure => simp [intOf]; omega
        · have d0 : decide (0 ≤ t) = false := decide_eq_false h0
          have HF : Hid (lightE few l = false) := by
            unfold Hid lightE
            rw [ht.out, ensL_neg h0, d0, Bool.and_false]
          go_wp2
          all_goals go_ret
          all_goals exact ⟨ret_bool HF.out.symm, HB.out⟩
      · have dl : decide ((k : Int) < (few : Int)) = false := decide_eq_false (by omega)
        have hd : decide ((n : Int) ≤ (few : Int)) = false := decide_eq_false (by omega)
        have HF : Hid (lightE few l = false) := by
          unfold Hid lightE
          rw [HN.out, decide_eq_false (by omega), Bool.false_and]
        go_wp2
        go_ret
        exact ⟨ret_bool HF.out.symm, HB.out⟩
    · have dk : decide ((k : Int) < (n : Int)) = false := decide_eq_false (by omega)
      obtain rfl : k = n := by omega
      have hd : decide ((k : Int) ≤ (few : Int)) = true := decide_eq_true (by omega)
      have HF : Hid (lightE few l = decide (0 ≤ t)) := by
        unfold Hid lightE
        rw [HN.out, decide_eq_true hkf, ht.out, List.drop_eq_nil_of_le (by have := HTL.out; omega), Bool.true_and]
        rfl
      go_wp2
      go_ret
      exact ⟨ret_bool HF.out.symm, HB.out⟩
end Go.Proofs.Ytdhohaeopfgbmaa

/-
  Rows of slices: when no two of them share memory; what may be written. No condition of its own.
-/
namespace Go.Proofs.Ytdhohaeopfgbmaa
open Go Go.RowKit

/-- No two of them lie in one block. -/
def ApartV (V : List Value) : Prop := ∀ (i j : Nat) (x y : Value) (k : Nat), i ≠ j → V[i]? = some x → V[j]? = some y → x.ownBlock = some k → y.ownBlock ≠ some k
theorem ApartV.snoc {V : List Value} (h : ApartV V) {v : Value} (hv : ∀ (i : Nat) (x : Value) (b : Nat), V[i]? = some x → x.ownBlock = some b → v.ownBlock ≠ some b) : ApartV (V ++ [v]) := by
  intro i j x y k hij hx hy hk
  have at_ : ∀ (i : Nat) x, (V ++ [v])[i]? = some x → V[i]? = some x ∨ i = V.length ∧ x = v := fun i x h => by
    by_cases hc : i < V.length
    · rw [List.getElem?_append_left hc] at h; exact .inl h
    · rw [List.getElem?_append_right (by omega)] at h
      have : i - V.length = 0 := by
        by_cases h0 : i - V.length = 0
        · exact h0
        · rw [List.getElem?_eq_none (by simp; omega)] at h; cases h
      rw [this] at h
      simp at h
      exact .inr ⟨by omega, h.symm⟩
  rcases at_ i x hx with h1 | ⟨h1, rfl⟩
  · rcases at_ j y hy with h2 | ⟨h2, rfl⟩
    · exact h i j x y k hij h1 h2 hk
    · exact hv i x k h1 hk
  · rcases at_ j y hy with h2 | ⟨h2, rfl⟩
    · intro hc; exact hv j y k h2 hc hk
    · omega
/-- Blocks of the rows behind V. -/
def VS (V : List Value) : Nat → Prop := fun k => ∃ (i : Nat) (x : Value), V[i]? = some x ∧ x.ownBlock = some k
theorem own_free {w : World} {base : Nat} {e : TypeId} {s n c g : Nat} {xs : List Value} (h : w.ownsRow base e s (.slice (some ⟨g, 0, none⟩) n c) n xs) (i : Nat) : w.frozen? ⟨g, i, none⟩ = false := by
  rcases h.2 with ⟨e1, _⟩ | ⟨g1, c1, cur, e1, _, hg, _⟩
  · cases e1
  · have e4 : g = g1 := by injection e1 with e1; injection e1 with e1; injection e1
    subst e4
    exact frozen_of_row w g i cur e hg
end Go.Proofs.Ytdhohaeopfgbmaa

/-
  Lists of entries behind a row of slices: how they lie, and when no two of them share memory. No condition of its own.
-/
namespace Go.Proofs.Ytdhohaeopfgbmaa
open Go Go.RowKit

/-- A list of entries, of the call's own. -/
inductive MadeEn (base : Nat) (e : Ending) (w' : World) (xs : List En) : Prop
  | mk (A : Option Addr) (n c : Nat) (hn : xs.length = n) (he : e = .returned (.slice A n c)) (ho : w'.ownsRow base 53 5 (.slice A n c) n (flatEn xs)) : MadeEn base e w' xs
/-- Lists behind a row of slices. -/
structure RowsEn (w : World) (base : Nat) (V : List Value) (N : Nat) (f : Nat → List En) : Prop where
  len : V.length = N
  at_ : ∀ i, i < N → ∃ A c, V[i]? = some (.slice A (f i).length c) ∧ w.ownsRow base 53 5 (.slice A (f i).length c) (f i).length (flatEn (f i))
theorem RowsEn.frm {w w' : World} {base N : Nat} {V : List Value} {f : Nat → List En} {S : Nat → Prop} (h : RowsEn w base V N f) (k : Frm S w w') (hs : ∀ (i : Nat) (x : Value) (b : Nat), V[i]? = some x → x.ownBlock = some b → ¬ S b) : RowsEn w' base V N f :=
  ⟨h.len, fun i hi => by obtain ⟨A, c, h1, h2⟩ := h.at_ i hi; exact ⟨A, c, h1, own_frm h2 k fun g hg => hs i _ g h1 hg⟩⟩
theorem RowsEn.below {w w' : World} {base N : Nat} {V : List Value} {f : Nat → List En} (h : RowsEn w base V N f) (k : Below w.heap.size w w') : RowsEn w' base V N f :=
  h.frm (S := no) (Frm.of_below k) fun _ _ _ _ _ h => h
theorem RowsEn.ne {w : World} {base base' N s n : Nat} {V : List Value} {f : Nat → List En} {v : Value} {e : TypeId} {xs : List Value} (h : RowsEn w base V N f) (hv : w.ownsRow base' e s v n xs) (he : e ≠ 53) : ∀ (i : Nat) (x : Value) (b : Nat), V[i]? = some x → x.ownBlock = some b → v.ownBlock ≠ some b := fun i x b hx hb => by
  obtain ⟨A, c, h1, h2⟩ := h.at_ i (by have := (List.getElem?_eq_some_iff.1 hx).1; rw [h.len] at this; exact this)
  rw [hx] at h1; injection h1 with h1; subst h1
  exact own_own h2 hv (Ne.symm he) hb
theorem RowsEn.neB {w : World} {base N g : Nat} {V : List Value} {f : Nat → List En} {t : TypeId} {cs : Array Value} (h : RowsEn w base V N f) (hB : Blk w g t cs) (he : t ≠ 53) : ∀ (i : Nat) (x : Value) (b : Nat), V[i]? = some x → x.ownBlock = some b → b ≠ g := fun i x b hx hb e => by
  obtain ⟨A, c, h1, h2⟩ := h.at_ i (by have := (List.getElem?_eq_some_iff.1 hx).1; rw [h.len] at this; exact this)
  rw [hx] at h1; injection h1 with h1; subst h1
  rw [e] at hb
  exact Blk.own_ne hB h2 (Ne.symm he) hb
theorem RowsEn.lt {w : World} {base N : Nat} {V : List Value} {f : Nat → List En} (h : RowsEn w base V N f) : ∀ (i : Nat) (x : Value) (b : Nat), V[i]? = some x → x.ownBlock = some b → base ≤ b ∧ b < w.heap.size := fun i x b hx hb => by
  obtain ⟨A, c, h1, h2⟩ := h.at_ i (by have := (List.getElem?_eq_some_iff.1 hx).1; rw [h.len] at this; exact this)
  rw [hx] at h1; injection h1 with h1; subst h1
  exact h2.lt b hb
theorem RowsEn.snoc {w : World} {base N : Nat} {V : List Value} {f : Nat → List En} (h : RowsEn w base V N f) {A : Option Addr} {n c : Nat} {xs : List En} (hn : xs.length = n) (ho : w.ownsRow base 53 5 (.slice A n c) n (flatEn xs)) : RowsEn w base (V ++ [.slice A n c]) (N + 1) (fun j => if j = N then xs else f j) := by
  refine ⟨by rw [List.length_append, h.len]; rfl, fun i hi => ?_⟩
  by_cases hc : i = N
  · subst hc
    subst hn
    refine ⟨A, c, ?_, ?_⟩
    · rw [List.getElem?_append_right (by rw [h.len]; omega), h.len]; simp
    · simpa using ho
  · obtain ⟨B, d, h1, h2⟩ := h.at_ i (by omega)
    refine ⟨B, d, ?_, ?_⟩
    · rw [List.getElem?_append_left (by rw [h.len]; omega)]; simpa [hc] using h1
    · simpa [hc] using h2
theorem RowsEn.congr {w : World} {base N : Nat} {V : List Value} {f f' : Nat → List En} (h : RowsEn w base V N f) (e : ∀ i, i < N → f' i = f i) : RowsEn w base V N f' := ⟨h.len, fun i hi => by
  obtain ⟨A, c, h1, h2⟩ := h.at_ i hi
  rw [e i hi]; exact ⟨A, c, h1, h2⟩⟩
end Go.Proofs.Ytdhohaeopfgbmaa

/-
  Entries copied, and compared: copyCmds, copyEntries, SameCmds, SameEntries, SameReq. Conditions: rows of no more than a hundred thousand.
-/
namespace Go.Proofs.Ytdhohaeopfgbmaa
open Go Go.RowKit
attribute [local go_sem] cell_set_if

theorem flatCm_one (l : List Cm) : ∀ u ∈ flatCm l, u.oneCell' = true := flat_one Cm.cells (fun x u hu => by unfold Cm.cells at hu; simp at hu; rcases hu with rfl | rfl | rfl | rfl | rfl <;> rfl) l
theorem flatEn_one (l : List En) : ∀ u ∈ flatEn l, u.oneCell' = true := flat_one En.cells (fun x u hu => by unfold En.cells at hu; simp at hu; rcases hu with rfl | rfl | rfl | rfl | rfl <;> rfl) l
/-- An entry whose commands lie somewhere. -/
def En.has (w : World) (x : En) : Prop := Rd w x.A (flatCm x.cmds) ∧ x.cmds.length = x.n ∧ x.n ≤ 100000
theorem En.has.below {w w' : World} {x : En} (h : x.has w) (b : Below w.heap.size w w') : x.has w' := ⟨h.1.below b, h.2⟩
/-- An entry whose commands lie in a row of one's own. -/
def En.mine (w : World) (base : Nat) (x : En) : Prop := w.ownsRow base 96 5 x.row x.n (flatCm x.cmds) ∧ x.cmds.length = x.n ∧ x.n ≤ 100000
theorem En.mine.has {w : World} {base : Nat} {x : En} (h : x.mine w base) : x.has w := ⟨Rd.of_own h.1, h.2⟩
theorem En.mine.frm {w w' : World} {base : Nat} {x : En} {S : Nat → Prop} {Ts : List TypeId} (h : x.mine w base) (k : Frm S w w') (hS : TyS w S Ts) (hn : 96 ∉ Ts) : x.mine w' base := ⟨own_frm_ty h.1 k hS hn, h.2⟩
theorem En.mine.below {w w' : World} {base : Nat} {x : En} (h : x.mine w base) (b : Below w.heap.size w w') : x.mine w' base := ⟨own_frm h.1 (Frm.of_below b (S := no)) (fun _ _ => id), h.2⟩
theorem En.mine.low {w : World} {base base' : Nat} {x : En} (h : x.mine w base) (hb : base' ≤ base) : x.mine w base' := ⟨own_base h.1 hb, h.2⟩
theorem plE_eq {x y : En} (h : plE x = plE y) : x.index = y.index ∧ x.term = y.term ∧ x.client = y.client ∧ x.seq = y.seq ∧ x.n = y.n ∧ x.cmds = y.cmds := by
  refine ⟨?_, ?_, ?_, ?_, ?_, ?_⟩
  · show (plE x).index = (plE y).index; rw [h]
  · show (plE x).term = (plE y).term; rw [h]
  · show (plE x).client = (plE y).client; rw [h]
  · show (plE x).seq = (plE y).seq; rw [h]
  · show (plE x).n = (plE y).n; rw [h]
  · show (plE x).cmds = (plE y).cmds; rw [h]
theorem flatEn_set4 (xs : List En) (k : Nat) (hk : k < xs.length) (A : Option Addr) (n c : Nat) (hn : xs[k].n = n) : (flatEn xs).set (k * 5 + 4) (.slice A n c) = flatEn (xs.set k { xs[k] with A := A, c := c }) := by
  induction xs generalizing k with
  | nil => exact absurd hk (by simp)
  | cons y ys ih =>
    have e : ∀ (z : En) zs, flatEn (z :: zs) = .int .i64 z.index :: .int .i64 z.term :: .int .i64 z.client :: .int .i64 z.seq :: .slice z.A z.n z.c :: flatEn zs := fun _ _ => rfl
    cases k with
    | zero =>
      have hn' : y.n = n := hn
      subst hn'
      rw [e]; rfl
    | succ k =>
      have h := ih k (by simpa using hk) (by simpa using hn)
      rw [show (k + 1) * 5 + 4 = (k * 5 + 4) + 1 + 1 + 1 + 1 + 1 by omega, e, List.set_cons_succ, List.set_cons_succ, List.set_cons_succ, List.set_cons_succ, List.set_cons_succ, h]
      rfl
set_option maxRecDepth 100000 in
theorem copyCm_any (A : Option Addr) (n c : Nat) (xs : List Cm) (w : World) (hr : Rd w A (flatCm xs)) (hn : xs.length = n) (hn1 : n ≤ 100000) :
    Calls Try.prog 80 #[.slice A n c] w fun e w' => (∃ B d, e = .returned (.slice B n d) ∧ w'.ownsRow w.heap.size 96 5 (.slice B n d) n (flatCm xs)) ∧ Below w.heap.size w w' := by
  obtain ⟨i0, hi0, hz0, hz1, hz2⟩ := info_parts cmInfo
  go_enter Try.func80, Try.ntmps80
  go_wp2_with (first
    | (at_builtin
       refine wpList_app rfl (.const (.slice none 0 0)) (.tmp 3) 49 rfl w.heap.size 96 i0 _ 5 72 Try.underlying49 hi0 hz0 hz1 hz2 rfl (by omega) (.slice none 0 0) 0 _ rfl (World.ownsRow_nil _ _ _ _) A n c (flatCm xs) rfl hr (by rw [flatCm_len, hn]) (flatCm_one xs) (by unfold maxLen; omega) (by omega) (Nat.le_refl _) ?_
       intro v5 w5 hown5 hg5 hb5 hat5
       rw [Nat.zero_add, List.nil_append] at hown5
       obtain ⟨A1, c1, rfl, hc1⟩ := own_form hown5))
  go_ret
  exact ⟨⟨A1, c1, rfl, hown5⟩, hb5⟩
/-- Entries copied: a list of the call's own, that tells the same, with commands of its own. -/
inductive CopyEn (base : Nat) (e : Ending) (w' : World) (xs : List En) : Prop
  | mk (A : Option Addr) (n c : Nat) (ys : List En) (hn : ys.length = n) (he : e = .returned (.slice A n c)) (ho : w'.ownsRow base 53 5 (.slice A n c) n (flatEn ys)) (hp : ys.map plE = xs.map plE) (hm : ∀ y ∈ ys, y.mine w' base) : CopyEn base e w' xs
set_option maxRecDepth 100000 in
set_option maxHeartbeats 8000000 in
theorem copyEn_any (A : Option Addr) (n c : Nat) (xs : List En) (w : World) (hr : Rd w A (flatEn xs)) (hn : xs.length = n) (hn1 : n ≤ 100000) (hh : ∀ x ∈ xs, x.has w) :
    Calls Try.prog 37 #[.slice A n c] w fun e w' => CopyEn w.heap.size e w' xs ∧ Below w.heap.size w w' := by
  obtain ⟨i0, hi0, hz0, hz1, hz2⟩ := info_parts enInfo
  have HN := Lib.hid hn
  have HH := Lib.hid hh
  have hni : (n : Int) ≤ 100000 := by omega
  go_enter Try.func37, Try.ntmps37
  go_wp2_with (first
    | (at_builtin
       refine wpList_app rfl (.const (.slice none 0 0)) (.tmp 4) 41 rfl w.heap.size 53 i0 _ 5 56 Try.underlying41 hi0 hz0 hz1 hz2 rfl (by omega) (.slice none 0 0) 0 _ rfl (World.ownsRow_nil _ _ _ _) A n c (flatEn xs) rfl hr (by rw [flatEn_len, hn]) (flatEn_one xs) (by unfold maxLen; omega) (by omega) (Nat.le_refl _) ?_
       intro v5 w5 hown5 hg5 hb5 hat5
       rw [Nat.zero_add, List.nil_append] at hown5
       obtain ⟨A1, c1, rfl, hc1⟩ := own_form hown5))
  have HO5 := Lib.hid hown5
  have HB5 := Lib.hid hb5
  clear hr hn hh hown5 hb5 hg5 hat5
  go_loopw [3] (fun u3 wr => ∃ (k : Nat) (fs : List En), k ≤ n ∧ u3 = .int .i64 k ∧ Hid (fs.length = k ∧ fs.map plE = (xs.take k).map plE) ∧ Hid (wr.ownsRow w.heap.size 53 5 (.slice A1 n c1) n (flatEn (fs ++ xs.drop k))) ∧ Hid (∀ y ∈ fs, y.mine wr w.heap.size) ∧ Hid (Below w.heap.size w wr)) (fun u3 _ => n - (intOf u3).toNat)
  case atStart => exact ⟨0, [], by omega, rfl, ⟨rfl, rfl⟩, HO5.out, fun y hy => absurd hy (by simp), HB5.out⟩
  case round =>
    clear HO5 HB5
    obtain ⟨k, fs, hkn, rfl, HF, HO, HM, HB⟩ := hrel
    by_cases hlt : k < n
    · have hki : (k : Int) < (n : Int) := by omega
      obtain ⟨g, c2, hv, _⟩ := HO.out.form (by omega)
      have hA : A1 = some ⟨g, 0, none⟩ := by injection hv
      subst hA
      obtain ⟨x, hx⟩ : ∃ x, xs[k]? = some x := ⟨_, List.getElem?_eq_getElem (by have := HN.out; omega)⟩
      have hkx : k < xs.length := by have := HN.out; omega
      have hxe : xs[k] = x := by rw [List.getElem?_eq_getElem hkx] at hx; exact Option.some.inj hx
      have hd : xs.drop k = x :: xs.drop (k + 1) := by rw [List.drop_eq_getElem_cons hkx, hxe]
      have hat : (fs ++ xs.drop k)[k]? = some x := by rw [List.getElem?_append_right (by have := HF.out.1; omega), HF.out.1, Nat.sub_self, hd]; rfl
      have hlen : k < (fs ++ xs.drop k).length := (List.getElem?_eq_some_iff.1 hat).1
      obtain ⟨b1, o1, x', hA', _, hx', d0, d1, d2, d3, d4⟩ := (Rd.of_own HO.out).en (k := k) hlen
      injection hA' with hA'
      injection hA' with e1 e2
      subst e1 e2
      have hxx : x' = x := Option.some.inj (hx'.symm.trans hat)
      subst hxx
      rw [Nat.zero_add] at d4
      have z4 := own_free HO.out (k * 5 + 4)
      have hxh := HH.out x' (List.mem_of_getElem? hx)
      have hcp := copyCm_any x'.A x'.n x'.c x'.cmds wr (hxh.1.below HB.out) hxh.2.1 hxh.2.2
      have HC := Lib.hid hcp
      have HX := Lib.hid hx
      have HXH := Lib.hid hxh.2
      have hnx : (fs ++ xs.drop k)[k] = x' := by rw [List.getElem?_eq_getElem hlen] at hat; exact Option.some.inj hat
      have HSET : Hid (∀ B d, (flatEn (fs ++ xs.drop k)).set (k * 5 + 4) (.slice B x'.n d) = flatEn ((fs ++ [{ x' with A := B, c := d }]) ++ xs.drop (k + 1))) := fun B d => by
        rw [flatEn_set4 _ k hlen B x'.n d (by rw [hnx]), hnx, hd, List.set_append_right _ _ (by have := HF.out.1; omega), HF.out.1, Nat.sub_self, List.set_cons_zero, List.append_assoc]
        rfl
      have hgl : g < wr.heap.size := (HO.out.lt g rfl).2
      have hglo : w.heap.size ≤ g := (HO.out.lt g rfl).1
      clear hcp hx hxe hd hat hlen hx' hxh hnx d0 d1 d2 d3 hv hkx
      go_wp2_with (go_at_call 80; refine HC.out.mono ?_; rintro e w7 ⟨⟨B, d, rfl, ho7⟩, b7⟩
                   have O7 := own_frm HO.out (Frm.of_below b7 (S := no)) (fun _ _ => id)
                   have x7 : w7.cell? ⟨g, k * 5 + 4, none⟩ = some (.slice x'.A x'.n x'.c) := (b7.cell (p := ⟨g, k * 5 + 4, none⟩) (block_lt_of_cell d4)).trans d4
                   have z7 := own_free O7 (k * 5 + 4))
      have FS : Frm (at1 g) w7 (w7.setCell ⟨g, k * 5 + 4, none⟩ (.slice B x'.n d)) := (Frm.refl (at1 g) w7).setCell (p := ⟨g, k * 5 + 4, none⟩) (fun _ => rfl) _
      have TS : TyS w7 (at1 g) [53] := fun q _ hq => ⟨_, by simp, own_ty O7 (by have : q = g := hq; rw [this]; rfl)⟩
      have B7 := HB.out.trans (b7.mono HB.out.size)
      go_roundw
      case rel =>
        refine ⟨k + 1, fs ++ [{ x' with A := B, c := d }], by omega, by go_num, ?_, ?_, ?_, ?_⟩
        · have h := HF.out
          refine ⟨by rw [List.length_append, h.1]; rfl, ?_⟩
          rw [List.take_add_one, HX.out]
          simp only [List.map_append, h.2, List.map_cons, List.map_nil, Option.toList]
          rfl
        · show World.ownsRow _ _ _ _ _ _ _
          rw [← HSET.out B d]
          exact own_put O7 (by omega)
        · intro y hy
          rcases List.mem_append.1 hy with h | h
          · exact ((HM.out y h).below b7).frm FS TS (by decide)
          · rw [List.mem_singleton.1 h]
            have hm : En.mine w7 w.heap.size { x' with A := B, c := d } := ⟨own_base ho7 HB.out.size, HXH.out⟩
            exact hm.frm FS TS (by decide)
        · exact B7.setCell hglo _
      case measure => simp [intOf]; omega
    · obtain rfl : k = n := by omega
      go_wp2
      go_ret
      have ho := HO.out
      rw [List.drop_of_length_le (by have := HN.out; omega), List.append_nil] at ho
      have hp := HF.out.2
      rw [List.take_of_length_le (by have := HN.out; omega)] at hp
      exact ⟨⟨A1, k, c1, fs, HF.out.1, rfl, ho, hp, HM.out⟩, HB.out⟩
end Go.Proofs.Ytdhohaeopfgbmaa

/-
  Entries compared, where they tell the same: SameCmds, SameEntries, SameReq. Conditions: rows of no more than a hundred thousand.
-/
namespace Go.Proofs.Ytdhohaeopfgbmaa
open Go Go.RowKit
attribute [local go_sem] cell_set_if

set_option maxRecDepth 100000 in
set_option maxHeartbeats 4000000 in
theorem samecms_yes (A B : Option Addr) (n c d : Nat) (l : List Cm) (w : World) (ha : Rd w A (flatCm l)) (hb : Rd w B (flatCm l)) (hn : l.length = n) (hm : n ≤ 1000000) :
    Calls Try.prog 41 #[.slice A n c, .slice B n d] w fun e w' => e = .returned (.bool true) ∧ Qt w w' := by
  have HA := Lib.hid ha
  have HB := Lib.hid hb
  have HN := Lib.hid hn
  have hnn : (n : Int) ≤ 1000000 := by omega
  have hq : ((n : Int) != (n : Int)) = false := by simp
  clear ha hb hn
  go_enter Try.func41, Try.ntmps41
  go_wp2
  go_loopw [4, 5] (fun u4 u5 wr => ∃ k : Nat, k ≤ n ∧ u5 = .int .i64 k ∧ Qt w wr) (fun _ u5 _ => n - (intOf u5).toNat)
  case atStart => exact ⟨0, by omega, rfl, Qt.refl _⟩
  case round =>
    obtain ⟨k, hk, rfl, hQ⟩ := hrel
    have hqc : ∀ p, wr.cell? p = w.cell? p := fun p => by obtain ⟨m, rfl⟩ := hQ; rfl
    by_cases hlt : k < n
    · obtain ⟨b1, o1, x, rfl, _, hx, d0, d1, d2, d3, d4⟩ := HA.out.cm (k := k) (by have := HN.out; omega)
      obtain ⟨b2, o2, y, rfl, _, hy, e0, e1, e2, e3, e4⟩ := HB.out.cm (k := k) (by have := HN.out; omega)
      obtain rfl : y = x := Option.some.inj (hy.symm.trans hx)
      rw [← hqc] at d0 d1 d2 d3 d4 e0 e1 e2 e3 e4
      have hki : (k : Int) < (n : Int) := by omega
      have h0 : (y.kind == y.kind) = true := by simp
      have h1 : (y.path.toList == y.path.toList) = true := by simp
      have h2 : (y.key.toList == y.key.toList) = true := by simp
      have h3 : (y.val.toList == y.val.toList) = true := by simp
      have h4 : (y.old.toList == y.old.toList) = true := by simp
      clear hx hy hqc
      go_wp2
      go_quiet (fail)
      go_wp2
      go_roundw
      case rel => exact ⟨k + 1, by omega, by go_num, hQ.trans (Qt.drewN _ _)⟩
      case measure => simp [intOf]; omega
    · obtain rfl : k = n := by omega
      clear hqc
      go_wp2
      go_ret
      exact ⟨rfl, hQ⟩
theorem plE_at {xs ys : List En} (h : xs.map plE = ys.map plE) {k : Nat} {x y : En} (hx : xs[k]? = some x) (hy : ys[k]? = some y) : plE x = plE y := by
  have h1 : (xs.map plE)[k]? = some (plE x) := by rw [List.getElem?_map, hx]; rfl
  rw [h, List.getElem?_map, hy] at h1
  exact (Option.some.inj h1).symm
set_option maxRecDepth 100000 in
set_option maxHeartbeats 4000000 in
theorem sameens_yes (A B : Option Addr) (n c d : Nat) (xs ys : List En) (w : World) (ha : Rd w A (flatEn xs)) (hb : Rd w B (flatEn ys)) (hn : xs.length = n) (hm : n ≤ 1000000) (hp : xs.map plE = ys.map plE) (h1 : ∀ x ∈ xs, x.has w) (h2 : ∀ y ∈ ys, y.has w) :
    Calls Try.prog 20 #[.slice A n c, .slice B n d] w fun e w' => e = .returned (.bool true) ∧ Qt w w' := by
  have HA := Lib.hid ha
  have HB := Lib.hid hb
  have HN := Lib.hid hn
  have hn2 : ys.length = n := by have := congrArg List.length hp; simp only [List.length_map] at this; omega
  have HM := Lib.hid hn2
  have HP := Lib.hid hp
  have H1 := Lib.hid h1
  have H2 := Lib.hid h2
  have hnn : (n : Int) ≤ 1000000 := by omega
  have hq : ((n : Int) != (n : Int)) = false := by simp
  clear ha hb hn hn2 hp h1 h2
  go_enter Try.func20, Try.ntmps20
  dsimp only [List.append]
  go_wp2
  go_loopw [4, 5] (fun u4 u5 wr => ∃ k : Nat, k ≤ n ∧ u5 = .int .i64 k ∧ Qt w wr) (fun _ u5 _ => n - (intOf u5).toNat)
  case atStart => exact ⟨0, by omega, rfl, Qt.refl _⟩
  case round =>
    obtain ⟨k, hk, rfl, hQ⟩ := hrel
    have hqc : ∀ p, wr.cell? p = w.cell? p := fun p => by obtain ⟨m, rfl⟩ := hQ; rfl
    by_cases hlt : k < n
    · obtain ⟨b1, o1, x, rfl, _, hx, d0, d1, d2, d3, d4⟩ := HA.out.en (k := k) (by have := HN.out; omega)
      obtain ⟨b2, o2, y, rfl, _, hy, e0, e1, e2, e3, e4⟩ := HB.out.en (k := k) (by have := HM.out; omega)
      obtain ⟨p1, p2, p3, p4, p5, p6⟩ := plE_eq (plE_at HP.out hx hy)
      have hxh := H1.out x (List.mem_of_getElem? hx)
      have hyh := H2.out y (List.mem_of_getElem? hy)
      rw [← hqc] at d0 d1 d2 d3 d4 e0 e1 e2 e3 e4
      rw [← p1] at e0
      rw [← p2] at e1
      rw [← p3] at e2
      rw [← p4] at e3
      rw [← p5] at e4
      have hki : (k : Int) < (n : Int) := by omega
      have g0 : (x.index == x.index) = true := by simp
      have g1 : (x.term == x.term) = true := by simp
      have g2 : (x.client == x.client) = true := by simp
      have g3 : (x.seq == x.seq) = true := by simp
      have hS : ∀ m, Calls Try.prog 41 #[.slice x.A x.n x.c, .slice y.A x.n y.c] (wr.drewN m) fun e w' => e = .returned (.bool true) ∧ ∃ q, w' = (wr.drewN m).drewN q := fun m =>
        samecms_yes x.A y.A x.n x.c y.c x.cmds _ ((hxh.1.below (hQ.below _)).drewN m) (by rw [p6]; exact (hyh.1.below (hQ.below _)).drewN m) hxh.2.1 (by have := hxh.2.2; omega)
      have HS := Lib.hid hS
      clear hx hy hqc p1 p2 p3 p4 p5 p6 hxh hyh hS
      go_wp2
      go_quiet ((go_at_call 41; exact Calls.quiet_of (HS.out _)))
      go_wp2
      go_roundw
      case rel => exact ⟨k + 1, by omega, by go_num, hQ.trans (Qt.drewN _ _)⟩
      case measure => simp [intOf]; omega
    · obtain rfl : k = n := by omega
      clear hqc
      go_wp2
      go_ret
      exact ⟨rfl, hQ⟩
end Go.Proofs.Ytdhohaeopfgbmaa

/-
  Entries lent with room behind them, in which a mark stands; and that stay as they were. Condition: no more than a hundred thousand.
-/
namespace Go.Proofs.Ytdhohaeopfgbmaa
open Go Go.RowKit
attribute [local go_sem] cell_set_if

def lentMarkEn : En := ⟨-77, 0, 0, 0, none, 0, 0, []⟩
theorem Rd.pre {w : World} {A : Option Addr} {xs ys : List Value} (h : Rd w A (xs ++ ys)) : Rd w A xs := fun j x hx => h j x (by rw [List.getElem?_append_left (List.getElem?_eq_some_iff.1 hx).1]; exact hx)
/-- A lent list: n entries that tell the same, and one behind them. -/
inductive LentEn (base : Nat) (e : Ending) (w' : World) (ks : List En) : Prop
  | mk (g n c : Nat) (ys : List En) (hn : ys.length = n) (hc : n + 1 ≤ c) (he : e = .returned (.slice (some ⟨g, 0, none⟩) n c)) (hp : ys.map plE = ks.map plE) (hm : ∀ y ∈ ys, y.mine w' base) (ho : w'.ownsRow base 53 5 (.slice (some ⟨g, 0, none⟩) (n + 1) c) (n + 1) (flatEn (ys ++ [lentMarkEn]))) : LentEn base e w' ks
set_option maxRecDepth 100000 in
set_option maxHeartbeats 2000000 in
theorem lentEn_any (A : Option Addr) (n c : Nat) (ks : List En) (w : World) (hr : Rd w A (flatEn ks)) (hn : ks.length = n) (hn1 : n ≤ 100000) (hh : ∀ x ∈ ks, x.has w) :
    Calls Try.prog 11 #[.slice A n c] w fun e w' => LentEn w.heap.size e w' ks ∧ Below w.heap.size w w' := by
  obtain ⟨i0, hi0, hz0, hz1, hz2⟩ := info_parts enInfo
  have HC := Lib.hid (copyEn_any A n c ks w hr hn hn1 hh)
  have HN := Lib.hid hn
  have hnn : (n : Int) ≤ 100000 := by omega
  have HX : ∀ ys : List En, Hid (flatEn ys ++ [.int .i64 (-77), .int .i64 0, .int .i64 0, .int .i64 0, .slice none 0 0] = flatEn (ys ++ [lentMarkEn])) := fun ys => by unfold Hid; rw [flatEn_app]; rfl
  clear hr hn hh
  go_enter Try.func11, Try.ntmps11
  go_wp2_with (first
    | (go_at_call 37; with_reducible refine HC.out.mono ?_; rintro e w1 ⟨⟨A1, n1, c1, ys, hn1', rfl, ho1, hp1, hm1⟩, b1⟩
       obtain rfl : n1 = n := by have := congrArg List.length hp1; have := HN.out; simp only [List.length_map] at *; omega)
    | (at_builtin
       refine wpList_app rfl (.tmp 4) (.tmp 6) 41 rfl w.heap.size 53 i0 _ 5 56 Try.underlying41 hi0 hz0 hz1 hz2 rfl (by omega) (.slice A1 n1 c1) n1 (flatEn ys) rfl (ho1.alloc _) _ 1 1 _ rfl (Rd.new w1 _ 53) rfl (by simp [Value.oneCell']) (by unfold maxLen; omega) (by omega) (by have := b1.size; simp; omega) ?_
       intro v5 w5 hown5 hg5 hb5 hat5
       have F5 : Frm (fun k => (Value.slice A1 n1 c1).ownBlock = some k) w1 w5 := ((Frm.refl _ w1).alloc _).grown hg5 (fun k hk _ => hk)
       have T5 : TyS w1 (fun k => (Value.slice A1 n1 c1).ownBlock = some k) [53] := fun k _ hk => ⟨_, by simp, own_ty ho1 hk⟩
       have M5 : ∀ y ∈ ys, y.mine w5 w.heap.size := fun y hy => (hm1 y hy).frm F5 T5 (by decide)
       rw [(HX ys).out] at hown5
       obtain ⟨g5, c5, rfl, _, _⟩ := hown5.form (by omega)
       have hc5 : n1 + 1 ≤ c5 := by obtain ⟨A6, c6, hv6, h6⟩ := own_form hown5; injection hv6 with _ _ e6; omega
       have hc5i : (n1 : Int) ≤ (c5 : Int) := by omega))
  go_ret
  exact ⟨⟨g5, n1, c5, ys, hn1', hc5, rfl, hp1, M5, hown5⟩, (b1.alloc b1.size _).trans hb5⟩
set_option maxRecDepth 100000 in
set_option maxHeartbeats 1000000 in
theorem staysEn_any (A : Option Addr) (g n c d : Nat) (ys ks : List En) (w : World) (ha : Rd w (some ⟨g, 0, none⟩) (flatEn (ys ++ [lentMarkEn]))) (hb : Rd w A (flatEn ks)) (hn : ys.length = n) (hc : n + 1 ≤ c) (hn1 : n ≤ 100000) (hp : ys.map plE = ks.map plE) (h1 : ∀ x ∈ ys, x.has w) (h2 : ∀ x ∈ ks, x.has w) :
    Calls Try.prog 24 #[.slice (some ⟨g, 0, none⟩) n c, .slice A n d] w fun e w' => e = .returned (.bool true) ∧ Qt w w' := by
  have ha1 : Rd w (some ⟨g, 0, none⟩) (flatEn ys) := by rw [flatEn_app] at ha; exact ha.pre
  obtain ⟨b, o, x, hA, _, hx, x1, _, _, _, _⟩ := ha.en (k := n) (by rw [List.length_append, hn]; simp)
  injection hA with hA
  injection hA with e1 e2
  subst e1 e2
  rw [List.getElem?_append_right (by omega), hn, Nat.sub_self, List.getElem?_cons_zero] at hx
  injection hx with hx
  subst hx
  rw [Nat.zero_add] at x1
  have HS := Lib.hid (sameens_yes (some ⟨g, 0, none⟩) A n c d ys ks w ha1 hb hn (by omega) hp h1 h2)
  have hcc : (n : Int) + 1 ≤ (c : Int) := by omega
  have hnn : (n : Int) ≤ 100000 := by omega
  have x2 : w.cell? ⟨g, n * 5, none⟩ = some (.int .i64 (-77)) := x1
  clear ha hb hn ha1 x1 hp h1 h2
  go_enter Try.func24, Try.ntmps24
  go_wp2_with (go_at_call 20; (with_reducible refine HS.out.mono ?_); rintro e w1 ⟨rfl, k1, h1⟩; subst h1)
  go_ret
  exact ⟨rfl, Qt.drewN _ _⟩
end Go.Proofs.Ytdhohaeopfgbmaa

/-
  A book that keeps no list of a kind: what it does with that kind. Condition: the book lies in memory.
-/
namespace Go.Proofs.Ytdhohaeopfgbmaa
open Go Go.RowKit

theorem stillTexts_none (g : Nat) (w : World) (h : w.cell? ⟨g, 0, none⟩ = some (.slice none 0 0)) :
    Calls Try.prog 42 #[.pointer (some ⟨g, 0, none⟩)] w fun e w' => e = .returned (.bool true) ∧ w' = w := by
  go_enter Try.func42, Try.ntmps42
  go_wp2
  go_loopw [2, 3] (fun u2 u3 wr => u3 = .int .i64 0 ∧ wr = w) (fun _ _ _ => 0)
  case atStart => exact ⟨rfl, rfl⟩
  case round =>
    obtain ⟨rfl, rfl⟩ := hrel
    go_wp2
    go_ret
    exact ⟨rfl, rfl⟩
theorem putTexts_none (g : Nat) (w : World) (h : w.cell? ⟨g, 0, none⟩ = some (.slice none 0 0)) :
    Calls Try.prog 53 #[.pointer (some ⟨g, 0, none⟩)] w fun e w' => e = .returned (.tuple #[]) ∧ w' = w := by
  go_enter Try.func53, Try.ntmps53
  go_wp2
  go_loopw [2, 3, 4] (fun u2 u3 u4 wr => u2 = .int .i64 0 ∧ wr = w) (fun _ _ _ _ => 0)
  case atStart => exact ⟨rfl, rfl⟩
  case round =>
    obtain ⟨rfl, rfl⟩ := hrel
    go_wp2
    go_end0
    exact ⟨rfl, rfl⟩
theorem growTexts_none (g : Nat) (w : World) (h : w.cell? ⟨g, 0, none⟩ = some (.slice none 0 0)) :
    Calls Try.prog 60 #[.pointer (some ⟨g, 0, none⟩)] w fun e w' => e = .returned (.slice none 0 0) ∧ w' = w := by
  go_enter Try.func60, Try.ntmps60
  go_wp2
  go_loopw [3, 4, 5, 6] (fun u3 u4 u5 u6 wr => u3 = .slice none 0 0 ∧ u4 = .int .i64 0 ∧ wr = w) (fun _ _ _ _ _ => 0)
  case atStart => exact ⟨rfl, rfl, rfl⟩
  case round =>
    obtain ⟨rfl, rfl, rfl⟩ := hrel
    go_wp2
    go_ret
    exact ⟨rfl, rfl⟩
theorem markedTexts_none (w : World) :
    Calls Try.prog 69 #[.slice none 0 0] w fun e w' => e = .returned (.bool true) ∧ w' = w := by
  go_enter Try.func69, Try.ntmps69
  go_wp2
  go_loopw [2, 3] (fun u2 u3 wr => u3 = .int .i64 0 ∧ wr = w) (fun _ _ _ => 0)
  case atStart => exact ⟨rfl, rfl⟩
  case round =>
    obtain ⟨rfl, rfl⟩ := hrel
    go_wp2
    go_ret
    exact ⟨rfl, rfl⟩
theorem stillInts_none (g : Nat) (w : World) (h : w.cell? ⟨g, 2, none⟩ = some (.slice none 0 0)) :
    Calls Try.prog 43 #[.pointer (some ⟨g, 0, none⟩)] w fun e w' => e = .returned (.bool true) ∧ w' = w := by
  go_enter Try.func43, Try.ntmps43
  go_wp2
  go_loopw [2, 3] (fun u2 u3 wr => u3 = .int .i64 0 ∧ wr = w) (fun _ _ _ => 0)
  case atStart => exact ⟨rfl, rfl⟩
  case round =>
    obtain ⟨rfl, rfl⟩ := hrel
    go_wp2
    go_ret
    exact ⟨rfl, rfl⟩
theorem putInts_none (g : Nat) (w : World) (h : w.cell? ⟨g, 2, none⟩ = some (.slice none 0 0)) :
    Calls Try.prog 54 #[.pointer (some ⟨g, 0, none⟩)] w fun e w' => e = .returned (.tuple #[]) ∧ w' = w := by
  go_enter Try.func54, Try.ntmps54
  go_wp2
  go_loopw [2, 3, 4] (fun u2 u3 u4 wr => u2 = .int .i64 0 ∧ wr = w) (fun _ _ _ _ => 0)
  case atStart => exact ⟨rfl, rfl⟩
  case round =>
    obtain ⟨rfl, rfl⟩ := hrel
    go_wp2
    go_end0
    exact ⟨rfl, rfl⟩
theorem growInts_none (g : Nat) (w : World) (h : w.cell? ⟨g, 2, none⟩ = some (.slice none 0 0)) :
    Calls Try.prog 61 #[.pointer (some ⟨g, 0, none⟩)] w fun e w' => e = .returned (.slice none 0 0) ∧ w' = w := by
  go_enter Try.func61, Try.ntmps61
  go_wp2
  go_loopw [3, 4, 5, 6] (fun u3 u4 u5 u6 wr => u3 = .slice none 0 0 ∧ u4 = .int .i64 0 ∧ wr = w) (fun _ _ _ _ _ => 0)
  case atStart => exact ⟨rfl, rfl, rfl⟩
  case round =>
    obtain ⟨rfl, rfl, rfl⟩ := hrel
    go_wp2
    go_ret
    exact ⟨rfl, rfl⟩
theorem markedInts_none (w : World) :
    Calls Try.prog 70 #[.slice none 0 0] w fun e w' => e = .returned (.bool true) ∧ w' = w := by
  go_enter Try.func70, Try.ntmps70
  go_wp2
  go_loopw [2, 3] (fun u2 u3 wr => u3 = .int .i64 0 ∧ wr = w) (fun _ _ _ => 0)
  case atStart => exact ⟨rfl, rfl⟩
  case round =>
    obtain ⟨rfl, rfl⟩ := hrel
    go_wp2
    go_ret
    exact ⟨rfl, rfl⟩
theorem stillItems_none (g : Nat) (w : World) (h : w.cell? ⟨g, 4, none⟩ = some (.slice none 0 0)) :
    Calls Try.prog 44 #[.pointer (some ⟨g, 0, none⟩)] w fun e w' => e = .returned (.bool true) ∧ w' = w := by
  go_enter Try.func44, Try.ntmps44
  go_wp2
  go_loopw [2, 3] (fun u2 u3 wr => u3 = .int .i64 0 ∧ wr = w) (fun _ _ _ => 0)
  case atStart => exact ⟨rfl, rfl⟩
  case round =>
    obtain ⟨rfl, rfl⟩ := hrel
    go_wp2
    go_ret
    exact ⟨rfl, rfl⟩
theorem putItems_none (g : Nat) (w : World) (h : w.cell? ⟨g, 4, none⟩ = some (.slice none 0 0)) :
    Calls Try.prog 55 #[.pointer (some ⟨g, 0, none⟩)] w fun e w' => e = .returned (.tuple #[]) ∧ w' = w := by
  go_enter Try.func55, Try.ntmps55
  go_wp2
  go_loopw [2, 3, 4] (fun u2 u3 u4 wr => u2 = .int .i64 0 ∧ wr = w) (fun _ _ _ _ => 0)
  case atStart => exact ⟨rfl, rfl⟩
  case round =>
    obtain ⟨rfl, rfl⟩ := hrel
    go_wp2
    go_end0
    exact ⟨rfl, rfl⟩
theorem growItems_none (g : Nat) (w : World) (h : w.cell? ⟨g, 4, none⟩ = some (.slice none 0 0)) :
    Calls Try.prog 62 #[.pointer (some ⟨g, 0, none⟩)] w fun e w' => e = .returned (.slice none 0 0) ∧ w' = w := by
  go_enter Try.func62, Try.ntmps62
  go_wp2
  go_loopw [3, 4, 5, 6] (fun u3 u4 u5 u6 wr => u3 = .slice none 0 0 ∧ u4 = .int .i64 0 ∧ wr = w) (fun _ _ _ _ _ => 0)
  case atStart => exact ⟨rfl, rfl, rfl⟩
  case round =>
    obtain ⟨rfl, rfl, rfl⟩ := hrel
    go_wp2
    go_ret
    exact ⟨rfl, rfl⟩
theorem markedItems_none (w : World) :
    Calls Try.prog 71 #[.slice none 0 0] w fun e w' => e = .returned (.bool true) ∧ w' = w := by
  go_enter Try.func71, Try.ntmps71
  go_wp2
  go_loopw [2, 3] (fun u2 u3 wr => u3 = .int .i64 0 ∧ wr = w) (fun _ _ _ => 0)
  case atStart => exact ⟨rfl, rfl⟩
  case round =>
    obtain ⟨rfl, rfl⟩ := hrel
    go_wp2
    go_ret
    exact ⟨rfl, rfl⟩
theorem stillKids_none (g : Nat) (w : World) (h : w.cell? ⟨g, 6, none⟩ = some (.slice none 0 0)) :
    Calls Try.prog 45 #[.pointer (some ⟨g, 0, none⟩)] w fun e w' => e = .returned (.bool true) ∧ w' = w := by
  go_enter Try.func45, Try.ntmps45
  go_wp2
  go_loopw [2, 3] (fun u2 u3 wr => u3 = .int .i64 0 ∧ wr = w) (fun _ _ _ => 0)
  case atStart => exact ⟨rfl, rfl⟩
  case round =>
    obtain ⟨rfl, rfl⟩ := hrel
    go_wp2
    go_ret
    exact ⟨rfl, rfl⟩
theorem putKids_none (g : Nat) (w : World) (h : w.cell? ⟨g, 6, none⟩ = some (.slice none 0 0)) :
    Calls Try.prog 56 #[.pointer (some ⟨g, 0, none⟩)] w fun e w' => e = .returned (.tuple #[]) ∧ w' = w := by
  go_enter Try.func56, Try.ntmps56
  go_wp2
  go_loopw [2, 3, 4] (fun u2 u3 u4 wr => u2 = .int .i64 0 ∧ wr = w) (fun _ _ _ _ => 0)
  case atStart => exact ⟨rfl, rfl⟩
  case round =>
    obtain ⟨rfl, rfl⟩ := hrel
    go_wp2
    go_end0
    exact ⟨rfl, rfl⟩
theorem growKids_none (g : Nat) (w : World) (h : w.cell? ⟨g, 6, none⟩ = some (.slice none 0 0)) :
    Calls Try.prog 63 #[.pointer (some ⟨g, 0, none⟩)] w fun e w' => e = .returned (.slice none 0 0) ∧ w' = w := by
  go_enter Try.func63, Try.ntmps63
  go_wp2
  go_loopw [3, 4, 5, 6] (fun u3 u4 u5 u6 wr => u3 = .slice none 0 0 ∧ u4 = .int .i64 0 ∧ wr = w) (fun _ _ _ _ _ => 0)
  case atStart => exact ⟨rfl, rfl, rfl⟩
  case round =>
    obtain ⟨rfl, rfl, rfl⟩ := hrel
    go_wp2
    go_ret
    exact ⟨rfl, rfl⟩
theorem markedKids_none (w : World) :
    Calls Try.prog 72 #[.slice none 0 0] w fun e w' => e = .returned (.bool true) ∧ w' = w := by
  go_enter Try.func72, Try.ntmps72
  go_wp2
  go_loopw [2, 3] (fun u2 u3 wr => u3 = .int .i64 0 ∧ wr = w) (fun _ _ _ => 0)
  case atStart => exact ⟨rfl, rfl⟩
  case round =>
    obtain ⟨rfl, rfl⟩ := hrel
    go_wp2
    go_ret
    exact ⟨rfl, rfl⟩
theorem stillPairs_none (g : Nat) (w : World) (h : w.cell? ⟨g, 8, none⟩ = some (.slice none 0 0)) :
    Calls Try.prog 46 #[.pointer (some ⟨g, 0, none⟩)] w fun e w' => e = .returned (.bool true) ∧ w' = w := by
  go_enter Try.func46, Try.ntmps46
  go_wp2
  go_loopw [2, 3] (fun u2 u3 wr => u3 = .int .i64 0 ∧ wr = w) (fun _ _ _ => 0)
  case atStart => exact ⟨rfl, rfl⟩
  case round =>
    obtain ⟨rfl, rfl⟩ := hrel
    go_wp2
    go_ret
    exact ⟨rfl, rfl⟩
theorem putPairs_none (g : Nat) (w : World) (h : w.cell? ⟨g, 8, none⟩ = some (.slice none 0 0)) :
    Calls Try.prog 57 #[.pointer (some ⟨g, 0, none⟩)] w fun e w' => e = .returned (.tuple #[]) ∧ w' = w := by
  go_enter Try.func57, Try.ntmps57
  go_wp2
  go_loopw [2, 3, 4] (fun u2 u3 u4 wr => u2 = .int .i64 0 ∧ wr = w) (fun _ _ _ _ => 0)
  case atStart => exact ⟨rfl, rfl⟩
  case round =>
    obtain ⟨rfl, rfl⟩ := hrel
    go_wp2
    go_end0
    exact ⟨rfl, rfl⟩
theorem growPairs_none (g : Nat) (w : World) (h : w.cell? ⟨g, 8, none⟩ = some (.slice none 0 0)) :
    Calls Try.prog 64 #[.pointer (some ⟨g, 0, none⟩)] w fun e w' => e = .returned (.slice none 0 0) ∧ w' = w := by
  go_enter Try.func64, Try.ntmps64
  go_wp2
  go_loopw [3, 4, 5, 6] (fun u3 u4 u5 u6 wr => u3 = .slice none 0 0 ∧ u4 = .int .i64 0 ∧ wr = w) (fun _ _ _ _ _ => 0)
  case atStart => exact ⟨rfl, rfl, rfl⟩
  case round =>
    obtain ⟨rfl, rfl, rfl⟩ := hrel
    go_wp2
    go_ret
    exact ⟨rfl, rfl⟩
theorem markedPairs_none (w : World) :
    Calls Try.prog 73 #[.slice none 0 0] w fun e w' => e = .returned (.bool true) ∧ w' = w := by
  go_enter Try.func73, Try.ntmps73
  go_wp2
  go_loopw [2, 3] (fun u2 u3 wr => u3 = .int .i64 0 ∧ wr = w) (fun _ _ _ => 0)
  case atStart => exact ⟨rfl, rfl⟩
  case round =>
    obtain ⟨rfl, rfl⟩ := hrel
    go_wp2
    go_ret
    exact ⟨rfl, rfl⟩
theorem stillReplies_none (g : Nat) (w : World) (h : w.cell? ⟨g, 10, none⟩ = some (.slice none 0 0)) :
    Calls Try.prog 47 #[.pointer (some ⟨g, 0, none⟩)] w fun e w' => e = .returned (.bool true) ∧ w' = w := by
  go_enter Try.func47, Try.ntmps47
  go_wp2
  go_loopw [2, 3] (fun u2 u3 wr => u3 = .int .i64 0 ∧ wr = w) (fun _ _ _ => 0)
  case atStart => exact ⟨rfl, rfl⟩
  case round =>
    obtain ⟨rfl, rfl⟩ := hrel
    go_wp2
    go_ret
    exact ⟨rfl, rfl⟩
theorem putReplies_none (g : Nat) (w : World) (h : w.cell? ⟨g, 10, none⟩ = some (.slice none 0 0)) :
    Calls Try.prog 58 #[.pointer (some ⟨g, 0, none⟩)] w fun e w' => e = .returned (.tuple #[]) ∧ w' = w := by
  go_enter Try.func58, Try.ntmps58
  go_wp2
  go_loopw [2, 3, 4] (fun u2 u3 u4 wr => u2 = .int .i64 0 ∧ wr = w) (fun _ _ _ _ => 0)
  case atStart => exact ⟨rfl, rfl⟩
  case round =>
    obtain ⟨rfl, rfl⟩ := hrel
    go_wp2
    go_end0
    exact ⟨rfl, rfl⟩
theorem growReplies_none (g : Nat) (w : World) (h : w.cell? ⟨g, 10, none⟩ = some (.slice none 0 0)) :
    Calls Try.prog 65 #[.pointer (some ⟨g, 0, none⟩)] w fun e w' => e = .returned (.slice none 0 0) ∧ w' = w := by
  go_enter Try.func65, Try.ntmps65
  go_wp2
  go_loopw [3, 4, 5, 6] (fun u3 u4 u5 u6 wr => u3 = .slice none 0 0 ∧ u4 = .int .i64 0 ∧ wr = w) (fun _ _ _ _ _ => 0)
  case atStart => exact ⟨rfl, rfl, rfl⟩
  case round =>
    obtain ⟨rfl, rfl, rfl⟩ := hrel
    go_wp2
    go_ret
    exact ⟨rfl, rfl⟩
theorem markedReplies_none (w : World) :
    Calls Try.prog 74 #[.slice none 0 0] w fun e w' => e = .returned (.bool true) ∧ w' = w := by
  go_enter Try.func74, Try.ntmps74
  go_wp2
  go_loopw [2, 3] (fun u2 u3 wr => u3 = .int .i64 0 ∧ wr = w) (fun _ _ _ => 0)
  case atStart => exact ⟨rfl, rfl⟩
  case round =>
    obtain ⟨rfl, rfl⟩ := hrel
    go_wp2
    go_ret
    exact ⟨rfl, rfl⟩
theorem stillCmds_none (g : Nat) (w : World) (h : w.cell? ⟨g, 12, none⟩ = some (.slice none 0 0)) :
    Calls Try.prog 48 #[.pointer (some ⟨g, 0, none⟩)] w fun e w' => e = .returned (.bool true) ∧ w' = w := by
  go_enter Try.func48, Try.ntmps48
  go_wp2
  go_loopw [2, 3] (fun u2 u3 wr => u3 = .int .i64 0 ∧ wr = w) (fun _ _ _ => 0)
  case atStart => exact ⟨rfl, rfl⟩
  case round =>
    obtain ⟨rfl, rfl⟩ := hrel
    go_wp2
    go_ret
    exact ⟨rfl, rfl⟩
theorem putCmds_none (g : Nat) (w : World) (h : w.cell? ⟨g, 12, none⟩ = some (.slice none 0 0)) :
    Calls Try.prog 59 #[.pointer (some ⟨g, 0, none⟩)] w fun e w' => e = .returned (.tuple #[]) ∧ w' = w := by
  go_enter Try.func59, Try.ntmps59
  go_wp2
  go_loopw [2, 3, 4] (fun u2 u3 u4 wr => u2 = .int .i64 0 ∧ wr = w) (fun _ _ _ _ => 0)
  case atStart => exact ⟨rfl, rfl⟩
  case round =>
    obtain ⟨rfl, rfl⟩ := hrel
    go_wp2
    go_end0
    exact ⟨rfl, rfl⟩
theorem growCmds_none (g : Nat) (w : World) (h : w.cell? ⟨g, 12, none⟩ = some (.slice none 0 0)) :
    Calls Try.prog 66 #[.pointer (some ⟨g, 0, none⟩)] w fun e w' => e = .returned (.slice none 0 0) ∧ w' = w := by
  go_enter Try.func66, Try.ntmps66
  go_wp2
  go_loopw [3, 4, 5, 6] (fun u3 u4 u5 u6 wr => u3 = .slice none 0 0 ∧ u4 = .int .i64 0 ∧ wr = w) (fun _ _ _ _ _ => 0)
  case atStart => exact ⟨rfl, rfl, rfl⟩
  case round =>
    obtain ⟨rfl, rfl, rfl⟩ := hrel
    go_wp2
    go_ret
    exact ⟨rfl, rfl⟩
theorem markedCmds_none (w : World) :
    Calls Try.prog 75 #[.slice none 0 0] w fun e w' => e = .returned (.bool true) ∧ w' = w := by
  go_enter Try.func75, Try.ntmps75
  go_wp2
  go_loopw [2, 3] (fun u2 u3 wr => u3 = .int .i64 0 ∧ wr = w) (fun _ _ _ => 0)
  case atStart => exact ⟨rfl, rfl⟩
  case round =>
    obtain ⟨rfl, rfl⟩ := hrel
    go_wp2
    go_ret
    exact ⟨rfl, rfl⟩
theorem stillSteps_none (g : Nat) (w : World) (h : w.cell? ⟨g, 14, none⟩ = some (.slice none 0 0)) :
    Calls Try.prog 49 #[.pointer (some ⟨g, 0, none⟩)] w fun e w' => e = .returned (.bool true) ∧ w' = w := by
  go_enter Try.func49, Try.ntmps49
  go_wp2
  go_loopw [2, 3] (fun u2 u3 wr => u3 = .int .i64 0 ∧ wr = w) (fun _ _ _ => 0)
  case atStart => exact ⟨rfl, rfl⟩
  case round =>
    obtain ⟨rfl, rfl⟩ := hrel
    go_wp2
    go_ret
    exact ⟨rfl, rfl⟩
theorem putSteps_none (g : Nat) (w : World) (h : w.cell? ⟨g, 14, none⟩ = some (.slice none 0 0)) :
    Calls Try.prog 51 #[.pointer (some ⟨g, 0, none⟩)] w fun e w' => e = .returned (.tuple #[]) ∧ w' = w := by
  go_enter Try.func51, Try.ntmps51
  go_wp2
  go_loopw [2, 3, 4] (fun u2 u3 u4 wr => u2 = .int .i64 0 ∧ wr = w) (fun _ _ _ _ => 0)
  case atStart => exact ⟨rfl, rfl⟩
  case round =>
    obtain ⟨rfl, rfl⟩ := hrel
    go_wp2
    go_end0
    exact ⟨rfl, rfl⟩
theorem growSteps_none (g : Nat) (w : World) (h : w.cell? ⟨g, 14, none⟩ = some (.slice none 0 0)) :
    Calls Try.prog 67 #[.pointer (some ⟨g, 0, none⟩)] w fun e w' => e = .returned (.slice none 0 0) ∧ w' = w := by
  go_enter Try.func67, Try.ntmps67
  go_wp2
  go_loopw [3, 4, 5, 6] (fun u3 u4 u5 u6 wr => u3 = .slice none 0 0 ∧ u4 = .int .i64 0 ∧ wr = w) (fun _ _ _ _ _ => 0)
  case atStart => exact ⟨rfl, rfl, rfl⟩
  case round =>
    obtain ⟨rfl, rfl, rfl⟩ := hrel
    go_wp2
    go_ret
    exact ⟨rfl, rfl⟩
theorem markedSteps_none (w : World) :
    Calls Try.prog 76 #[.slice none 0 0] w fun e w' => e = .returned (.bool true) ∧ w' = w := by
  go_enter Try.func76, Try.ntmps76
  go_wp2
  go_loopw [2, 3] (fun u2 u3 wr => u3 = .int .i64 0 ∧ wr = w) (fun _ _ _ => 0)
  case atStart => exact ⟨rfl, rfl⟩
  case round =>
    obtain ⟨rfl, rfl⟩ := hrel
    go_wp2
    go_ret
    exact ⟨rfl, rfl⟩
theorem stillEntries_none (g : Nat) (w : World) (h : w.cell? ⟨g, 16, none⟩ = some (.slice none 0 0)) :
    Calls Try.prog 50 #[.pointer (some ⟨g, 0, none⟩)] w fun e w' => e = .returned (.bool true) ∧ w' = w := by
  go_enter Try.func50, Try.ntmps50
  go_wp2
  go_loopw [2, 3] (fun u2 u3 wr => u3 = .int .i64 0 ∧ wr = w) (fun _ _ _ => 0)
  case atStart => exact ⟨rfl, rfl⟩
  case round =>
    obtain ⟨rfl, rfl⟩ := hrel
    go_wp2
    go_ret
    exact ⟨rfl, rfl⟩
theorem putEntries_none (g : Nat) (w : World) (h : w.cell? ⟨g, 16, none⟩ = some (.slice none 0 0)) :
    Calls Try.prog 52 #[.pointer (some ⟨g, 0, none⟩)] w fun e w' => e = .returned (.tuple #[]) ∧ w' = w := by
  go_enter Try.func52, Try.ntmps52
  go_wp2
  go_loopw [2, 3, 4] (fun u2 u3 u4 wr => u2 = .int .i64 0 ∧ wr = w) (fun _ _ _ _ => 0)
  case atStart => exact ⟨rfl, rfl⟩
  case round =>
    obtain ⟨rfl, rfl⟩ := hrel
    go_wp2
    go_end0
    exact ⟨rfl, rfl⟩
theorem growEntries_none (g : Nat) (w : World) (h : w.cell? ⟨g, 16, none⟩ = some (.slice none 0 0)) :
    Calls Try.prog 68 #[.pointer (some ⟨g, 0, none⟩)] w fun e w' => e = .returned (.slice none 0 0) ∧ w' = w := by
  go_enter Try.func68, Try.ntmps68
  go_wp2
  go_loopw [3, 4, 5, 6] (fun u3 u4 u5 u6 wr => u3 = .slice none 0 0 ∧ u4 = .int .i64 0 ∧ wr = w) (fun _ _ _ _ _ => 0)
  case atStart => exact ⟨rfl, rfl, rfl⟩
  case round =>
    obtain ⟨rfl, rfl, rfl⟩ := hrel
    go_wp2
    go_ret
    exact ⟨rfl, rfl⟩
theorem markedEntries_none (w : World) :
    Calls Try.prog 77 #[.slice none 0 0] w fun e w' => e = .returned (.bool true) ∧ w' = w := by
  go_enter Try.func77, Try.ntmps77
  go_wp2
  go_loopw [2, 3] (fun u2 u3 wr => u3 = .int .i64 0 ∧ wr = w) (fun _ _ _ => 0)
  case atStart => exact ⟨rfl, rfl⟩
  case round =>
    obtain ⟨rfl, rfl⟩ := hrel
    go_wp2
    go_ret
    exact ⟨rfl, rfl⟩
end Go.Proofs.Ytdhohaeopfgbmaa

/-
  Lists of entries that a book keeps: marks, copies, and how they lie. Conditions: no more lists and elements than a hundred thousand.
-/
namespace Go.Proofs.Ytdhohaeopfgbmaa
open Go Go.RowKit
attribute [local go_sem] cell_set_if

def markEn (i k : Nat) : En := ⟨-1000 * (i : Int) - (k : Int) - 1, 0, 0, 0, none, 0, 0, []⟩
/-- The marks of the i-th list, from one place on. -/
def marksEn (i f n : Nat) : List En := (List.range n).map fun j => markEn i (f + j)
theorem marksEn_len (i f n : Nat) : (marksEn i f n).length = n := by simp [marksEn]
theorem marksEn_succ (i f n : Nat) : marksEn i f (n + 1) = marksEn i f n ++ [markEn i (f + n)] := by simp [marksEn, List.range_succ]
theorem marksEn_at (i f n k : Nat) (h : k < n) : (marksEn i f n)[k]? = some (markEn i (f + k)) := by simp [marksEn, h]
theorem marksEn_app (i a b : Nat) : marksEn i 0 a ++ marksEn i a b = marksEn i 0 (a + b) := by
  induction b with
  | zero => simp [marksEn]
  | succ b ih => rw [marksEn_succ, ← List.append_assoc, ih, ← Nat.add_assoc, marksEn_succ]; simp
set_option maxRecDepth 100000 in
set_option maxHeartbeats 1000000 in
theorem markEn_any (i f n : Nat) (w : World) (hi1 : i ≤ 100000) (hf1 : f ≤ 100000) (hn1 : n ≤ 100000) :
    Calls Try.prog 90 #[.int .i64 i, .int .i64 f, .int .i64 n] w fun e w' => MadeEn w.heap.size e w' (marksEn i f n) ∧ Below w.heap.size w w' := by
  obtain ⟨i0, hi0, hz0, hz1, hz2⟩ := info_parts enInfo
  have hii : (i : Int) ≤ 100000 := by omega
  have hff : (f : Int) ≤ 100000 := by omega
  have hnn : (n : Int) ≤ 100000 := by omega
  go_enter Try.func90, Try.ntmps90
  go_wp2
  go_loopw [7, 8] (fun u7 u8 wr => ∃ k : Nat, k ≤ n ∧ u8 = .int .i64 ((f : Int) + k) ∧ wr.ownsRow w.heap.size 53 5 u7 k (flatEn (marksEn i f k)) ∧ Below w.heap.size w wr) (fun _ u8 _ => n - (intOf u8 - f).toNat)
  case atStart => exact ⟨0, by omega, by go_num, World.ownsRow_nil _ _ _ _, Below.refl _ _⟩
  case round =>
    obtain ⟨k, hk, rfl, hO, hB⟩ := hrel
    by_cases hlt : k < n
    · have hkn : (k : Int) < (n : Int) := by omega
      have HT : Hid (flatEn (marksEn i f (k + 1)) = flatEn (marksEn i f k) ++ [.int .i64 (-1000 * (i : Int) - ((f : Int) + (k : Int)) - 1), .int .i64 0, .int .i64 0, .int .i64 0, .slice none 0 0]) := by
        unfold Hid; rw [marksEn_succ, flatEn_app]
        show _ ++ [Value.int .i64 (-1000 * (i : Int) - ((f + k : Nat) : Int) - 1), .int .i64 0, .int .i64 0, .int .i64 0, .slice none 0 0] = _
        rw [show ((f + k : Nat) : Int) = (f : Int) + (k : Int) by omega]
      go_wp2_with (at_builtin
                   refine wpList_app rfl (.tmp 17) (.tmp 24) 41 rfl w.heap.size 53 i0 _ 5 56 Try.underlying41 hi0 hz0 hz1 hz2 rfl (by omega) u7 k _ rfl (hO.alloc _) _ 1 1 _ rfl (Rd.new wr _ 53) rfl (by simp [Value.oneCell']) (by unfold maxLen; omega) (by omega) (by have := hB.size; simp; omega) ?_
                   intro v5 w5 hown5 hg5 hb5 hat5)
      go_roundw
      case rel => exact ⟨k + 1, by omega, by go_num, by rw [HT.out]; exact hown5, (hB.alloc hB.size _).trans hb5⟩
      case measure => simp [intOf]; omega
    · obtain rfl : k = n := by omega
      obtain ⟨A1, c1, rfl, hc1⟩ := own_form hO
      go_wp2
      go_ret
      exact ⟨⟨A1, k, c1, marksEn_len _ _ _, rfl, hO⟩, hB⟩
theorem marksEn_has (i f n : Nat) (w : World) : ∀ x ∈ marksEn i f n, x.has w := fun x hx => by
  unfold marksEn at hx
  obtain ⟨j, _, rfl⟩ := List.mem_map.1 hx
  exact ⟨Rd.nil _ _, rfl, by show 0 ≤ 100000; omega⟩
/-- A book that keeps lists of entries alone. -/
def bookEn (v1 v2 : Value) : Array Value := #[.slice none 0 0, .slice none 0 0, .slice none 0 0, .slice none 0 0, .slice none 0 0, .slice none 0 0, .slice none 0 0, .slice none 0 0, .slice none 0 0, .slice none 0 0, .slice none 0 0, .slice none 0 0, .slice none 0 0, .slice none 0 0, .slice none 0 0, .slice none 0 0, v1, v2]
structure BookEn (base : Nat) (w : World) (g N : Nat) (f fw : Nat → List En) (v1 v2 : Value) (V W : List Value) : Prop where
  lo : base ≤ g
  B : Blk w g 40 (bookEn v1 v2)
  r1 : w.ownsRow base 41 1 v1 N V
  r2 : w.ownsRow base 41 1 v2 N W
  rV : RowsEn w base V N f
  rW : RowsEn w base W N fw
  ap : ApartV V
  ne : ∀ k, v1.ownBlock = some k → v2.ownBlock ≠ some k
theorem BookEn.below {base g N : Nat} {w w' : World} {f fw : Nat → List En} {v1 v2 : Value} {V W : List Value} (h : BookEn base w g N f fw v1 v2 V W) (k : Below w.heap.size w w') : BookEn base w' g N f fw v1 v2 V W :=
  ⟨h.lo, h.B.below k, own_frm h.r1 (S := no) (Frm.of_below k) (fun _ _ h => h), own_frm h.r2 (S := no) (Frm.of_below k) (fun _ _ h => h), h.rV.below k, h.rW.below k, h.ap, h.ne⟩
end Go.Proofs.Ytdhohaeopfgbmaa

/-
  A book is given one more list of entries; and looks whether all are as they were. Conditions: fewer than 250 lists, each of the call's own.
-/
namespace Go.Proofs.Ytdhohaeopfgbmaa
open Go Go.RowKit
attribute [local go_sem] cell_set_if

theorem rowinfo : (Try.prog.info? 41).map (fun i => (i.zero, i.size, i.bytes)) = some (some (.slice none 0 0), 1, 24) := by kernel_rfl
/-- The book's own blocks. -/
def bookS (g : Nat) (v1 v2 : Value) : Nat → Prop := fun k => k = g ∨ v1.ownBlock = some k ∨ v2.ownBlock = some k
set_option maxRecDepth 100000 in
set_option maxHeartbeats 2000000 in
theorem addEn_more (base g N : Nat) (f fw : Nat → List En) (v1 v2 : Value) (V W : List Value) (A : Option Addr) (n c : Nat) (xs : List En) (w : World) (h : BookEn base w g N f fw v1 v2 V W) (hN : N < 250) (hb0 : base ≤ w.heap.size) (hmi : ∀ x ∈ xs, x.mine w base)
    (hn : xs.length = n) (hn1 : n ≤ 100000) (ho : w.ownsRow base 53 5 (.slice A n c) n (flatEn xs)) (hfr : ∀ (i : Nat) (x : Value) (b : Nat), V[i]? = some x → x.ownBlock = some b → (Value.slice A n c).ownBlock ≠ some b) :
    Calls Try.prog 21 #[.pointer (some ⟨g, 0, none⟩), .slice A n c] w fun e w' => e = .returned (.tuple #[]) ∧ (∃ v1' v2' y ys, BookEn base w' g (N + 1) (fun j => if j = N then xs else f j) (fun j => if j = N then ys else fw j) v1' v2' (V ++ [.slice A n c]) (W ++ [y]) ∧ (∀ k, v1'.ownBlock = some k → v1.ownBlock = some k ∨ w.heap.size ≤ k) ∧ (∀ k, v2'.ownBlock = some k → v2.ownBlock = some k ∨ w.heap.size ≤ k) ∧ (∀ k, y.ownBlock = some k → w.heap.size ≤ k) ∧ ys.map plE = xs.map plE ∧ (∀ z ∈ ys, z.mine w' base) ∧ TyS w (bookS g v1 v2) [40, 41]) ∧ Frm (bookS g v1 v2) w w' := by
  obtain ⟨i1, hi1, hz0, hz1, hz2⟩ := info_parts rowinfo
  obtain ⟨A1, c1, hv1, hc1⟩ := own_form h.r1
  obtain ⟨A2, c2, hv2, hc2⟩ := own_form h.r2
  have HMI := Lib.hid hmi
  have H := Lib.hid h
  have HO := Lib.hid ho
  have HV1 := Lib.hid hv1
  have HV2 := Lib.hid hv2
  have HFR := Lib.hid hfr
  have c6 : w.cell? ⟨g, 16, none⟩ = some (.slice A1 N c1) := by rw [h.B.cell 16, hv1]; rfl
  have hNN : (N : Int) < 250 := by omega
  have R1 : w.ownsRow base 41 1 (.slice A1 N c1) N V := by have := h.r1; rwa [hv1] at this
  have hne1 : (Value.slice A1 N c1).ownBlock ≠ some g := Blk.own_ne h.B R1 (by decide)
  clear h ho hv1 hv2 hfr hmi
  go_enter Try.func21, Try.ntmps21
  go_wp2_with (at_builtin
               refine wpList_app rfl (.tmp 14) (.tmp 16) 38 rfl base 41 i1 _ 1 24 Try.underlying38 hi1 hz0 hz1 hz2 rfl (by omega) (.slice A1 N c1) N V rfl (R1.alloc _) _ 1 1 [.slice A n c] rfl (Rd.one _ _ _) rfl (by simp [Value.oneCell']) (by unfold maxLen; omega) (by omega) (by simp; omega) ?_
               intro v3 w3 hown3 hg3 hb3 hat3
               have G3 := (H.out.B.alloc (.cells #[.slice A n c] 41)).grown hg3 hne1
               have f36 := G3.free 16
               have g36 := G3.cell 16
               obtain ⟨A3, c3, rfl, hc3⟩ := own_form hown3)
  go_upto_region 2 with fail
  -- the world behind the first half
  have B4 : Blk (w3.setCell ⟨g, 16, none⟩ (.slice A3 (N + 1) c3)) g 40 (bookEn (.slice A3 (N + 1) c3) v2) := G3.set_ 16 (.slice A3 (N + 1) c3)
  have O4 := own_set G3 hown3 (i := 16) (by decide) (.slice A3 (N + 1) c3)
  have F3 : Frm (fun k => k = g ∨ v1.ownBlock = some k) w w3 := ((Frm.refl _ w).alloc _).grown hg3 fun k hk _ => .inr (by rw [HV1.out]; exact hk)
  have F4 : Frm (fun k => k = g ∨ v1.ownBlock = some k) w (w3.setCell ⟨g, 16, none⟩ (.slice A3 (N + 1) c3)) := F3.setCell (p := ⟨g, 16, none⟩) (fun _ => .inl rfl) _
  have hsz4 : w.heap.size + 1 ≤ (w3.setCell ⟨g, 16, none⟩ (.slice A3 (N + 1) c3)).heap.size := by have := hg3.size; simp at this ⊢; omega
  have hat : ∀ k, (Value.slice A3 (N + 1) c3).ownBlock = some k → v1.ownBlock = some k ∨ k = w.heap.size + 1 := fun k hk => by
    rcases hat3 with h | h
    · exact .inl (by rw [HV1.out, ← h]; exact hk)
    · rw [hk] at h; injection h with h; exact .inr (by simpa using h)
  generalize w3.setCell ⟨g, 16, none⟩ (.slice A3 (N + 1) c3) = W4 at B4 O4 F4 hsz4 ⊢
  have hfar : ∀ (e : TypeId) (s : Nat) (v : Value) (n : Nat) (xs : List Value), w.ownsRow base e s v n xs → e ≠ 40 → e ≠ 41 → W4.ownsRow base e s v n xs := fun e s v n xs hv he1 he2 => own_frm hv F4 fun k hk hs => by
    rcases hs with rfl | hs
    · exact Blk.own_ne H.out.B hv he1 hk
    · exact own_own H.out.r1 hv (Ne.symm he2) hs hk
  have hO4 := hfar _ _ _ _ _ HO.out (by decide) (by decide)
  have hR4 : W4.ownsRow base 41 1 v2 N W := own_frm H.out.r2 F4 fun k hk hs => by
    rcases hs with rfl | hs
    · exact Blk.own_ne H.out.B H.out.r2 (by decide) hk
    · exact H.out.ne k hs hk
  have hV4 : RowsEn W4 base V N f := H.out.rV.frm F4 fun i x b hx hb hs => by
    rcases hs with rfl | hs
    · exact H.out.rV.neB H.out.B (by decide) i x _ hx hb rfl
    · exact H.out.rV.ne H.out.r1 (by decide) i x b hx hb hs
  have hW4 : RowsEn W4 base W N fw := H.out.rW.frm F4 fun i x b hx hb hs => by
    rcases hs with rfl | hs
    · exact H.out.rW.neB H.out.B (by decide) i x _ hx hb rfl
    · exact H.out.rW.ne H.out.r1 (by decide) i x b hx hb hs
  rw [HV2.out] at hR4
  have c47 : W4.drew.cell? ⟨g, 17, none⟩ = some (.slice A2 N c2) := by have := B4.cell 17; rw [HV2.out] at this; exact this
  have hne2 : (Value.slice A2 N c2).ownBlock ≠ some g := Blk.own_ne B4 hR4 (by decide)
  have T4 : TyS w (fun k => k = g ∨ v1.ownBlock = some k) [40, 41] := TyS.two H.out.B H.out.r1
  have hM4 : ∀ x ∈ xs, x.has W4.drew := fun x hx => ((HMI.out x hx).frm F4 T4 (by decide)).has.below (Below.refl _ _).drew
  have HC := Lib.hid (copyEn_any A n c xs W4.drew (Rd.of_own hO4).drew hn hn1 hM4)
  go_region_law (first
    | (go_simp; go_at_call 37; refine HC.out.mono ?_; rintro e w5 ⟨⟨A5, n5, c5, ys, hn5, rfl, ho5, hp5, hm5⟩, b5⟩
       obtain rfl : n5 = n := by have := congrArg List.length hp5; simp only [List.length_map] at this; omega
       have l5 : w5.cell? ⟨g, 17, none⟩ = some (.slice A2 N c2) := cell_b b5 c47
       have l5a : (w5.alloc (.cells #[.slice A5 n5 c5] 41)).cell? ⟨g, 17, none⟩ = some (.slice A2 N c2) := cell_b ((Below.refl _ _).alloc (Nat.le_refl _) _) l5
       have R5 := own_frm (show W4.drew.ownsRow base 41 1 (.slice A2 N c2) N W from hR4) (S := no) (Frm.of_below b5) (fun _ _ h => h)
       have B5 := (show Blk W4.drew g 40 _ from B4).below b5
       have s5 : w.heap.size + 1 ≤ w5.heap.size := by have := b5.size; simp at this; omega)
    | (refine step_app rfl (.tmp 24) (.tmp 27) 38 rfl base 41 i1 _ 1 24 Try.underlying38 hi1 hz0 hz1 hz2 rfl (by omega) (.slice A2 N c2) N W rfl (R5.alloc _) _ 1 1 [.slice A5 n5 c5] rfl (Rd.one _ _ _) rfl (by simp [Value.oneCell']) (by unfold maxLen; omega) (by omega) (by simp; omega) ?_
       intro v6 w6 hown6 hg6 hb6 hat6
       obtain ⟨A6, c6', rfl, hc6⟩ := own_form hown6
       have G6 := (B5.alloc (.cells #[.slice A5 n5 c5] 41)).grown hg6 hne2
       have f67 := G6.free 17
       have g67 : w6.cell? ⟨g, 17, none⟩ = some (.slice A2 N c2) := by have := G6.cell 17; rw [HV2.out] at this; exact this))
  all_goals
    go_end0
    have hb4 : base ≤ W4.heap.size := by omega
    have l1 := fun k hk => (H.out.r1.lt k hk).2
    have l2 := fun k hk => (H.out.r2.lt k hk).2
    have s45 : W4.heap.size ≤ w5.heap.size := b5.size
    have hat' : ∀ k, (Value.slice A6 (N + 1) c6').ownBlock = some k → v2.ownBlock = some k ∨ k = w5.heap.size + 1 := fun k hk => by
      rcases hat6 with h | h
      · exact .inl (by rw [HV2.out, ← h]; exact hk)
      · rw [hk] at h; injection h with h; exact .inr (by simpa using h)
    have F5 : Frm (fun k => k = g ∨ v2.ownBlock = some k) w5 (w6.setCell ⟨g, 17, none⟩ (.slice A6 (N + 1) c6')) := ((((Frm.refl _ w5).alloc _).grown hg6 fun k hk _ => .inr (by rw [HV2.out]; exact hk))).setCell (p := ⟨g, 17, none⟩) (fun _ => .inl rfl) _
    have T5 : TyS w5 (fun k => k = g ∨ v2.ownBlock = some k) [40, 41] := by have := TyS.two B5 R5; rwa [← HV2.out] at this
    have TB : TyS w (bookS g v1 v2) [40, 41] := fun q _ hs => by
      rcases hs with rfl | hs | hs
      · exact ⟨_, by simp, H.out.B.ty⟩
      · exact ⟨_, by simp, own_ty H.out.r1 hs⟩
      · exact ⟨_, by simp, own_ty H.out.r2 hs⟩
    have F7 : Frm (fun k => k = g ∨ v2.ownBlock = some k) W4 (w6.setCell ⟨g, 17, none⟩ (.slice A6 (N + 1) c6')) := (((Frm.refl _ W4).drew).step b5).then_ F5
    have hR4' : W4.ownsRow base 41 1 v2 N W := by rw [HV2.out]; exact hR4
    have O7 := own_frm O4 F7 fun k hk hs => by
      rcases hs with rfl | hs
      · exact Blk.own_ne B4 O4 (by decide) hk
      · rcases hat k hk with h | h
        · exact H.out.ne k h hs
        · have := l2 k hs; omega
    have V7 : RowsEn (w6.setCell ⟨g, 17, none⟩ (.slice A6 (N + 1) c6')) base V N f := hV4.frm F7 fun i x b hx hb hs => by
      rcases hs with rfl | hs
      · exact hV4.neB B4 (by decide) i x _ hx hb rfl
      · exact hV4.ne hR4' (by decide) i x b hx hb hs
    have W7 : RowsEn (w6.setCell ⟨g, 17, none⟩ (.slice A6 (N + 1) c6')) base W N fw := hW4.frm F7 fun i x b hx hb hs => by
      rcases hs with rfl | hs
      · exact hW4.neB B4 (by decide) i x _ hx hb rfl
      · exact hW4.ne hR4' (by decide) i x b hx hb hs
    have X7 := own_frm hO4 F7 fun k hk hs => by
      rcases hs with rfl | hs
      · exact Blk.own_ne B4 hO4 (by decide) hk
      · exact own_own hR4' hO4 (by decide) hs hk
    have Y7 := own_frm ho5 F5 fun k hk hs => by
      have h5 := (ho5.lt k hk).1
      have h5' : W4.heap.size ≤ k := h5
      rcases hs with rfl | hs
      · have := B4.lt; omega
      · have := l2 k hs; omega
    refine ⟨rfl, ⟨_, _, .slice A5 n5 c5, ys, ⟨H.out.lo, G6.set_ 17 _, O7, own_set G6 hown6 (i := 17) (by decide) _, V7.snoc hn X7, W7.snoc hn5 (own_base Y7 hb4), ApartV.snoc H.out.ap HFR.out, fun k hk hk2 => ?_⟩, fun k hk => ?_, fun k hk => ?_, fun k hk => by have h5 := (ho5.lt k hk).1; have h5' : W4.heap.size ≤ k := h5; omega, hp5, fun z hz => ((hm5 z hz).low hb4).frm F5 T5 (by decide), TB⟩, (F4.mono fun i _ hs => ?_).then_ (F7.mono fun i _ hs => ?_)⟩
    · rcases hat k hk with h | h
      · rcases hat' k hk2 with h2 | h2
        · exact H.out.ne k h h2
        · have := l1 k h; omega
      · rcases hat' k hk2 with h2 | h2
        · have := l2 k h2; omega
        · omega
    · rcases hat k hk with h | h
      · exact .inl h
      · exact .inr (by omega)
    · rcases hat' k hk with h | h
      · exact .inl h
      · exact .inr (by omega)
    · rcases hs with hs | hs
      · exact .inl hs
      · exact .inr (.inl hs)
    · rcases hs with hs | hs
      · exact .inl hs
      · exact .inr (.inr hs)
set_option maxRecDepth 100000 in
set_option maxHeartbeats 1000000 in
theorem stillEn_any (base g N : Nat) (f fw : Nat → List En) (v1 v2 : Value) (V W : List Value) (w : World) (h : BookEn base w g N f fw v1 v2 V W) (hN : N < 1000) (hf : ∀ i, (f i).length ≤ 100000) (hal : ∀ i, i < N → (f i).map plE = (fw i).map plE ∧ (∀ x ∈ f i, x.has w) ∧ (∀ y ∈ fw i, y.has w)) :
    Calls Try.prog 50 #[.pointer (some ⟨g, 0, none⟩)] w fun e w' => e = .returned (.bool true) ∧ Qt w w' := by
  obtain ⟨A1, c1, hv1, hc1⟩ := own_form h.r1
  obtain ⟨A2, c2, hv2, hc2⟩ := own_form h.r2
  have H := Lib.hid h
  have c6 : w.cell? ⟨g, 16, none⟩ = some (.slice A1 N c1) := by rw [h.B.cell 16, hv1]; rfl
  have c7 : w.cell? ⟨g, 17, none⟩ = some (.slice A2 N c2) := by rw [h.B.cell 17, hv2]; rfl
  have R1 : Rd w A1 V := Rd.of_own (by have := h.r1; rwa [hv1] at this)
  have R2 : Rd w A2 W := Rd.of_own (by have := h.r2; rwa [hv2] at this)
  have HF := Lib.hid hf
  have HAL := Lib.hid hal
  have hNN : (N : Int) < 1000 := by omega
  have HR1 := Lib.hid R1
  have HR2 := Lib.hid R2
  clear h hv1 hv2 hf hal R1 R2
  go_enter Try.func50, Try.ntmps50
  go_wp2
  go_loopw [2, 3] (fun u2 u3 wr => ∃ k : Nat, k ≤ N ∧ u3 = .int .i64 k ∧ Qt w wr) (fun _ u3 _ => N - (intOf u3).toNat)
  case atStart => exact ⟨0, by omega, rfl, Qt.refl _⟩
  case round =>
    obtain ⟨k, hk, rfl, hQ⟩ := hrel
    have hqc : ∀ p, wr.cell? p = w.cell? p := fun p => by obtain ⟨m, rfl⟩ := hQ; rfl
    have e6 : wr.cell? ⟨g, 16, none⟩ = some (.slice A1 N c1) := by rw [hqc]; exact c6
    have e7 : wr.cell? ⟨g, 17, none⟩ = some (.slice A2 N c2) := by rw [hqc]; exact c7
    by_cases hlt : k < N
    · obtain ⟨B1, d1, hV, hO⟩ := H.out.rV.at_ k hlt
      obtain ⟨B2, d2, hW, hP⟩ := H.out.rW.at_ k hlt
      obtain ⟨b1, o1, rfl, _, hcs1⟩ := HR1.out.flat (by rw [H.out.rV.len]; omega)
      obtain ⟨b2, o2, rfl, _, hcs2⟩ := HR2.out.flat (by rw [H.out.rW.len]; omega)
      have x1 : wr.cell? ⟨b1, o1 + k, none⟩ = some (.slice B1 (f k).length d1) := by rw [hqc]; exact hcs1 k _ hV
      have hal := HAL.out k hlt
      have hll : (fw k).length = (f k).length := by have := congrArg List.length hal.1; simp only [List.length_map] at this; omega
      rw [hll] at hW hP
      have x2 : wr.cell? ⟨b2, o2 + k, none⟩ = some (.slice B2 (f k).length d2) := by rw [hqc]; exact hcs2 k _ hW
      have hki : (k : Int) < (N : Int) := by omega
      have hS : ∀ m, Calls Try.prog 20 #[.slice B1 (f k).length d1, .slice B2 (f k).length d2] (wr.drewN m) fun e w' => e = .returned (.bool true) ∧ ∃ q, w' = (wr.drewN m).drewN q := fun m =>
        sameens_yes B1 B2 _ d1 d2 (f k) (fw k) _ (((Rd.of_own hO).below (hQ.below _)).drewN m) (((Rd.of_own hP).below (hQ.below _)).drewN m) rfl (by have := HF.out k; omega) hal.1 (fun x hx => ((hal.2.1 x hx).below (hQ.below _)).below (Qt.drewN _ m |>.below _)) (fun x hx => ((hal.2.2 x hx).below (hQ.below _)).below (Qt.drewN _ m |>.below _))
      have HS := Lib.hid hS
      generalize (f k).length = L at *
      clear hqc hcs1 hcs2 hV hW hO hP hS hal hll
      go_wp2
      go_quiet ((go_at_call 20; exact Calls.quiet_of (HS.out _)))
      go_wp2
      go_roundw
      case rel => exact ⟨k + 1, by omega, by go_num, hQ.trans (Qt.drewN _ _)⟩
      case measure => simp [intOf]; omega
    · obtain rfl : k = N := by omega
      clear hqc
      go_wp2
      go_ret
      exact ⟨rfl, hQ⟩
end Go.Proofs.Ytdhohaeopfgbmaa

/-
  A book marks all its lists of entries. Conditions: fewer than a thousand lists of no more than 100000 elements.
-/
namespace Go.Proofs.Ytdhohaeopfgbmaa
open Go Go.RowKit
attribute [local go_sem] cell_set_if

theorem flatEn_set (xs : List En) (k : Nat) (x : En) : (((((flatEn xs).set (k * 5) (.int .i64 x.index)).set (k * 5 + 1) (.int .i64 x.term)).set (k * 5 + 2) (.int .i64 x.client)).set (k * 5 + 3) (.int .i64 x.seq)).set (k * 5 + 4) (.slice x.A x.n x.c) = flatEn (xs.set k x) := by
  induction xs generalizing k with
  | nil => rfl
  | cons y ys ih =>
    have e : ∀ (z : En) zs, flatEn (z :: zs) = .int .i64 z.index :: .int .i64 z.term :: .int .i64 z.client :: .int .i64 z.seq :: .slice z.A z.n z.c :: flatEn zs := fun _ _ => rfl
    cases k with
    | zero => rw [e]; rfl
    | succ k =>
      rw [e, List.set_cons_succ (xs := ys), e, ← ih k, show (k + 1) * 5 = k * 5 + 1 + 1 + 1 + 1 + 1 by omega]
      rfl
/-- The book, its lists as f tells; it does not matter what the copies are. -/
structure BookP (base : Nat) (w : World) (g N : Nat) (f : Nat → List En) (v1 v2 : Value) (V : List Value) : Prop where
  lo : base ≤ g
  B : Blk w g 40 (bookEn v1 v2)
  r1 : w.ownsRow base 41 1 v1 N V
  rV : RowsEn w base V N f
  ap : ApartV V
theorem BookEn.p {base g N : Nat} {w : World} {f fw : Nat → List En} {v1 v2 : Value} {V W : List Value} (h : BookEn base w g N f fw v1 v2 V W) : BookP base w g N f v1 v2 V := ⟨h.lo, h.B, h.r1, h.rV, h.ap⟩
section
variable {base g N : Nat} {w w' : World} {f : Nat → List En} {v1 v2 : Value} {V : List Value}
theorem BookP.below (h : BookP base w g N f v1 v2 V) (k : Below w.heap.size w w') : BookP base w' g N f v1 v2 V :=
  ⟨h.lo, h.B.below k, own_frm h.r1 (S := no) (Frm.of_below k) (fun _ _ h => h), h.rV.below k, h.ap⟩
theorem BookP.congr {f' : Nat → List En} (h : BookP base w g N f v1 v2 V) (e : ∀ i, i < N → f' i = f i) : BookP base w g N f' v1 v2 V := ⟨h.lo, h.B, h.r1, h.rV.congr e, h.ap⟩
/-- One element of one list is set. -/
theorem BookP.put (h : BookP base w g N f v1 v2 V) {i gi n c k : Nat} {xs : List En} (hi : i < N) (hV : V[i]? = some (.slice (some ⟨gi, 0, none⟩) n c)) (hf : f i = xs) (hn : xs.length = n) (hk : k < n) (x : En) :
    BookP base ((((((w).setCell ⟨gi, k * 5, none⟩ (.int .i64 x.index)).setCell ⟨gi, k * 5 + 1, none⟩ (.int .i64 x.term)).setCell ⟨gi, k * 5 + 2, none⟩ (.int .i64 x.client)).setCell ⟨gi, k * 5 + 3, none⟩ (.int .i64 x.seq)).setCell ⟨gi, k * 5 + 4, none⟩ (.slice x.A x.n x.c)) g N (fun j => if j = i then xs.set k x else f j) v1 v2 V ∧ Frm (VS V) w ((((((w).setCell ⟨gi, k * 5, none⟩ (.int .i64 x.index)).setCell ⟨gi, k * 5 + 1, none⟩ (.int .i64 x.term)).setCell ⟨gi, k * 5 + 2, none⟩ (.int .i64 x.client)).setCell ⟨gi, k * 5 + 3, none⟩ (.int .i64 x.seq)).setCell ⟨gi, k * 5 + 4, none⟩ (.slice x.A x.n x.c)) := by
  have F : Frm (at1 gi) w ((((((w).setCell ⟨gi, k * 5, none⟩ (.int .i64 x.index)).setCell ⟨gi, k * 5 + 1, none⟩ (.int .i64 x.term)).setCell ⟨gi, k * 5 + 2, none⟩ (.int .i64 x.client)).setCell ⟨gi, k * 5 + 3, none⟩ (.int .i64 x.seq)).setCell ⟨gi, k * 5 + 4, none⟩ (.slice x.A x.n x.c)) := ((((((Frm.refl (at1 gi) w).setCell (p := ⟨gi, k * 5, none⟩) (fun _ => rfl) _).setCell (p := ⟨gi, k * 5 + 1, none⟩) (fun _ => rfl) _).setCell (p := ⟨gi, k * 5 + 2, none⟩) (fun _ => rfl) _).setCell (p := ⟨gi, k * 5 + 3, none⟩) (fun _ => rfl) _).setCell (p := ⟨gi, k * 5 + 4, none⟩) (fun _ => rfl) _)
  have hob : (Value.slice (some ⟨gi, 0, none⟩) n c).ownBlock = some gi := rfl
  subst hn
  refine ⟨⟨h.lo, h.B.frm F fun e => ?_, own_frm h.r1 F fun b hb e => ?_, ⟨h.rV.len, fun j hj => ?_⟩, h.ap⟩, F.mono fun b _ hb => ⟨i, _, hV, by unfold at1 at hb; rw [hob, hb]⟩⟩
  · unfold at1 at e; exact h.rV.neB h.B (by decide) i _ gi hV hob e.symm
  · unfold at1 at e; subst e; exact h.rV.ne h.r1 (by decide) i _ b hV hob hb
  · obtain ⟨A, d, h1, h2⟩ := h.rV.at_ j hj
    by_cases hc : j = i
    · subst hc
      rw [hV] at h1
      rw [hf] at h1 h2
      injection h1 with h1
      have e1 : A = some ⟨gi, 0, none⟩ := by injection h1 with h1; exact h1.symm
      have e2 : d = c := by injection h1 with _ _ h1; exact h1.symm
      subst e1 e2
      rw [if_pos rfl, List.length_set]
      refine ⟨_, _, hV, ?_⟩
      rw [← flatEn_set]
      exact own_put (own_put (own_put (own_put (own_put h2 (by omega)) (by omega)) (by omega)) (by omega)) (by omega)
    · rw [if_neg hc]
      refine ⟨A, d, h1, own_frm h2 F fun b hb e => ?_⟩
      unfold at1 at e; subst e
      exact h.ap j i _ _ b hc h1 hV hb hob
end
/-- The i-th list, k of its elements marked. -/
def mixEn (i k : Nat) (xs : List En) : List En := marksEn i 0 k ++ xs.drop k
theorem mixEn_len (i k : Nat) (xs : List En) (h : k ≤ xs.length) : (mixEn i k xs).length = xs.length := by
  unfold mixEn; rw [List.length_append, marksEn_len, List.length_drop]; omega
theorem mixEn_set (i k : Nat) (xs : List En) (h : k < xs.length) : (mixEn i k xs).set k (markEn i k) = mixEn i (k + 1) xs := by
  unfold mixEn
  rw [List.set_append_right _ _ (by rw [marksEn_len]; exact Nat.le_refl _), marksEn_len, Nat.sub_self, marksEn_succ, List.drop_eq_getElem_cons h, List.set_cons_zero, List.append_assoc, Nat.zero_add]
  rfl
theorem mixEn_all (i : Nat) (xs : List En) : mixEn i xs.length xs = marksEn i 0 xs.length := by
  unfold mixEn; rw [List.drop_length, List.append_nil]

set_option maxRecDepth 100000 in
set_option maxHeartbeats 2000000 in
theorem putEn_any (base g N : Nat) (f : Nat → List En) (v1 v2 : Value) (V : List Value) (w : World) (h : BookP base w g N f v1 v2 V) (hN : N < 1000) (hf : ∀ i, (f i).length ≤ 100000) :
    Calls Try.prog 52 #[.pointer (some ⟨g, 0, none⟩)] w fun e w' => e = .returned (.tuple #[]) ∧ BookP base w' g N (fun i => marksEn i 0 (f i).length) v1 v2 V ∧ Frm (VS V) w w' := by
  obtain ⟨A1, c1, hv1, hc1⟩ := own_form h.r1
  have HV1 := Lib.hid hv1
  have HF := Lib.hid hf
  have hNN : (N : Int) < 1000 := by omega
  have H0 := Lib.hid h
  clear h hv1 hf
  go_enter Try.func52, Try.ntmps52
  go_wp2
  go_loopw [2, 3, 4] (fun u2 u3 u4 wr => ∃ i : Nat, i ≤ N ∧ u2 = .int .i64 i ∧ BookP base wr g N (fun j => if j < i then marksEn j 0 (f j).length else f j) v1 v2 V ∧ Frm (VS V) w wr) (fun u2 _ _ _ => N - (intOf u2).toNat)
  case atStart => exact ⟨0, by omega, rfl, H0.out.congr fun i hi => by simp, Frm.refl _ _⟩
  case round =>
    obtain ⟨i, hi, rfl, hP, hF⟩ := hrel
    have e6 : wr.cell? ⟨g, 16, none⟩ = some (.slice A1 N c1) := by rw [hP.B.cell 16, HV1.out]; rfl
    by_cases hlt : i < N
    · obtain ⟨B1, d1, hV, hO⟩ := hP.rV.at_ i hlt
      simp only [Nat.lt_irrefl, if_false] at hV hO
      have hR1 : Rd wr A1 V := Rd.of_own (by have := hP.r1; rwa [HV1.out] at this)
      obtain ⟨b1, o1, rfl, hb1, hcs1⟩ := hR1.flat (by rw [hP.rV.len]; omega)
      have x1 : wr.cell? ⟨b1, o1 + i, none⟩ = some (.slice B1 (f i).length d1) := hcs1 i _ hV
      have hii : (i : Int) < (N : Int) := by omega
      have hL := HF.out i
      obtain ⟨xs, hxs⟩ : ∃ xs, xs = f i := ⟨_, rfl⟩
      obtain ⟨L, hLL⟩ : ∃ L, L = xs.length := ⟨_, rfl⟩
      rw [← hxs, ← hLL] at x1 hL hV
      have HXS := Lib.hid hxs
      have HLL := Lib.hid hLL
      have hMk := Lib.hid (markEn_any i 0 L wr (by omega) (by omega) hL)
      have hP0 : BookP base wr g N (fun j => if j < i then marksEn j 0 (f j).length else if j = i then mixEn i 0 xs else f j) v1 v2 V := hP.congr fun j _ => by
        by_cases h1 : j < i
        · simp [h1]
        · by_cases h2 : j = i
          · subst h2; simp [mixEn, marksEn, HXS.out]
          · simp [h1, h2]
      have HP0 := Lib.hid hP0
      have HVi := Lib.hid hV
      clear hO hR1 hcs1 hP hP0 hV hxs hLL
      go_wp2_with (go_at_call 90; refine hMk.out.mono ?_; rintro e w3 ⟨⟨A3, n3, c3, hn3, rfl, ho3⟩, b3⟩; obtain rfl : n3 = L := by rw [← hn3, marksEn_len])
      have F3 := hF.step b3
      have P3 := HP0.out.below b3
      obtain ⟨bs, hbs⟩ : ∃ bs, bs = wr.heap.size := ⟨_, rfl⟩
      rw [← hbs] at ho3
      have hlo : bs ≤ w3.heap.size := by rw [hbs]; exact b3.size
      have hlo2 : ∀ (j : Nat) (x : Value) (q : Nat), V[j]? = some x → x.ownBlock = some q → q < bs := fun j x q hx hq => by rw [hbs]; exact (HP0.out.rV.lt j x q hx hq).2
      have HLO2 := Lib.hid hlo2
      clear hF hbs hlo2
      go_loopw [4] (fun u4 wx => ∃ k : Nat, k ≤ n3 ∧ u4 = .int .i64 k ∧ BookP base wx g N (fun j => if j < i then marksEn j 0 (f j).length else if j = i then mixEn i k xs else f j) v1 v2 V ∧ Frm (VS V) w wx ∧ wx.ownsRow bs 53 5 (.slice A3 n3 c3) n3 (flatEn (marksEn i 0 n3))) (fun u4 _ => n3 - (intOf u4).toNat)
      case atStart => exact ⟨0, by omega, rfl, P3, F3, ho3⟩
      case round =>
        obtain ⟨k, hk, rfl, hPk, hFk, hOk⟩ := hrel
        by_cases hlt2 : k < n3
        · obtain ⟨Bi, di, hVi, hOi⟩ := hPk.rV.at_ i hlt
          simp only [Nat.lt_irrefl, if_false, if_true] at hVi hOi
          have hml : (mixEn i k xs).length = n3 := by rw [mixEn_len i k xs (by have := HLL.out; omega), ← HLL.out]
          rw [hml] at hVi hOi
          obtain ⟨gi, ci, hvi, _, hgl⟩ := hOi.form (by omega)
          have hBi : Bi = some ⟨gi, 0, none⟩ := by injection hvi
          subst hBi
          obtain ⟨b3', o3, x, hA3, hb3, hx, m0, m1, m2, m3, m4⟩ := (Rd.of_own hOk).en (k := k) (by rw [marksEn_len]; omega)
          rw [marksEn_at _ _ _ _ hlt2, Nat.zero_add] at hx
          injection hx with hx
          subst hA3
          obtain ⟨b4, o4, y, hA4, _, _, y0, y1, y2, y3, y4⟩ := (Rd.of_own hOi).en (k := k) (by rw [hml]; omega)
          injection hA4 with hA4
          injection hA4 with e1 e2
          subst e1 e2
          rw [Nat.zero_add] at y0 y1 y2 y3 y4
          have z0 := own_free hOi (k * 5)
          have z1 := own_free hOi (k * 5 + 1)
          have z2 := own_free hOi (k * 5 + 2)
          have z3 := own_free hOi (k * 5 + 3)
          have z4 := own_free hOi (k * 5 + 4)
          have e6 : wr.cell? ⟨g, 16, none⟩ = some (.slice (some ⟨b1, o1, none⟩) N c1) := by rw [hPk.B.cell 16, HV1.out]; rfl
          obtain ⟨ad5, eA5, x5⟩ := (Rd.of_own (by have := hPk.r1; rwa [HV1.out] at this : wr.ownsRow base 41 1 (.slice (some ⟨b1, o1, none⟩) N c1) N V)) i _ hVi
          injection eA5 with eA5
          subst eA5
          rw [add_flat] at x5
          have hki : (k : Int) < (n3 : Int) := by omega
          obtain ⟨hP6, hF6⟩ := hPk.put hlt hVi (by simp) hml hlt2 (markEn i k)
          rw [hx] at hP6 hF6
          have HMX := Lib.hid hx
          have HP6 := Lib.hid hP6
          have HF6 := Lib.hid hF6
          have HOk := Lib.hid hOk
          clear hx hP6 hF6 hOi hVi hml hvi hOk
          go_wp2
          go_region
          go_wp2
          go_roundw
          case rel => exact ⟨k + 1, by omega, by go_num, (HP6.out.below ((Below.refl _ _).drew)).congr fun j _ => (by
            by_cases h2 : j = i
            · subst h2
              simp only [Nat.lt_irrefl, if_false, if_true]
              rw [← mixEn_set j k xs (by have := HLL.out; omega), HMX.out]
            · simp only [h2, if_false]), (hFk.then_ HF6.out).drew, own_frm HOk.out HF6.out.drew (fun q hq ⟨j, y, hy, hyq⟩ => by have h1 := HLO2.out j y q hy hyq; have h2 := (HOk.out.lt q hq).1; omega)⟩
          case measure => simp [intOf]; omega
        · obtain rfl : k = n3 := by omega
          go_wp2
          go_roundw
          case rel => exact ⟨i + 1, by omega, by go_num, hPk.congr fun j _ => by
            by_cases h1 : j < i
            · rw [if_pos (by omega), if_pos h1]
            · by_cases h2 : j = i
              · subst h2; rw [if_pos (by omega), if_neg h1, if_pos rfl, HLL.out, HXS.out, mixEn_all]
              · rw [if_neg (by omega), if_neg h1, if_neg h2], hFk⟩
          case measure => simp [intOf]; omega
    · obtain rfl : i = N := by omega
      go_wp2
      go_end0
      exact ⟨rfl, hP.congr fun j hj => by simp [hj], hF⟩
end Go.Proofs.Ytdhohaeopfgbmaa

/-
  A book grows all its lists of entries. Conditions: fewer than a thousand lists, of no more than 4000 elements, all marked.
-/
namespace Go.Proofs.Ytdhohaeopfgbmaa
open Go Go.RowKit
attribute [local go_sem] cell_set_if

/-- A book's lists are being grown: i of them stand grown behind u. -/
structure GrowEn (base : Nat) (w0 w : World) (g N : Nat) (n : Nat → Nat) (v1 v2 : Value) (V : List Value) (i : Nat) (u : Value) (G : List Value) : Prop where
  P : BookP base w g N (fun j => marksEn j 0 (n j)) v1 v2 V
  o : w.ownsRow w0.heap.size 41 1 u i G
  r : RowsEn w base G i (fun j => marksEn j 0 (n j + 72))
  bl : ∀ (j : Nat) (x : Value) (q : Nat), G[j]? = some x → x.ownBlock = some q → (∃ y, V[j]? = some y ∧ y.ownBlock = some q) ∨ w0.heap.size ≤ q
  F : Frm (VS V) w0 w
/-- A list's block is the kept one's, or a new one. -/
def FromEn (w0 : World) (V : List Value) (i : Nat) (G : List Value) (l : Value) : Prop :=
  ∀ q, l.ownBlock = some q → (∃ y, V[i]? = some y ∧ y.ownBlock = some q) ∨ (w0.heap.size ≤ q ∧ ∀ (j : Nat) (x : Value), G[j]? = some x → x.ownBlock ≠ some q)
section
variable {base g N i : Nat} {w0 w w' : World} {n : Nat → Nat} {v1 v2 u : Value} {V G : List Value}
theorem GrowEn.start (h : BookP base w g N (fun j => marksEn j 0 (n j)) v1 v2 V) : GrowEn base w w g N n v1 v2 V 0 (.slice none 0 0) [] :=
  ⟨h, World.ownsRow_nil _ _ _ _, ⟨rfl, fun i hi => by omega⟩, fun j x q hx => by simp at hx, Frm.refl _ _⟩
theorem GrowEn.below (h : GrowEn base w0 w g N n v1 v2 V i u G) (k : Below w.heap.size w w') : GrowEn base w0 w' g N n v1 v2 V i u G :=
  ⟨h.P.below k, own_frm h.o (S := no) (Frm.of_below k) (fun _ _ h => h), h.r.below k, h.bl, h.F.step k⟩
theorem GrowEn.app (h : GrowEn base w0 w g N n v1 v2 V i u G) (hV0 : ∀ (j : Nat) (y : Value) (q : Nat), V[j]? = some y → y.ownBlock = some q → q < w0.heap.size) {l : Value} {m : Nat} {xs : List Value} (hl : w.ownsRow base 53 5 l m xs) (hl' : w'.ownsRow base 53 5 l m xs)
    (hm : n i ≤ m) (hg : w.grownBy w' l.ownBlock) (hlb : FromEn w0 V i G l) : GrowEn base w0 w' g N n v1 v2 V i u G := by
  have F' : Frm (fun k => l.ownBlock = some k) w w' := (Frm.refl _ w).grown hg fun k hk _ => hk
  refine ⟨⟨h.P.lo, h.P.B.frm F' (Blk.own_ne h.P.B hl (by decide)), own_frm h.P.r1 F' (fun k hk hs => own_own h.P.r1 hl (by decide) hk hs), ⟨h.P.rV.len, fun j hj => ?_⟩, h.P.ap⟩, own_frm h.o F' (fun k hk hs => own_own h.o hl (by decide) hk hs), h.r.frm F' (fun j x q hx hq hs => ?_), h.bl, h.F.trans F' (fun k hk hs => ?_)⟩
  · obtain ⟨A, c, h1, h2⟩ := h.P.rV.at_ j hj
    refine ⟨A, c, h1, ?_⟩
    by_cases hc : j = i
    · subst hc
      exact own_thru hg hl hl' h2 fun _ => by simp only [marksEn_len]; exact hm
    · refine own_frm h2 F' fun q hq hs => ?_
      rcases hlb q hs with ⟨y, hy, hyq⟩ | ⟨hq0, _⟩
      · exact h.P.ap i j y _ q (fun e => hc e.symm) hy h1 hyq hq
      · have := hV0 j _ q h1 hq; omega
  · rcases hlb q hs with ⟨y, hy, hyq⟩ | ⟨_, hf⟩
    · rcases h.bl j x q hx hq with ⟨z, hz, hzq⟩ | hq0
      · have hj : j < i := by have := (List.getElem?_eq_some_iff.1 hx).1; rw [h.r.len] at this; exact this
        exact h.P.ap i j y z q (by omega) hy hz hyq hzq
      · have := hV0 i y q hy hyq; omega
    · exact hf j x hx hq
  · rcases hlb k hs with ⟨y, hy, hyq⟩ | ⟨hq0, _⟩
    · exact ⟨i, y, hy, hyq⟩
    · omega
theorem GrowEn.push (h : GrowEn base w0 w g N n v1 v2 V i u G) (h10 : ∀ q, v1.ownBlock = some q → q < w0.heap.size) {u' : Value} {A : Option Addr} {m c : Nat} (hm : m = n i + 72) (hl : w.ownsRow base 53 5 (.slice A m c) m (flatEn (marksEn i 0 m)))
    (hlb : FromEn w0 V i G (.slice A m c)) (hg : w.grownBy w' u.ownBlock) (hu : w'.ownsRow w0.heap.size 41 1 u' (i + 1) (G ++ [.slice A m c])) : GrowEn base w0 w' g N n v1 v2 V (i + 1) u' (G ++ [.slice A m c]) := by
  have F' : Frm (fun k => u.ownBlock = some k) w w' := (Frm.refl _ w).grown hg fun k hk _ => hk
  have hlo : ∀ q, u.ownBlock = some q → w0.heap.size ≤ q := fun q hq => (h.o.lt q hq).1
  have hgl := h.r.len
  refine ⟨⟨h.P.lo, h.P.B.frm F' (Blk.own_ne h.P.B h.o (by decide)), own_frm h.P.r1 F' (fun k hk hs => by have := h10 k hk; have := hlo k hs; omega), h.P.rV.frm F' (fun j x q hx hq hs => h.P.rV.ne h.o (by decide) j x q hx hq hs), h.P.ap⟩, hu, ?_, fun j x q hx hq => ?_, h.F.trans F' (fun k hk hs => by have := hlo k hs; omega)⟩
  · have R : RowsEn w' base G i (fun j => marksEn j 0 (n j + 72)) := h.r.frm F' fun j x q hx hq hs => h.r.ne h.o (by decide) j x q hx hq hs
    refine (R.snoc (marksEn_len i 0 m) (own_frm hl F' fun q hq hs => own_own h.o hl (by decide) hs hq)).congr fun j hj => ?_
    by_cases hc : j = i
    · subst hc; rw [if_pos rfl, hm]
    · rw [if_neg hc]
  · by_cases hc : j < G.length
    · rw [List.getElem?_append_left hc] at hx
      exact h.bl j x q hx hq
    · have hji : j = i := by
        have := (List.getElem?_eq_some_iff.1 hx).1
        rw [List.length_append, hgl] at this
        simp only [List.length_cons, List.length_nil] at this
        omega
      subst hji
      rw [List.getElem?_append_right (by omega), hgl, Nat.sub_self] at hx
      injection hx with hx
      subst hx
      rcases hlb q hq with h1 | ⟨h1, _⟩
      · exact .inl h1
      · exact .inr h1
end
/-- A list that an append gave is the kept one's, or a new one. -/
theorem FromEn.next {w0 w : World} {V G : List Value} {i : Nat} {l l' : Value} (h : FromEn w0 V i G l) (hlo : w0.heap.size ≤ w.heap.size) (hG : ∀ (j : Nat) (x : Value) (q : Nat), G[j]? = some x → x.ownBlock = some q → q < w.heap.size) (he : l'.ownBlock = l.ownBlock ∨ l'.ownBlock = some w.heap.size) : FromEn w0 V i G l' := by
  intro q hq
  rcases he with he | he
  · exact h q (by rw [← he]; exact hq)
  · rw [hq] at he
    injection he with he
    subst he
    exact .inr ⟨hlo, fun j x hx hq2 => by have := hG j x _ hx hq2; omega⟩

theorem growmark_any (i m q : Nat) (w : World) (hi : i ≤ 100000) (hm : m ≤ 100000) (hq : 0 < q) (hq2 : q ≤ 100000) :
    Calls Try.prog 90 #[.int .i64 i, .int .i64 m, .int .i64 q] w fun e w' => (∃ g c, e = .returned (.slice (some ⟨g, 0, none⟩) q c) ∧ w'.ownsRow w.heap.size 53 5 (.slice (some ⟨g, 0, none⟩) q c) q (flatEn (marksEn i m q))) ∧ Below w.heap.size w w' :=
  (markEn_any i m q w hi hm hq2).mono fun e w' ⟨⟨A, n, c, hn, he, ho⟩, hb⟩ => by
    rw [marksEn_len] at hn
    subst hn
    obtain ⟨g, c', hv, _⟩ := ho.form hq
    have hA : A = some ⟨g, 0, none⟩ := by injection hv
    subst hA
    exact ⟨⟨g, c, he, ho⟩, hb⟩
theorem growmark_one (i m : Nat) (w : World) (hi : i ≤ 100000) (hm : m ≤ 100000) :
    Calls Try.prog 90 #[.int .i64 i, .int .i64 m, .int .i64 1] w fun e w' => (∃ g c, e = .returned (.slice (some ⟨g, 0, none⟩) 1 c) ∧ w'.ownsRow w.heap.size 53 5 (.slice (some ⟨g, 0, none⟩) 1 c) 1 (flatEn (marksEn i m 1))) ∧ Below w.heap.size w w' := growmark_any i m 1 w hi hm (by omega) (by omega)
theorem growmark_many (i m : Nat) (w : World) (hi : i ≤ 100000) (hm : m ≤ 100000) :
    Calls Try.prog 90 #[.int .i64 i, .int .i64 m, .int .i64 60] w fun e w' => (∃ g c, e = .returned (.slice (some ⟨g, 0, none⟩) 60 c) ∧ w'.ownsRow w.heap.size 53 5 (.slice (some ⟨g, 0, none⟩) 60 c) 60 (flatEn (marksEn i m 60))) ∧ Below w.heap.size w w' := growmark_any i m 60 w hi hm (by omega) (by omega)
set_option maxRecDepth 100000 in
set_option maxHeartbeats 4000000 in
theorem growEn_any (base g N : Nat) (n : Nat → Nat) (v1 v2 : Value) (V : List Value) (w : World) (h : BookP base w g N (fun j => marksEn j 0 (n j)) v1 v2 V) (hN : N < 1000) (hn : ∀ j, n j ≤ 4000) (hb : base ≤ w.heap.size) :
    Calls Try.prog 68 #[.pointer (some ⟨g, 0, none⟩)] w fun e w' => ∃ A c G, e = .returned (.slice A N c) ∧ GrowEn base w w' g N n v1 v2 V N (.slice A N c) G := by
  obtain ⟨A1, c1, hv1, hc1⟩ := own_form h.r1
  obtain ⟨i0, hi0, hz0, hz1, hz2⟩ := info_parts enInfo
  obtain ⟨i1, hi1, hy0, hy1, hy2⟩ := info_parts rowinfo
  have hV0 : ∀ (j : Nat) (y : Value) (q : Nat), V[j]? = some y → y.ownBlock = some q → q < w.heap.size := fun j y q hy hq => (h.rV.lt j y q hy hq).2
  have h10 : ∀ q, v1.ownBlock = some q → q < w.heap.size := fun q hq => (h.r1.lt q hq).2
  have HV0 := Lib.hid hV0
  have H10 := Lib.hid h10
  have HV1 := Lib.hid hv1
  have HNB := Lib.hid hn
  have hNN : (N : Int) < 1000 := by omega
  have HS := Lib.hid (GrowEn.start h)
  clear h hv1 hn hV0 h10
  go_enter Try.func68, Try.ntmps68
  go_wp2
  go_loopw [3, 4] (fun u3 u4 wr => ∃ (i : Nat) (G : List Value), i ≤ N ∧ u4 = .int .i64 i ∧ GrowEn base w wr g N n v1 v2 V i u3 G) (fun _ u4 _ => N - (intOf u4).toNat)
  case atStart => exact ⟨0, [], by omega, rfl, HS.out⟩
  case round =>
    obtain ⟨i, G, hi, rfl, hK⟩ := hrel
    have e6 : wr.cell? ⟨g, 16, none⟩ = some (.slice A1 N c1) := by rw [hK.P.B.cell 16, HV1.out]; rfl
    by_cases hlt : i < N
    · obtain ⟨B1, d1, hV, hO⟩ := hK.P.rV.at_ i hlt
      simp only [marksEn_len] at hV hO
      have hR1 : Rd wr A1 V := Rd.of_own (by have := hK.P.r1; rwa [HV1.out] at this)
      obtain ⟨b1, o1, rfl, hb1, hcs1⟩ := hR1.flat (by rw [hK.P.rV.len]; omega)
      have x1 := hcs1 i _ hV
      have hii : (i : Int) < (N : Int) := by omega
      have hL := HNB.out i
      have hG0 : ∀ (j : Nat) (x : Value) (q : Nat), G[j]? = some x → x.ownBlock = some q → q < wr.heap.size := fun j x q hx hq => (hK.r.lt j x q hx hq).2
      obtain ⟨bs, hbs⟩ : ∃ bs, bs = wr.heap.size := ⟨_, rfl⟩
      rw [← hbs] at hG0
      have HG0 := Lib.hid hG0
      have hF0 : FromEn w V i G (.slice B1 (n i) d1) := fun q hq => .inl ⟨_, hV, hq⟩
      have HF0 := Lib.hid hF0
      have HO := Lib.hid hO
      have HK := Lib.hid hK
      have hws : w.heap.size ≤ wr.heap.size := hK.F.size
      obtain ⟨L, hLn⟩ : ∃ L, L = n i := ⟨_, rfl⟩
      have HLn := Lib.hid hLn
      rw [← hLn] at x1
      clear hO hR1 hcs1 hV hF0 hG0
      go_wp2
      go_loopw [5, 6] (fun u5 u6 wx => ∃ (t m : Nat) (Al : Option Addr) (cl : Nat), t ≤ 12 ∧ u6 = .int .i64 t ∧ m = n i + t ∧ u5 = .slice Al m cl ∧ bs ≤ wx.heap.size ∧ wx.ownsRow base 53 5 (.slice Al m cl) m (flatEn (marksEn i 0 m)) ∧ FromEn w V i G (.slice Al m cl) ∧ GrowEn base w wx g N n v1 v2 V i u3 G) (fun _ u6 _ => 12 - (intOf u6).toNat)
      case atStart => exact ⟨0, n i, B1, d1, by omega, rfl, rfl, by rw [← HLn.out], by omega, HO.out, HF0.out, HK.out⟩
      case round =>
        obtain ⟨t, m, Al, cl, ht, rfl, hm, rfl, hbx, hOl, hFl, hKl⟩ := hrel
        have hm12 : m ≤ 4012 := by omega
        have hM1 := growmark_one i m wr (by omega) (by omega)
        have hM60 := growmark_many i m wr (by omega) (by omega)
        have HM1 := Lib.hid hM1
        have HM60 := Lib.hid hM60
        have HM := Lib.hid hm
        have HAp : ∀ q, Hid (flatEn (marksEn i 0 m) ++ flatEn (marksEn i m q) = flatEn (marksEn i 0 (m + q))) := fun q => by unfold Hid; rw [← flatEn_app, marksEn_app]
        have HA1 := HAp 1
        have HA60 := HAp 60
        have hbw : base ≤ wr.heap.size := by omega
        have hGx : ∀ (w5 : World), wr.heap.size ≤ w5.heap.size → ∀ (j : Nat) (x : Value) (q : Nat), G[j]? = some x → x.ownBlock = some q → q < w5.heap.size := fun w5 h5 j x q hx hq => by have := HG0.out j x q hx hq; omega
        have HGx := Lib.hid hGx
        clear hM1 hM60 hm HAp hGx hLn
        by_cases htt : t < 12
        · have hti : (t : Int) < 12 := by omega
          go_wp2_with (first
            | (go_at_call 90; with_reducible refine HM1.out.mono ?_; rintro e w5 ⟨⟨g5, c5, rfl, ho5⟩, b5⟩; have O5 := own_frm hOl (S := no) (Frm.of_below b5) (fun _ _ h => h); have K5 := hKl.below b5; have s5 : wr.heap.size ≤ w5.heap.size := b5.size)
            | (at_builtin
               refine wpList_app2 rfl (.tmp 27) (.tmp 31) 41 rfl base 53 i0 _ 5 56 Try.underlying41 hi0 hz0 hz1 hz2 rfl (by omega) (.slice Al m cl) m (flatEn (marksEn i 0 m)) rfl O5 ⟨g5, 0, none⟩ 1 c5 (flatEn (marksEn i m 1)) rfl (Rd.of_own ho5) (by rw [flatEn_len, marksEn_len]) (flatEn_one _) (by unfold maxLen; omega) (by omega) (by omega) ?_
               intro v6 w6 ho6 hg6 hb6 hat6 hk6
               rw [HA1.out] at ho6
               obtain ⟨A6, c6', rfl, hc6⟩ := own_form ho6))
          go_roundw
          case rel => exact ⟨t + 1, m + 1, A6, c6', by omega, by go_num, by have := HM.out; omega, rfl, by have := hb6.size; have := hg6.size; omega, ho6, hFl.next (by omega) (HGx.out w5 s5) hat6, K5.app HV0.out O5 hk6 (by have := HM.out; omega) hg6 hFl⟩
          case measure => simp [intOf]; omega
        · have hti : (12 : Int) ≤ (t : Int) := by omega
          have hm72 : m + 60 = n i + 72 := by have := HM.out; omega
          have HM72 := Lib.hid hm72
          clear hm72
          go_wp2_with (first
            | (go_at_call 90; with_reducible refine HM60.out.mono ?_; rintro e w5 ⟨⟨g5, c5, rfl, ho5⟩, b5⟩; have O5 := own_frm hOl (S := no) (Frm.of_below b5) (fun _ _ h => h); have K5 := hKl.below b5; have s5 : wr.heap.size ≤ w5.heap.size := b5.size)
            | (at_builtin
               refine wpList_app2 rfl (.tmp 34) (.tmp 38) 41 rfl base 53 i0 _ 5 56 Try.underlying41 hi0 hz0 hz1 hz2 rfl (by omega) (.slice Al m cl) m (flatEn (marksEn i 0 m)) rfl O5 ⟨g5, 0, none⟩ 60 c5 (flatEn (marksEn i m 60)) rfl (Rd.of_own ho5) (by rw [flatEn_len, marksEn_len]) (flatEn_one _) (by unfold maxLen; omega) (by omega) (by omega) ?_
               intro v6 w6 ho6 hg6 hb6 hat6 hk6
               rw [HA60.out] at ho6
               obtain ⟨A6, c6', rfl, hc6⟩ := own_form ho6
               have K6 := K5.app HV0.out O5 hk6 (by have := HM.out; omega) hg6 hFl
               have F6 := hFl.next (by omega) (HGx.out w5 s5) hat6
               have K7 := K6.below ((Below.refl _ _).alloc (Nat.le_refl _) (.cells #[.slice A6 (m + 60) c6'] 41))
               have ho7 := ho6.alloc (.cells #[.slice A6 (m + 60) c6'] 41))
            | (at_builtin
               refine wpList_app rfl (.tmp 33) (.tmp 40) 38 rfl w.heap.size 41 i1 _ 1 24 Try.underlying38 hi1 hy0 hy1 hy2 rfl (by omega) u3 i G rfl K7.o _ 1 1 [.slice A6 (m + 60) c6'] rfl (Rd.one _ _ _) rfl (by simp [Value.oneCell']) (by unfold maxLen; omega) (by omega) (by have := hg6.size; simp; omega) ?_
               intro v8 w8 ho8 hg8 hb8 hat8))
          go_roundw
          case rel => exact ⟨i + 1, _, by omega, by go_num, K7.push H10.out HM72.out ho7 F6 hg8 ho8⟩
          case measure => simp [intOf]; omega
    · obtain rfl : i = N := by omega
      obtain ⟨A3, c3, rfl, hc3⟩ := own_form hK.o
      go_wp2
      go_ret
      exact ⟨A3, c3, G, rfl, hK⟩
end Go.Proofs.Ytdhohaeopfgbmaa

/-
  A book that keeps lists of entries alone tells that they are apart. Conditions: fewer than 250 lists, of no more than 4000 elements, each of the call's own, no two in one block.
-/
namespace Go.Proofs.Ytdhohaeopfgbmaa
open Go Go.RowKit
attribute [local go_sem] cell_set_if

set_option maxRecDepth 100000 in
set_option maxHeartbeats 1000000 in
theorem markedEn_any (base N : Nat) (n : Nat → Nat) (V : List Value) (A : Option Addr) (c : Nat) (w : World) (hr : Rd w A V) (hR : RowsEn w base V N (fun i => marksEn i 0 (n i))) (hN : N < 1000) (hn : ∀ i, n i ≤ 5000) :
    Calls Try.prog 77 #[.slice A N c] w fun e w' => e = .returned (.bool true) ∧ Below w.heap.size w w' := by
  have HR := Lib.hid hr
  have HRR := Lib.hid hR
  have HNB := Lib.hid hn
  have hNN : (N : Int) < 1000 := by omega
  clear hr hR hn
  go_enter Try.func77, Try.ntmps77
  go_wp2
  go_loopw [2, 3] (fun u2 u3 wr => ∃ k : Nat, k ≤ N ∧ u3 = .int .i64 k ∧ Below w.heap.size w wr) (fun _ u3 _ => N - (intOf u3).toNat)
  case atStart => exact ⟨0, by omega, rfl, Below.refl _ _⟩
  case round =>
    obtain ⟨k, hk, rfl, hB⟩ := hrel
    by_cases hlt : k < N
    · obtain ⟨B1, d1, hV, hO⟩ := (HRR.out.below hB).at_ k hlt
      simp only [marksEn_len] at hV hO
      obtain ⟨b1, o1, rfl, hb1, hcs1⟩ := HR.out.flat (by rw [HRR.out.len]; omega)
      have x1 := cell_bb hB hb1 (hcs1 k _ hV)
      have hki : (k : Int) < (N : Int) := by omega
      have hL := HNB.out k
      have hM : Calls Try.prog 90 #[.int .i64 k, .int .i64 0, .int .i64 (n k)] wr.drew fun e w' => MadeEn wr.drew.heap.size e w' (marksEn k 0 (n k)) ∧ Below wr.drew.heap.size wr.drew w' := markEn_any k 0 (n k) wr.drew (by omega) (by omega) (by omega)
      have HM := Lib.hid hM
      obtain ⟨xs, hxs⟩ : ∃ xs, xs = marksEn k 0 (n k) := ⟨_, rfl⟩
      have hxl : xs.length = n k := by rw [hxs, marksEn_len]
      have HMK : Hid (∀ w, ∀ x ∈ xs, x.has w) := fun w => by rw [hxs]; exact marksEn_has _ _ _ w
      rw [← hxs] at HM hO
      generalize n k = L at *
      have HXL := Lib.hid hxl
      have HO := Lib.hid hO
      clear hcs1 hM hxs hxl hV hO
      have x1d : wr.drew.cell? ⟨b1, o1 + k, none⟩ = some (.slice B1 L d1) := x1
      go_wp2
      go_region_held3 (fun w' => w'.cell? ⟨b1, o1 + k, none⟩ = some (.slice B1 L d1)) (first | exact x1d | with_reducible assumption)
        (first
          | (go_at_call 90; with_reducible refine HM.out.mono ?_; rintro e w5 ⟨⟨A5, n5, c5, hn5, rfl, ho5⟩, b5⟩
             obtain rfl : n5 = L := by rw [← hn5, HXL.out]
             have x5 := cell_b b5 x1d
             have B5 := below_of b5 hB.drew hB.size
             have R5 := (Rd.of_own HO.out).drew.below b5)
          | (go_at_call 20; with_reducible refine (sameens_yes B1 A5 n5 d1 c5 xs xs w5 R5 (Rd.of_own ho5) HXL.out (by omega) rfl (HMK.out w5) (HMK.out w5)).mono ?_; rintro e w6 ⟨rfl, q6⟩
             have B6 := B5.trans (q6.below _)
             have x6 : w6.cell? ⟨b1, o1 + k, none⟩ = some (.slice B1 n5 d1) := by obtain ⟨m, rfl⟩ := q6; exact x5))
      go_wp2
      go_roundw
      case rel => exact ⟨k + 1, by omega, by go_num, B6⟩
      case measure => simp [intOf]; omega
    · obtain rfl : k = N := by omega
      go_wp2
      go_ret
      exact ⟨rfl, hB⟩
theorem bookEn_none {w : World} {g : Nat} {v1 v2 : Value} (h : Blk w g 40 (bookEn v1 v2)) : w.cell? ⟨g, 0, none⟩ = some (.slice none 0 0) ∧ w.cell? ⟨g, 2, none⟩ = some (.slice none 0 0) ∧ w.cell? ⟨g, 4, none⟩ = some (.slice none 0 0) ∧ w.cell? ⟨g, 6, none⟩ = some (.slice none 0 0) ∧ w.cell? ⟨g, 8, none⟩ = some (.slice none 0 0) ∧ w.cell? ⟨g, 10, none⟩ = some (.slice none 0 0) ∧ w.cell? ⟨g, 12, none⟩ = some (.slice none 0 0) ∧ w.cell? ⟨g, 14, none⟩ = some (.slice none 0 0) :=
  ⟨h.cell 0, h.cell 2, h.cell 4, h.cell 6, h.cell 8, h.cell 10, h.cell 12, h.cell 14⟩
set_option maxRecDepth 100000 in
set_option maxHeartbeats 4000000 in
theorem apartEn_any (base g N : Nat) (n : Nat → Nat) (f fw : Nat → List En) (v1 v2 : Value) (V W : List Value) (w : World) (h : BookEn base w g N f fw v1 v2 V W) (hal : ∀ i, i < N → (f i).map plE = (fw i).map plE ∧ (∀ x ∈ f i, x.has w) ∧ (∀ y ∈ fw i, y.has w)) (hN : N ≤ 250) (hf : ∀ i, (f i).length = n i) (hn : ∀ i, n i ≤ 4000) (hb : base ≤ w.heap.size) :
    Calls Try.prog 35 #[.pointer (some ⟨g, 0, none⟩)] w fun e w' => e = .returned (.bool true) ∧ Frm (VS V) w w' := by
  have hfl : ∀ i, (f i).length ≤ 100000 := fun i => by rw [hf i]; have := hn i; omega
  have hSt := stillEn_any base g N f fw v1 v2 V W w h (by omega) hfl hal
  have hB := h.B
  obtain ⟨A1, c1, hv1, hc1⟩ := own_form h.r1
  have HV1 := Lib.hid hv1
  have HSt := Lib.hid hSt
  have HH := Lib.hid h
  have HFL := Lib.hid hfl
  have HF := Lib.hid hf
  have HNB := Lib.hid hn
  have hn72 : ∀ i, n i + 72 ≤ 5000 := fun i => by have := hn i; omega
  have hn20 : ∀ i, n i ≤ 5000 := fun i => by have := hn i; omega
  have HN72 := Lib.hid hn72
  have HN20 := Lib.hid hn20
  have HB0 := Lib.hid hb
  have hrow : ∀ w, BookP base w g N (fun j => marksEn j 0 (n j)) v1 v2 V → w.cell? ⟨g, 16, none⟩ = some (.slice A1 N c1) ∧ Rd w A1 V := fun w h => ⟨by rw [h.B.cell 16, hv1]; rfl, Rd.of_own (by have := h.r1; rwa [hv1] at this)⟩
  have HROW := Lib.hid hrow
  obtain ⟨q0, q1, q2, q3, q4, q5, q6, q7⟩ := bookEn_none hB
  clear hSt h hal hfl hv1 hf hn hn72 hn20 hrow hb
  go_enter Try.func35, Try.ntmps35
  dsimp only [List.append]
  go_wp2_with (first
    | (go_at_call 42; with_reducible refine (stillTexts_none g _ (by assumption)).mono ?_; rintro e w' ⟨rfl, hw⟩; subst hw)
    | (go_at_call 53; with_reducible refine (putTexts_none g _ (by assumption)).mono ?_; rintro e w' ⟨rfl, hw⟩; subst hw)
    | (go_at_call 60; with_reducible refine (growTexts_none g _ (by assumption)).mono ?_; rintro e w' ⟨rfl, hw⟩; subst hw)
    | (go_at_call 69; with_reducible refine (markedTexts_none _).mono ?_; rintro e w' ⟨rfl, hw⟩; subst hw)
    | (go_at_call 43; with_reducible refine (stillInts_none g _ (by assumption)).mono ?_; rintro e w' ⟨rfl, hw⟩; subst hw)
    | (go_at_call 54; with_reducible refine (putInts_none g _ (by assumption)).mono ?_; rintro e w' ⟨rfl, hw⟩; subst hw)
    | (go_at_call 61; with_reducible refine (growInts_none g _ (by assumption)).mono ?_; rintro e w' ⟨rfl, hw⟩; subst hw)
    | (go_at_call 70; with_reducible refine (markedInts_none _).mono ?_; rintro e w' ⟨rfl, hw⟩; subst hw)
    | (go_at_call 44; with_reducible refine (stillItems_none g _ (by assumption)).mono ?_; rintro e w' ⟨rfl, hw⟩; subst hw)
    | (go_at_call 55; with_reducible refine (putItems_none g _ (by assumption)).mono ?_; rintro e w' ⟨rfl, hw⟩; subst hw)
    | (go_at_call 62; with_reducible refine (growItems_none g _ (by assumption)).mono ?_; rintro e w' ⟨rfl, hw⟩; subst hw)
    | (go_at_call 71; with_reducible refine (markedItems_none _).mono ?_; rintro e w' ⟨rfl, hw⟩; subst hw)
    | (go_at_call 45; with_reducible refine (stillKids_none g _ (by assumption)).mono ?_; rintro e w' ⟨rfl, hw⟩; subst hw)
    | (go_at_call 56; with_reducible refine (putKids_none g _ (by assumption)).mono ?_; rintro e w' ⟨rfl, hw⟩; subst hw)
    | (go_at_call 63; with_reducible refine (growKids_none g _ (by assumption)).mono ?_; rintro e w' ⟨rfl, hw⟩; subst hw)
    | (go_at_call 72; with_reducible refine (markedKids_none _).mono ?_; rintro e w' ⟨rfl, hw⟩; subst hw)
    | (go_at_call 46; with_reducible refine (stillPairs_none g _ (by assumption)).mono ?_; rintro e w' ⟨rfl, hw⟩; subst hw)
    | (go_at_call 57; with_reducible refine (putPairs_none g _ (by assumption)).mono ?_; rintro e w' ⟨rfl, hw⟩; subst hw)
    | (go_at_call 64; with_reducible refine (growPairs_none g _ (by assumption)).mono ?_; rintro e w' ⟨rfl, hw⟩; subst hw)
    | (go_at_call 73; with_reducible refine (markedPairs_none _).mono ?_; rintro e w' ⟨rfl, hw⟩; subst hw)
    | (go_at_call 47; with_reducible refine (stillReplies_none g _ (by assumption)).mono ?_; rintro e w' ⟨rfl, hw⟩; subst hw)
    | (go_at_call 58; with_reducible refine (putReplies_none g _ (by assumption)).mono ?_; rintro e w' ⟨rfl, hw⟩; subst hw)
    | (go_at_call 65; with_reducible refine (growReplies_none g _ (by assumption)).mono ?_; rintro e w' ⟨rfl, hw⟩; subst hw)
    | (go_at_call 74; with_reducible refine (markedReplies_none _).mono ?_; rintro e w' ⟨rfl, hw⟩; subst hw)
    | (go_at_call 48; with_reducible refine (stillCmds_none g _ (by assumption)).mono ?_; rintro e w' ⟨rfl, hw⟩; subst hw)
    | (go_at_call 59; with_reducible refine (putCmds_none g _ (by assumption)).mono ?_; rintro e w' ⟨rfl, hw⟩; subst hw)
    | (go_at_call 66; with_reducible refine (growCmds_none g _ (by assumption)).mono ?_; rintro e w' ⟨rfl, hw⟩; subst hw)
    | (go_at_call 75; with_reducible refine (markedCmds_none _).mono ?_; rintro e w' ⟨rfl, hw⟩; subst hw)
    | (go_at_call 49; with_reducible refine (stillSteps_none g _ (by assumption)).mono ?_; rintro e w' ⟨rfl, hw⟩; subst hw)
    | (go_at_call 51; with_reducible refine (putSteps_none g _ (by assumption)).mono ?_; rintro e w' ⟨rfl, hw⟩; subst hw)
    | (go_at_call 67; with_reducible refine (growSteps_none g _ (by assumption)).mono ?_; rintro e w' ⟨rfl, hw⟩; subst hw)
    | (go_at_call 76; with_reducible refine (markedSteps_none _).mono ?_; rintro e w' ⟨rfl, hw⟩; subst hw)
    | (go_at_call 50; with_reducible refine HSt.out.mono ?_; rintro e w1 ⟨rfl, qt1⟩; have B1 := HH.out.below (qt1.below _); obtain ⟨r0, r1, r2, r3, r4, r5, r6, r7⟩ := bookEn_none B1.B; have F1 := Frm.of_below (S := VS V) (qt1.below _))
    | (go_at_call 52; with_reducible refine (putEn_any base g N f v1 v2 V _ B1.p (by omega) HFL.out).mono ?_; rintro e w2 ⟨rfl, P2, F2⟩; obtain ⟨s0, s1, s2, s3, s4, s5, s6, s7⟩ := bookEn_none P2.B; have F2' := F1.then_ F2; have P2' := P2.congr (f' := fun j => marksEn j 0 (n j)) (fun i _ => by rw [HF.out i]))
    | (go_at_call 68; with_reducible refine (growEn_any base g N n v1 v2 V _ P2' (by omega) HNB.out (Nat.le_trans HB0.out F2'.size)).mono ?_; rintro e w3 ⟨A3, c3, G, rfl, K3⟩; obtain ⟨t0, t1, t2, t3, t4, t5, t6, t7⟩ := bookEn_none K3.P.B; have F3 := F2'.then_ K3.F)
    | (go_at_call 77; with_reducible refine (markedEn_any base N (fun i => n i + 72) G A3 c3 _ (Rd.of_own K3.o) K3.r (by omega) HN72.out).mono ?_; rintro e w4 ⟨rfl, b4⟩; have K4 := K3.below b4; obtain ⟨u0, u1, u2, u3, u4, u5, u6, u7⟩ := bookEn_none K4.P.B; have F4 := F3.step b4; obtain ⟨x6, y6⟩ := HROW.out _ K4.P)
    | (go_at_call 77; with_reducible refine (markedEn_any base N n V A1 c1 _ y6 K4.P.rV (by omega) HN20.out).mono ?_; rintro e w5 ⟨rfl, b5⟩; have K5 := K4.below b5; obtain ⟨z0, z1, z2, z3, z4, z5, z6, z7⟩ := bookEn_none K5.P.B; have F5 := F4.step b5))
  go_ret
  exact ⟨rfl, F5⟩
theorem BookEn.congr {base g N : Nat} {w : World} {f f' fw fw' : Nat → List En} {v1 v2 : Value} {V W : List Value} (h : BookEn base w g N f fw v1 v2 V W) (e : ∀ i, i < N → f' i = f i) (e' : ∀ i, i < N → fw' i = fw i) : BookEn base w g N f' fw' v1 v2 V W :=
  ⟨h.lo, h.B, h.r1, h.r2, h.rV.congr e, h.rW.congr e', h.ap, h.ne⟩
/-- A new book. -/
theorem BookEn.start (base : Nat) (w : World) (hb : base ≤ w.heap.size) (f fw : Nat → List En) : BookEn base (w.alloc (.cells (bookEn (.slice none 0 0) (.slice none 0 0)) 40)) w.heap.size 0 f fw (.slice none 0 0) (.slice none 0 0) [] [] :=
  ⟨hb, Blk.new _ _ _, World.ownsRow_nil _ _ _ _, World.ownsRow_nil _ _ _ _, ⟨rfl, fun i hi => by omega⟩, ⟨rfl, fun i hi => by omega⟩, fun i j x y k _ h => by simp at h, fun k hk => by simp [Value.ownBlock] at hk⟩
theorem RowsEn.base_ {w : World} {base base' N : Nat} {V : List Value} {f : Nat → List En} (h : RowsEn w base V N f) (hb : base' ≤ base) : RowsEn w base' V N f :=
  ⟨h.len, fun i hi => by obtain ⟨A, c, h1, h2⟩ := h.at_ i hi; exact ⟨A, c, h1, own_base h2 hb⟩⟩
end Go.Proofs.Ytdhohaeopfgbmaa

/-
  Few entries are short; lists of entries that were kept, and their copies. No condition of its own.
-/
namespace Go.Proofs.Ytdhohaeopfgbmaa
open Go Go.RowKit

theorem cmds_few (l : List Cm) (n : Int) (h : 0 ≤ cmdsL n l) : (l.length : Int) * 9 ≤ n := by
  induction l generalizing n with
  | nil => have h' : 0 ≤ n := h; simpa using h'
  | cons x xs ih =>
    unfold cmdsL at h
    split at h
    · rename_i h0
      have h1 := ih _ h
      have h2 : roomL n (cmZ x) ≤ n - 9 ∨ roomL n (cmZ x) = -1 := by
        unfold cmZ
        unfold roomL
        split
        · exact .inr rfl
        · exact .inl (roomL_le (n - 9) _ (fun z hz => by simp only [List.mem_cons, List.mem_nil_iff, or_false] at hz; rcases hz with rfl | rfl | rfl | rfl <;> omega) (by omega)).2
      rcases h2 with h2 | h2
      · rw [List.length_cons]; omega
      · rw [h2, cmdsL_neg (by omega)] at h; omega
    · rename_i h0; omega
theorem ens_few (l : List En) (n : Int) (h : 0 ≤ ensL n l) (hn : n ≤ 20000) : ∀ x ∈ l, x.cmds.length ≤ 20000 := by
  induction l generalizing n with
  | nil => intro x hx; exact absurd hx (by simp)
  | cons y ys ih =>
    unfold ensL at h
    split at h
    · rename_i h0
      have hr := roomL_le n [20] (fun z hz => by rw [List.mem_singleton.1 hz]; omega) (by omega)
      have hc := cmdsL_le (roomL n [20]) y.cmds hr.1
      by_cases h2 : 0 ≤ cmdsL (roomL n [20]) y.cmds
      · have h3 := cmds_few _ _ h2
        have h4 := ih _ h (by omega)
        intro x hx
        rcases List.mem_cons.1 hx with rfl | hx
        · omega
        · exact h4 x hx
      · rw [ensL_neg h2] at h; exact absurd h h2
    · rename_i h0; omega
theorem light_few {few : Nat} {l : List En} (h : lightE few l = true) : l.length ≤ few ∧ ∀ x ∈ l, x.cmds.length ≤ 20000 := by
  unfold lightE at h
  rw [Bool.and_eq_true, decide_eq_true_eq, decide_eq_true_eq] at h
  have h2 := ens_few _ _ h.2 (Int.le_refl _)
  rw [List.take_of_length_le h.1] at h2
  exact ⟨h.1, h2⟩
theorem mem_pl {xs ys : List En} (h : ys.map plE = xs.map plE) {y : En} (hy : y ∈ ys) : ∃ x ∈ xs, plE y = plE x := by
  have h1 : plE y ∈ ys.map plE := List.mem_map.2 ⟨y, hy, rfl⟩
  rw [h] at h1
  obtain ⟨x, hx, e⟩ := List.mem_map.1 h1
  exact ⟨x, hx, e.symm⟩
/-- A list that was kept tells as its copy. -/
def AlikeEn (w : World) (base N : Nat) (f fw : Nat → List En) : Prop := ∀ i, i < N → (f i).map plE = (fw i).map plE ∧ (∀ x ∈ f i, x.mine w base) ∧ (∀ y ∈ fw i, y.mine w base)
theorem AlikeEn.frm {w w' : World} {base N : Nat} {f fw : Nat → List En} {S : Nat → Prop} {Ts : List TypeId} (h : AlikeEn w base N f fw) (k : Frm S w w') (hS : TyS w S Ts) (hn : 96 ∉ Ts) : AlikeEn w' base N f fw := fun i hi => ⟨(h i hi).1, fun x hx => ((h i hi).2.1 x hx).frm k hS hn, fun x hx => ((h i hi).2.2 x hx).frm k hS hn⟩
theorem AlikeEn.below {w w' : World} {base N : Nat} {f fw : Nat → List En} (h : AlikeEn w base N f fw) (b : Below w.heap.size w w') : AlikeEn w' base N f fw := fun i hi => ⟨(h i hi).1, fun x hx => ((h i hi).2.1 x hx).below b, fun x hx => ((h i hi).2.2 x hx).below b⟩
/-- One list more. -/
theorem AlikeEn.more {w : World} {base N : Nat} {f fw : Nat → List En} {xs ys : List En} (h : AlikeEn w base N f fw) (hp : ys.map plE = xs.map plE) (h1 : ∀ x ∈ xs, x.mine w base) (h2 : ∀ y ∈ ys, y.mine w base) : AlikeEn w base (N + 1) (fun j => if j = N then xs else f j) (fun j => if j = N then ys else fw j) := fun i hi => by
  by_cases hc : i = N
  · simp only [hc, if_true]; exact ⟨hp.symm, h1, h2⟩
  · simp only [hc, if_false]; exact h i (by omega)
theorem BookEn.last {base g N n c : Nat} {w : World} {f fw : Nat → List En} {v1 v2 : Value} {V W : List Value} {A : Option Addr} {xs : List En} (h : BookEn base w g (N + 1) (fun j => if j = N then xs else f j) fw v1 v2 (V ++ [.slice A n c]) W) (hn : xs.length = n) : w.ownsRow base 53 5 (.slice A n c) n (flatEn xs) := by
  have hl := h.rV.len
  rw [List.length_append, List.length_cons, List.length_nil] at hl
  obtain ⟨B, d, h1, h2⟩ := h.rV.at_ N (by omega)
  rw [List.getElem?_append_right (by omega), show N - V.length = 0 by omega, List.getElem?_cons_zero] at h1
  injection h1 with h1
  simp only [if_true] at h1 h2
  rw [hn] at h1 h2
  injection h1 with e1 _ e2
  subst e1 e2
  exact h2
end Go.Proofs.Ytdhohaeopfgbmaa

/-
  The log in memory: what its reading calls give (Last, LastTerm, Term, Newer), and New. Condition: its base and its length are below 2^60.
-/
namespace Go.Proofs.Ytdhohaeopfgbmaa
open Go Go.RowKit

/-- An entry's cells. -/
structure Ent where
  index : Int
  term : Int
  client : Int
  seq : Int
  cmds : Value
def Ent.cells (e : Ent) : List Value := [.int .i64 e.index, .int .i64 e.term, .int .i64 e.client, .int .i64 e.seq, e.cmds]
def flatE (es : List Ent) : List Value := es.flatMap Ent.cells
theorem flatE_len (es : List Ent) : (flatE es).length = es.length * 5 := by
  induction es with
  | nil => rfl
  | cons e es ih => simp [flatE, Ent.cells] at ih ⊢; omega
theorem flatE_at (es : List Ent) (k : Nat) (e : Ent) (h : es[k]? = some e) (j : Nat) (v : Value) (hv : e.cells[j]? = some v) : (flatE es)[k * 5 + j]? = some v := by
  induction es generalizing k with
  | nil => simp at h
  | cons d es ih =>
    have hd : flatE (d :: es) = d.cells ++ flatE es := rfl
    rw [hd]
    cases k with
    | zero =>
      simp at h; subst h
      have hj : j < d.cells.length := (List.getElem?_eq_some_iff.1 hv).1
      rw [Nat.zero_mul, Nat.zero_add, List.getElem?_append_left hj]; exact hv
    | succ k =>
      simp at h
      have hl : d.cells.length = 5 := rfl
      rw [List.getElem?_append_right (by omega), hl, show (k + 1) * 5 + j - 5 = k * 5 + j by omega]
      exact ih k h

/-- A log (T: its struct's type): its base's index and term, and its entries, at block g. -/
structure LogT (T : TypeId) (w : World) (base g : Nat) (idx trm : Int) (es : List Ent) (v : Value) : Prop where
  blk : Blk w g T #[.int .i64 idx, .int .i64 trm, v]
  low : base ≤ g
  own : w.ownsRow base 53 5 v es.length (flatE es)
  i0 : 0 ≤ idx
  i1 : idx ≤ 1152921504606846976
  n1 : es.length ≤ 1000000000

/-- The program's log. -/
abbrev LogAt := LogT 70
/-- The document's log. -/
abbrev RefAt := LogT 46

/-- The term of an index. -/
def termE (idx trm : Int) (es : List Ent) (i : Int) : Option Int :=
  if i < idx ∨ idx + es.length < i then none else if i = idx then some trm else (es[(i - idx - 1).toNat]?).map (·.term)

theorem termE_base (idx trm : Int) (es : List Ent) : termE idx trm es idx = some trm := by unfold termE; rw [if_neg (by omega), if_pos rfl]

section
variable {T : TypeId} {w w' : World} {base g : Nat} {idx trm : Int} {es : List Ent} {v : Value}
theorem LogT.drewN (h : LogT T w base g idx trm es v) (n : Nat) : LogT T (w.drewN n) base g idx trm es v := ⟨h.blk, h.low, h.own, h.i0, h.i1, h.n1⟩
theorem LogT.frm {S : Nat → Prop} (h : LogT T w base g idx trm es v) (k : Frm S w w') (hg : ¬ S g) (hv : ∀ r, v.ownBlock = some r → ¬ S r) : LogT T w' base g idx trm es v :=
  ⟨h.blk.frm k hg, h.low, own_frm h.own k hv, h.i0, h.i1, h.n1⟩
theorem LogT.below (h : LogT T w base g idx trm es v) (k : Below w.heap.size w w') : LogT T w' base g idx trm es v :=
  h.frm (S := no) (Frm.of_below k) id fun _ _ => id
theorem LogT.form (h : LogT T w base g idx trm es v) : ∃ A c, v = .slice A es.length c ∧ es.length ≤ c := own_form h.own
end

theorem new_log (w : World) (x' y' x y : Int) (hx : x' = x) (hy : y' = y) (h0 : 0 ≤ x) (h1 : x ≤ 1152921504606846976) :
    LogAt (w.alloc (.cells #[.int .i64 x', .int .i64 y', .slice none 0 0] 70)) w.heap.size w.heap.size x y [] (.slice none 0 0) := by
  subst hx hy
  exact ⟨Blk.new _ _ _, Nat.le_refl _, World.ownsRow_nil _ _ _ _, h0, h1, by simp⟩

theorem new_any (i t : Int) (w : World) (hi : i ≤ 1152921504606846976) :
    Calls Try.prog 6 #[.int .i64 i, .int .i64 t] w fun e w' => e = .returned (.pointer (some ⟨w.heap.size, 0, none⟩)) ∧ LogAt w' w.heap.size w.heap.size (max i 0) (max t 0) [] (.slice none 0 0) ∧ Below w.heap.size w w' := by
  have H1 : Hid (max i 0 ≤ 1152921504606846976) := by unfold Hid; omega
  have H0 : Hid (0 ≤ max i 0) := by unfold Hid; omega
  obtain ⟨x, hx⟩ : ∃ x, x = max i 0 := ⟨_, rfl⟩
  obtain ⟨y, hy⟩ : ∃ y, y = max t 0 := ⟨_, rfl⟩
  rw [← hx] at H1 H0 ⊢
  rw [← hy]
  have HX := Lib.hid hx
  have HY := Lib.hid hy
  clear hx hy
  go_enter Try.func6, Try.ntmps6
  go_wp2
  all_goals go_ret
  all_goals exact ⟨rfl, new_log _ _ _ _ _ (by have := HX.out; omega) (by have := HY.out; omega) H0.out H1.out, (Below.refl _ _).alloc (Nat.le_refl _) _⟩

theorem LogT.qt {T : TypeId} {w w' : World} {base g : Nat} {idx trm : Int} {es : List Ent} {v : Value} (h : LogT T w base g idx trm es v) (k : Qt w w') : LogT T w' base g idx trm es v := by obtain ⟨n, rfl⟩ := k; exact h.drewN n

theorem last_any (w : World) (base g : Nat) (idx trm : Int) (es : List Ent) (v : Value) (h : LogAt w base g idx trm es v) :
    Calls Try.prog 26 #[.pointer (some ⟨g, 0, none⟩)] w fun e w' => e = .returned (.int .i64 (idx + es.length)) ∧ Qt w w' := by
  obtain ⟨A, c, rfl, hc⟩ := h.form
  have c0 := h.blk.cell 0
  have c2 := h.blk.cell 2
  have h0 := h.i0
  have h1 := h.i1
  have h2 := h.n1
  simp at c0 c2
  clear h
  go_enter Try.func26, Try.ntmps26
  go_wp2
  go_quiet (fail)
  go_wp2
  go_ret
  exact ⟨rfl, Qt.drewN _ _⟩

set_option maxHeartbeats 1000000 in
theorem term_no (w : World) (base g : Nat) (idx trm : Int) (es : List Ent) (v : Value) (i : Int) (h : LogAt w base g idx trm es v) (hi : i < idx ∨ idx + es.length < i) :
    Calls Try.prog 23 #[.pointer (some ⟨g, 0, none⟩), .int .i64 i] w fun e w' => e = .returned (.tuple #[.int .i64 0, .bool false]) ∧ Qt w w' := by
  have H := Lib.hid h
  have c0 := h.blk.cell 0
  simp at c0
  clear h
  by_cases h1 : i < idx
  · go_enter Try.func23, Try.ntmps23
    go_wp2
    go_ret2
    exact ⟨rfl, Qt.refl _⟩
  · have h2 : idx + es.length < i := by omega
    clear hi
    go_enter Try.func23, Try.ntmps23
    go_wp2_with (go_at_call 26; refine (last_any _ _ _ _ _ _ _ H.out).mono ?_; rintro e w1 ⟨rfl, hq⟩)
    go_ret2
    exact ⟨rfl, hq⟩
set_option maxHeartbeats 1000000 in
theorem term_base (w : World) (base g : Nat) (idx trm : Int) (es : List Ent) (v : Value) (h : LogAt w base g idx trm es v) :
    Calls Try.prog 23 #[.pointer (some ⟨g, 0, none⟩), .int .i64 idx] w fun e w' => e = .returned (.tuple #[.int .i64 trm, .bool true]) ∧ Qt w w' := by
  have H := Lib.hid h
  have c0 := h.blk.cell 0
  simp at c0
  clear h
  go_enter Try.func23, Try.ntmps23
  go_wp2_with (go_at_call 26; refine (last_any _ _ _ _ _ _ _ H.out).mono ?_; rintro e w1 ⟨rfl, n, rfl⟩; have c0 := (H.out.drewN n).blk.cell 0; have c1 := (H.out.drewN n).blk.cell 1; simp at c0 c1)
  go_ret2
  exact ⟨rfl, Qt.drewN _ _⟩
set_option maxHeartbeats 1000000 in
theorem term_at (w : World) (base g : Nat) (idx trm : Int) (es : List Ent) (v : Value) (k : Nat) (e : Ent) (h : LogAt w base g idx trm es v) (hk : es[k]? = some e) :
    Calls Try.prog 23 #[.pointer (some ⟨g, 0, none⟩), .int .i64 (idx + k + 1)] w fun e' w' => e' = .returned (.tuple #[.int .i64 e.term, .bool true]) ∧ Qt w w' := by
  have H := Lib.hid h
  have c0 := h.blk.cell 0
  have hl := (List.getElem?_eq_some_iff.1 hk).1
  have hi0 := h.i0
  have hi1 := h.i1
  have hn1 := h.n1
  obtain ⟨r, c, rfl, _, _⟩ := h.own.form (by omega)
  have hcell := h.own.cellAt (k * 5 + 1) (by omega)
  rw [flatE_at es k e hk 1 (.int .i64 e.term) rfl] at hcell
  have HC := Lib.hid hcell
  simp at c0
  clear h hk hcell
  go_enter Try.func23, Try.ntmps23
  go_wp2_with (go_at_call 26; refine (last_any _ _ _ _ _ _ _ H.out).mono ?_; rintro e w1 ⟨rfl, n, rfl⟩; have c0 := (H.out.drewN n).blk.cell 0; have c2 := (H.out.drewN n).blk.cell 2; simp at c0 c2)
  have e1 : IntKind.i64.wrap (idx + k + 1 - idx) = (k : Int) + 1 := by rw [show idx + k + 1 - idx = (k : Int) + 1 by omega]; exact IntWalk.i64_in _ (by omega)
  have e2 : IntKind.i64.wrap (k : Int) = (k : Int) := IntWalk.i64_in _ (by omega)
  have hki : (k : Int) < (es.length : Int) := by omega
  have hcc := HC.out
  go_quiet (fail)
  go_wp2
  go_ret2
  exact ⟨rfl, (Qt.drewN w n).trans (Qt.drewN _ _)⟩

/-- Term, at every index. -/
theorem term_any (w : World) (base g : Nat) (idx trm : Int) (es : List Ent) (v : Value) (i : Int) (h : LogAt w base g idx trm es v) :
    Calls Try.prog 23 #[.pointer (some ⟨g, 0, none⟩), .int .i64 i] w fun e' w' => e' = .returned (.tuple #[.int .i64 ((termE idx trm es i).getD 0), .bool (termE idx trm es i).isSome]) ∧ Qt w w' := by
  by_cases h1 : i < idx ∨ idx + es.length < i
  · have : termE idx trm es i = none := by unfold termE; rw [if_pos h1]
    rw [this]
    exact term_no w base g idx trm es v i h h1
  · by_cases h2 : i = idx
    · subst h2
      rw [termE_base]
      exact term_base w base g i trm es v h
    · obtain ⟨k, hk⟩ : ∃ k : Nat, i = idx + k + 1 := ⟨(i - idx - 1).toNat, by omega⟩
      have hkl : k < es.length := by omega
      have : termE idx trm es i = some es[k].term := by
        unfold termE
        rw [if_neg h1, if_neg h2, show (i - idx - 1).toNat = k by omega, List.getElem?_eq_getElem hkl]; rfl
      rw [this, hk]
      exact term_at w base g idx trm es v k es[k] h (List.getElem?_eq_getElem hkl)

/-- The last term. -/
def lastT (trm : Int) (es : List Ent) : Int := ((es.getLast?).map (·.term)).getD trm
theorem termE_last (idx trm : Int) (es : List Ent) (_h : 0 ≤ idx) : termE idx trm es (idx + es.length) = some (lastT trm es) := by
  unfold termE lastT
  rw [if_neg (by omega)]
  cases hl : es.getLast? with
  | none =>
    have : es = [] := by simpa using hl
    subst this; simp
  | some e =>
    have hne : es ≠ [] := by intro h; rw [h] at hl; simp at hl
    have hp : 0 < es.length := List.length_pos_iff.2 hne
    rw [if_neg (by omega), show (idx + (es.length : Int) - idx - 1).toNat = es.length - 1 by omega, ← List.getLast?_eq_getElem?, hl]; rfl

theorem lastterm_any (w : World) (base g : Nat) (idx trm : Int) (es : List Ent) (v : Value) (h : LogAt w base g idx trm es v) :
    Calls Try.prog 27 #[.pointer (some ⟨g, 0, none⟩)] w fun e' w' => e' = .returned (.int .i64 (lastT trm es)) ∧ Qt w w' := by
  have H := Lib.hid h
  have E := Lib.hid (termE_last idx trm es h.i0)
  clear h
  go_enter Try.func27, Try.ntmps27
  go_wp2_with (first
    | (go_at_call 26; refine (last_any _ _ _ _ _ _ _ H.out).mono ?_; rintro e w1 ⟨rfl, q1⟩)
    | (go_at_call 23; refine (term_any _ _ _ _ _ _ _ _ (H.out.qt q1)).mono ?_; rw [E.out]; rintro e w2 ⟨rfl, q2⟩))
  go_ret
  exact ⟨rfl, q1.trans q2⟩

/-- Is a log of this last index and term as new as one? -/
def newerB (idx trm : Int) (es : List Ent) (i t : Int) : Bool := decide (lastT trm es < t) || (t == lastT trm es && decide (idx + es.length ≤ i))
set_option maxHeartbeats 1000000 in
theorem newer_any (w : World) (base g : Nat) (idx trm : Int) (es : List Ent) (v : Value) (i t : Int) (h : LogAt w base g idx trm es v) :
    Calls Try.prog 32 #[.pointer (some ⟨g, 0, none⟩), .int .i64 i, .int .i64 t] w fun e' w' => e' = .returned (.bool (newerB idx trm es i t)) ∧ Qt w w' := by
  have H := Lib.hid h
  clear h
  obtain ⟨r, hr⟩ : ∃ r, r = newerB idx trm es i t := ⟨_, rfl⟩
  rw [← hr]
  unfold newerB at hr
  obtain ⟨l, hl⟩ : ∃ l, l = lastT trm es := ⟨_, rfl⟩
  rw [← hl] at hr
  have hlt : ∀ w, LogAt w base g idx trm es v → Calls Try.prog 27 #[.pointer (some ⟨g, 0, none⟩)] w fun e' w' => e' = .returned (.int .i64 l) ∧ Qt w w' := by
    rw [hl]; exact fun w h => lastterm_any w base g idx trm es v h
  have HL := Lib.hid hlt
  clear hl hlt
  by_cases h1 : l < t
  · have HR : Hid (r = true) := by unfold Hid; rw [hr]; simp [h1]
    clear hr
    go_enter Try.func32, Try.ntmps32
    go_wp2_with (go_at_call 27; refine (HL.out _ H.out).mono ?_; rintro e w1 ⟨rfl, q1⟩)
    go_ret
    exact ⟨ret_bool HR.out.symm, q1⟩
  · by_cases h2 : t = l
    · have h2' : (t == l) = true := by simpa using h2
      have HR : Hid (r = decide (idx + es.length ≤ i)) := by unfold Hid; rw [hr]; simp [h2]
      clear hr h2
      go_enter Try.func32, Try.ntmps32
      go_wp2_with fail
      refine (HL.out _ H.out).mono ?_; rintro e w1 ⟨rfl, q1⟩
      go_wp2_with fail
      refine (HL.out _ (H.out.qt q1)).mono ?_; rintro e w2 ⟨rfl, q2⟩
      go_wp2_with fail
      refine (last_any _ _ _ _ _ _ _ ((H.out.qt q1).qt q2)).mono ?_; rintro e w3 ⟨rfl, q3⟩
      go_wp2_with fail
      go_ret
      exact ⟨ret_bool (by rw [HR.out, show decide (l < t) = false by simp; omega]; rfl), (q1.trans q2).trans q3⟩
    · have h2' : (t == l) = false := by simpa using h2
      have HR : Hid (r = false) := by unfold Hid; rw [hr]; simp [h1, h2]
      clear hr h2
      go_enter Try.func32, Try.ntmps32
      go_wp2_with fail
      refine (HL.out _ H.out).mono ?_; rintro e w1 ⟨rfl, q1⟩
      go_wp2_with fail
      refine (HL.out _ (H.out.qt q1)).mono ?_; rintro e w2 ⟨rfl, q2⟩
      go_wp2_with fail
      go_ret
      exact ⟨ret_bool (by rw [HR.out]; simp; omega), q1.trans q2⟩
end Go.Proofs.Ytdhohaeopfgbmaa

/-
  The log in memory: what Append does with entries that follow one another and have no commands. Conditions: those of the log; the entries lie apart from it.
-/
namespace Go.Proofs.Ytdhohaeopfgbmaa
open Go Go.RowKit
attribute [local go_sem] cell_set_if

set_option maxRecDepth 100000 in
theorem clonenil_any (w : World) : Calls Try.prog 81 #[.slice none 0 0] w fun e w' => e = .returned (.slice none 0 0) ∧ w' = w := by
  go_enter Try.func81, Try.ntmps81
  have h1 := Lib.run_eql_slice_nil_nil (P := Try.prog) w 0 0 Try.underlying49
  go_wp2
  go_ret
  exact ⟨rfl, rfl⟩

/-- An entry without commands, as a value. -/
abbrev entV (i t c s : Int) : Value := .agg #[.int .i64 i, .int .i64 t, .int .i64 c, .int .i64 s, .slice none 0 0]

set_option maxRecDepth 100000 in
theorem copied_any (i t c s : Int) (w : World) : Calls Try.prog 38 #[entV i t c s] w fun e w' => e = .returned (entV i t c s) ∧ Below w.heap.size w w' := by
  go_enter Try.func38, Try.ntmps38
  go_wp2_with (go_at_call 81; refine (clonenil_any _).mono ?_; rintro e w1 ⟨rfl, rfl⟩)
  refine bodyPost_ret (v := entV i t c s) (by simp only [results, show Try.f38.results = #[.cell 2 53] from rfl]; go_simp) rfl ⟨rfl, ?_⟩
  exact ((Below.refl _ _).alloc (Nat.le_refl _) _).alloc (by simp) _

/-- Entries that follow an index and a term: the k-th's index is last + k + 1; tm: the term behind k of them. -/
structure Rises (last : Int) (tm : Nat → Int) (news : List Ent) : Prop where
  idx : ∀ (k : Nat) e, news[k]? = some e → e.index = last + k + 1
  up : ∀ (k : Nat) e, news[k]? = some e → tm k ≤ e.term
  tm : ∀ (k : Nat) e, news[k]? = some e → tm (k + 1) = e.term
  nil : ∀ (k : Nat) e, news[k]? = some e → e.cmds = .slice none 0 0

theorem entInfo : (Try.prog.info? 53).map (fun i => (i.zero, i.size, i.bytes)) = some (some (entV 0 0 0 0), 5, 56) := by kernel_rfl

/-- The blocks of a log (or of any object with one slice of its own). -/
def mine (g : Nat) (v : Value) : Nat → Prop := fun k => k = g ∨ v.ownBlock = some k
/-- What a log's own calls turn: its own blocks; its slice is the old one or a new one. -/
structure Turn (g : Nat) (v : Value) (w : World) (v' : Value) (w' : World) : Prop where
  frm : Frm (mine g v) w w'
  own : ∀ k, v'.ownBlock = some k → v.ownBlock = some k ∨ w.heap.size ≤ k
theorem Turn.refl (g : Nat) (v : Value) (w : World) : Turn g v w v w := ⟨Frm.refl _ _, fun _ h => .inl h⟩
theorem Turn.ofmine {g : Nat} {v v' : Value} {w w' : World} (h : Turn g v w v' w') (k : Nat) (hk : mine g v' k) : mine g v k ∨ w.heap.size ≤ k := by
  rcases hk with rfl | hk
  · exact .inl (.inl rfl)
  · rcases h.own k hk with h1 | h1
    · exact .inl (.inr h1)
    · exact .inr h1
theorem Turn.trans {g : Nat} {v v' v'' : Value} {a b c : World} (h : Turn g v a v' b) (k : Turn g v' b v'' c) : Turn g v a v'' c :=
  ⟨h.frm.trans k.frm fun i hi hm => by rcases h.ofmine i hm with h1 | h1; exact h1; omega, fun i hi => by
    rcases k.own i hi with h1 | h1
    · exact h.own i h1
    · exact .inr (Nat.le_trans h.frm.size h1)⟩
theorem Turn.step {g : Nat} {v v' : Value} {a b c : World} (h : Turn g v a v' b) (k : Below b.heap.size b c) : Turn g v a v' c := ⟨h.frm.step k, h.own⟩

set_option maxRecDepth 100000 in
set_option maxHeartbeats 2000000 in
theorem append_turn (w : World) (base g : Nat) (idx trm : Int) (es : List Ent) (v : Value) (h : LogAt w base g idx trm es v) (b o n c : Nat) (news : List Ent) (tm : Nat → Int)
    (hr : ∀ j x, (flatE news)[j]? = some x → w.cell? ⟨b, o + j, none⟩ = some x) (hn : news.length = n) (hri : Rises (idx + es.length) tm news) (h0 : tm 0 = lastT trm es) (hb : b < w.heap.size) (hbg : b ≠ g) (hbv : v.ownBlock ≠ some b) (hlen : es.length + n ≤ 1000000) :
    Calls Try.prog 12 #[.pointer (some ⟨g, 0, none⟩), .slice (some ⟨b, o, none⟩) n c] w fun e w' => e = .returned (.int .i64 0) ∧ ∃ v', LogAt w' base g idx trm (es ++ news) v' ∧ Below base w w' ∧ Turn g v w v' w' := by
  have H := Lib.hid h
  have HR := Lib.hid hr
  have HRI := Lib.hid hri
  have HN := Lib.hid hn
  have H0 := Lib.hid h0
  clear h0
  have i0 := h.i0
  have i1 := h.i1
  have n1 := h.n1
  clear h hr hri hn
  go_enter Try.func12, Try.ntmps12
  go_wp2_with (first
    | (go_at_call 26; refine (last_any _ _ _ _ _ _ _ H.out).mono ?_; rintro e w1 ⟨rfl, q1⟩)
    | (go_at_call 27; refine (lastterm_any _ _ _ _ _ _ _ (H.out.qt q1)).mono ?_; rintro e w2 ⟨rfl, q2⟩))
  have B2 : Below w.heap.size w w2 := (q1.trans q2).below _
  go_loopw [4, 5, 6, 8, 19] (fun u4 u5 u6 u8 u19 wr => ∃ k : Nat, k ≤ n ∧ u19 = .int .i64 k ∧ u5 = .int .i64 (idx + es.length + k) ∧ u6 = .int .i64 (tm k) ∧ Below w.heap.size w wr) (fun _ _ _ _ u19 _ => n - (intOf u19).toNat)
  case atStart => exact ⟨0, by omega, rfl, by go_num, by rw [H0.out], B2⟩
  case round =>
    obtain ⟨k, hk, rfl, rfl, rfl, hB⟩ := hrel
    by_cases hlt : k < n
    · obtain ⟨e, he⟩ : ∃ e, news[k]? = some e := ⟨news[k]'(by have := HN.out; omega), List.getElem?_eq_getElem _⟩
      have e1 := HRI.out.idx k e he
      have e2 := HRI.out.up k e he
      have e3 := HRI.out.tm k e he
      have hc : ∀ j x, e.cells[j]? = some x → wr.cell? ⟨b, o + (k * 5 + j), none⟩ = some x := fun j x hj => by
        rw [(below_cells hB).1 b _ hb]; exact HR.out _ x (flatE_at news k e he j x hj)
      have d0 : wr.cell? ⟨b, o + k * 5, none⟩ = some (.int .i64 e.index) := by have := hc 0 _ rfl; simpa using this
      have d1 : wr.cell? ⟨b, o + k * 5 + 1, none⟩ = some (.int .i64 e.term) := by have := hc 1 _ rfl; rwa [← Nat.add_assoc] at this
      have d2 : wr.cell? ⟨b, o + k * 5 + 2, none⟩ = some (.int .i64 e.client) := by have := hc 2 _ rfl; rwa [← Nat.add_assoc] at this
      have d3 : wr.cell? ⟨b, o + k * 5 + 3, none⟩ = some (.int .i64 e.seq) := by have := hc 3 _ rfl; rwa [← Nat.add_assoc] at this
      have d4 : wr.cell? ⟨b, o + k * 5 + 4, none⟩ = some (.slice none 0 0) := by have := hc 4 _ rfl; rw [← Nat.add_assoc, HRI.out.nil k e he] at this; exact this
      rw [e1] at d0
      clear e1
      have e4 : IntKind.i64.wrap (idx + es.length + k + 1 - 1) = idx + es.length + k := by rw [show idx + (es.length : Int) + k + 1 - 1 = idx + es.length + k by omega]; exact IntWalk.i64_in _ (by omega)
      clear hc
      go_wp2
      go_quiet (fail)
      go_wp2
      go_roundw
      case rel => exact ⟨k + 1, by omega, by go_num, int_eq (by omega), by rw [e3], below_drewN (hB.alloc hB.size _) _⟩
      case measure => simp [intOf]; omega
    · obtain ⟨n', hn'⟩ : ∃ n', n' = n := ⟨_, rfl⟩
      obtain rfl : k = n := by omega
      have hkn : n' = k := hn'
      subst hkn
      go_wp2
      go_loopw [10, 47] (fun u10 u47 ws => ∃ (k : Nat) (vk : Value), k ≤ n' ∧ u47 = .int .i64 k ∧ LogAt ws base g idx trm (es ++ news.take k) vk ∧ Below base w ws ∧ b < ws.heap.size ∧ vk.ownBlock ≠ some b ∧ Turn g v w vk ws ∧ (∀ j x, (flatE news)[j]? = some x → ws.cell? ⟨b, o + j, none⟩ = some x)) (fun _ u47 _ => n' - (intOf u47).toNat)
      case atStart =>
        refine ⟨0, v, by omega, rfl, ?_, hB.mono (by have := H.out.low; have := H.out.blk.lt; omega), Nat.lt_of_lt_of_le hb hB.size, hbv, (Turn.refl _ _ _).step hB, fun j x hx => ?_⟩
        · have := H.out.below hB
          simpa using this
        · rw [(below_cells hB).1 b _ hb]; exact HR.out j x hx
      case round =>
        obtain ⟨k2, vk, hk2, rfl, hLog, hBB, hbb, hbv2, hT, hcell⟩ := hrel
        by_cases hlt2 : k2 < n'
        · obtain ⟨e, he⟩ : ∃ e, news[k2]? = some e := ⟨news[k2]'(by have := HN.out; omega), List.getElem?_eq_getElem _⟩
          have hc : ∀ j x, e.cells[j]? = some x → wr.cell? ⟨b, o + (k2 * 5 + j), none⟩ = some x := fun j x hj => hcell _ x (flatE_at news k2 e he j x hj)
          have d0 : wr.cell? ⟨b, o + k2 * 5, none⟩ = some (.int .i64 e.index) := by have := hc 0 _ rfl; simpa using this
          have d1 : wr.cell? ⟨b, o + k2 * 5 + 1, none⟩ = some (.int .i64 e.term) := by have := hc 1 _ rfl; rwa [← Nat.add_assoc] at this
          have d2 : wr.cell? ⟨b, o + k2 * 5 + 2, none⟩ = some (.int .i64 e.client) := by have := hc 2 _ rfl; rwa [← Nat.add_assoc] at this
          have d3 : wr.cell? ⟨b, o + k2 * 5 + 3, none⟩ = some (.int .i64 e.seq) := by have := hc 3 _ rfl; rwa [← Nat.add_assoc] at this
          have hen := HRI.out.nil k2 e he
          have d4 : wr.cell? ⟨b, o + k2 * 5 + 4, none⟩ = some (.slice none 0 0) := by have := hc 4 _ rfl; rw [← Nat.add_assoc, hen] at this; exact this
          clear hc
          have hlk : (es ++ news.take k2).length = es.length + k2 := by rw [List.length_append, List.length_take]; have := HN.out; omega
          have L0 : LogAt (wr.alloc (.cells #[.int .i64 e.index, .int .i64 e.term, .int .i64 e.client, .int .i64 e.seq, .slice none 0 0] 53)).drew base g idx trm (es ++ news.take k2) vk := hLog.below (((Below.refl _ _).alloc (Nat.le_refl _) _).drew)
          have l0 : (wr.alloc (.cells #[.int .i64 e.index, .int .i64 e.term, .int .i64 e.client, .int .i64 e.seq, .slice none 0 0] 53)).drew.cell? ⟨g, 2, none⟩ = some vk := by rw [L0.blk.cell 2]; rfl
          have HL := Lib.hid hLog
          have HCELL := Lib.hid hcell
          have HBV := Lib.hid hbv2
          obtain ⟨i0', hi0, hz0, hz1, hz2⟩ := info_parts entInfo
          clear hLog hcell
          go_wp2
          go_region_law (first
            | (go_simp; go_at_call 38; refine (copied_any _ _ _ _ _).mono ?_; rintro e' w3 ⟨rfl, b3⟩
               have L3 := L0.below b3
               have l3 : w3.cell? ⟨g, 2, none⟩ = some vk := by rw [L3.blk.cell 2]; rfl
               have L4 := L3.below ((Below.refl w3.heap.size w3).alloc (Nat.le_refl _) (.cells #[.int .i64 e.index, .int .i64 e.term, .int .i64 e.client, .int .i64 e.seq, .slice none 0 0] 53))
               have l4 : (w3.alloc (.cells #[.int .i64 e.index, .int .i64 e.term, .int .i64 e.client, .int .i64 e.seq, .slice none 0 0] 53)).cell? ⟨g, 2, none⟩ = some vk := by rw [L4.blk.cell 2]; rfl)
            | (refine step_app rfl (.tmp 55) (.tmp 58) 41 rfl base 53 i0' _ 5 56 Try.underlying41 hi0 hz0 hz1 hz2 rfl (by omega) vk (es.length + k2) _ rfl (by have := L4.own; rw [hlk] at this; exact this) _ 1 1 [.int .i64 e.index, .int .i64 e.term, .int .i64 e.client, .int .i64 e.seq, .slice none 0 0] rfl (by simpa using Rd.new w3 #[.int .i64 e.index, .int .i64 e.term, .int .i64 e.client, .int .i64 e.seq, .slice none 0 0] 53) rfl (by simp [Value.oneCell']) (by unfold maxLen; omega) (by omega) (by have := L4.low; have := L4.blk.lt; omega) ?_
               intro v1 w5 hown1 hg1 hb1 hat1
               obtain ⟨A1, cp1, rfl, hcp1⟩ := own_form hown1
               have hne : vk.ownBlock ≠ some g := Blk.own_ne L4.blk L4.own (by decide)
               have G5 := L4.blk.grown hg1 hne
               have f5 := G5.free 2
               have g5 := G5.cell 2))
          all_goals
            go_wp2
            go_roundw
            case rel =>
              have hcell2 : Rd wr (some ⟨b, o, none⟩) (flatE news) := Rd.row HCELL.out
              have hB3 : Below base w w3 := below_of b3 ((hBB.alloc (by have := HL.out.low; have := HL.out.blk.lt; omega) _).drew) (by have := HL.out.low; have := HL.out.blk.lt; simp; omega)
              have hs3 : wr.heap.size < w3.heap.size := by have := b3.size; simp at this; omega
              have hR3 : Rd w3 (some ⟨b, o, none⟩) (flatE news) := ((hcell2.alloc _).drew).below b3
              have hR4 := hR3.alloc (.cells #[.int .i64 e.index, .int .i64 e.term, .int .i64 e.client, .int .i64 e.seq, .slice none 0 0] 53)
              have hR5 := hR4.frm (S := fun k => vk.ownBlock = some k) ((Frm.refl _ _).grown hg1 fun k hk _ => hk) (fun ad had => by injection had with had; subst had; exact HBV.out)
              refine ⟨k2 + 1, _, by omega, by go_num, ⟨G5.set_ 2 _, L4.low, ?_, i0, i1, by rw [List.length_append, List.length_take]; omega⟩, ?_, ?_, ?_, ?_, ?_⟩
              · have ht : news.take (k2 + 1) = news.take k2 ++ [e] := by rw [List.take_add_one, he]; rfl
                have hf : flatE (es ++ news.take (k2 + 1)) = flatE (es ++ news.take k2) ++ [.int .i64 e.index, .int .i64 e.term, .int .i64 e.client, .int .i64 e.seq, .slice none 0 0] := by
                  rw [ht, ← List.append_assoc]
                  simp [flatE, Ent.cells, hen]
                have hl : (es ++ news.take (k2 + 1)).length = es.length + k2 + 1 := by rw [ht, ← List.append_assoc, List.length_append, hlk]; rfl
                rw [hf, hl]
                exact own_set G5 hown1 (by decide) _
              · exact (((hB3.alloc (by have := hB3.size; have := HL.out.low; have := HL.out.blk.lt; omega) _).trans hb1).setCell L4.low _)
              · have := hb1.size; have := G5.lt; simp at *; omega
              · rcases hat1 with h | h
                · rw [h]; exact HBV.out
                · rw [h]; intro hh; injection hh with hh; simp at hh; omega
              · have hT3 : Turn g v w vk w3 := by
                  refine ⟨?_, hT.own⟩
                  exact ((hT.frm.alloc _).drew).step b3
                have hT4 := hT3.step ((Below.refl w3.heap.size w3).alloc (Nat.le_refl _) (.cells #[.int .i64 e.index, .int .i64 e.term, .int .i64 e.client, .int .i64 e.seq, .slice none 0 0] 53))
                refine hT4.trans ⟨((Frm.refl _ _).grown hg1 fun k hk _ => .inr hk).setCell (fun _ => .inl rfl) _, fun k hk => ?_⟩
                rcases hat1 with h | h
                · left; rw [← h]; exact hk
                · right; rw [h] at hk; injection hk with hk; omega
              · intro j x hx
                obtain ⟨ad, had, hc5⟩ := hR5 j x hx
                injection had with had; subst had
                rw [add_flat] at hc5
                rw [cell_set_if, if_neg (by omega)]; exact hc5
            case measure => simp [intOf]; omega
        · obtain rfl : k2 = n' := by omega
          go_wp2
          go_ret
          refine ⟨rfl, vk, ?_, hBB, hT⟩
          have e : news.take k2 = news := List.take_of_length_le (by have := HN.out; omega)
          rw [← e]; exact hLog
set_option maxRecDepth 100000 in
theorem append_any (w : World) (base g : Nat) (idx trm : Int) (es : List Ent) (v : Value) (h : LogAt w base g idx trm es v) (b o n c : Nat) (news : List Ent) (tm : Nat → Int)
    (hr : ∀ j x, (flatE news)[j]? = some x → w.cell? ⟨b, o + j, none⟩ = some x) (hn : news.length = n) (hri : Rises (idx + es.length) tm news) (h0 : tm 0 = lastT trm es) (hb : b < w.heap.size) (hbg : b ≠ g) (hbv : v.ownBlock ≠ some b) (hlen : es.length + n ≤ 1000000) :
    Calls Try.prog 12 #[.pointer (some ⟨g, 0, none⟩), .slice (some ⟨b, o, none⟩) n c] w fun e w' => e = .returned (.int .i64 0) ∧ ∃ v', LogAt w' base g idx trm (es ++ news) v' ∧ Below base w w' :=
  (append_turn w base g idx trm es v h b o n c news tm hr hn hri h0 hb hbg hbv hlen).mono fun _ _ ⟨h1, v', h2, h3, _⟩ => ⟨h1, v', h2, h3⟩
end Go.Proofs.Ytdhohaeopfgbmaa

/-
  The log in memory: First, Back; the first call of hist's laws. Conditions: those of the log.
-/
namespace Go.Proofs.Ytdhohaeopfgbmaa
open Go Go.RowKit
attribute [local go_sem] cell_set_if

theorem histfirst_any (w : World) (base g : Nat) (idx trm : Int) (es : List Ent) (v : Value) (h : LogAt w base g idx trm es v) :
    Calls Try.prog 25 #[.pointer (some ⟨g, 0, none⟩)] w fun e w' => e = .returned (.int .i64 (idx + 1)) ∧ Qt w w' := by
  have c0 := h.blk.cell 0
  have h0 := h.i0
  have h1 := h.i1
  have hm : max (idx + 1) idx = idx + 1 := by omega
  have hw : IntKind.i64.wrap (idx + 1) = idx + 1 := IntWalk.i64_in _ (by omega)
  simp at c0
  clear h
  go_enter Try.func25, Try.ntmps25
  go_wp2
  go_quiet (fail)
  go_wp2
  go_ret
  exact ⟨rfl, Qt.drewN _ _⟩

/-- The greatest place up to n whose term is at most t. -/
def backE (f : Int → Int) (idx t : Int) : Nat → Int
  | 0 => idx
  | n + 1 => if f (idx + n + 1) ≤ t then idx + n + 1 else backE f idx t n
/-- Back. -/
def backV (idx trm : Int) (es : List Ent) (i t : Int) : Int := backE (fun j => (termE idx trm es j).getD 0) idx t (min i (idx + es.length) - idx).toNat

set_option maxRecDepth 100000 in
set_option maxHeartbeats 1000000 in
theorem back_any (w : World) (base g : Nat) (idx trm : Int) (es : List Ent) (v : Value) (i t : Int) (h : LogAt w base g idx trm es v) :
    Calls Try.prog 30 #[.pointer (some ⟨g, 0, none⟩), .int .i64 i, .int .i64 t] w fun e w' => e = .returned (.int .i64 (backV idx trm es i t)) ∧ Qt w w' := by
  have H := Lib.hid h
  have h0 := h.i0
  have h1 := h.i1
  have h2 := h.n1
  clear h
  obtain ⟨r, hr⟩ : ∃ r, r = backV idx trm es i t := ⟨_, rfl⟩
  rw [← hr]
  unfold backV at hr
  obtain ⟨m, hm⟩ : ∃ m, m = min i (idx + (es.length : Int)) := ⟨_, rfl⟩
  rw [← hm] at hr
  have HR := Lib.hid hr
  have HM := Lib.hid hm
  have hmm : min i (idx + (es.length : Int)) = m := hm.symm
  have hmle : m ≤ idx + es.length := by omega
  clear hr hm
  have hcs : i < idx + es.length ∨ i = idx + es.length ∨ idx + es.length < i := by omega
  rcases hcs with hcs | rfl | hcs
  all_goals
    go_enter Try.func30, Try.ntmps30
    go_wp2_with (go_at_call 26; refine (last_any _ _ _ _ _ _ _ H.out).mono ?_; rintro e w1 ⟨rfl, q1⟩)
    go_loopw [6, 7, 8, 9] (fun u6 u7 u8 u9 wr => ∃ k : Int, u7 = .int .i64 k ∧ k ≤ m ∧ (k ≤ idx → k = m ∨ k = idx) ∧ r = backE (fun j => (termE idx trm es j).getD 0) idx t (k - idx).toNat ∧ Qt w wr) (fun _ u7 _ _ _ => (intOf u7 - idx).toNat)
    case atStart => exact ⟨m, int_eq (by omega), by omega, fun _ => .inl rfl, HR.out, q1⟩
    case round =>
      obtain ⟨k, rfl, hk, hk2, hb, hq⟩ := hrel
      have L := H.out.qt hq
      have c0 := L.blk.cell 0
      simp at c0
      by_cases hlt : idx < k
      · obtain ⟨n, hn⟩ : ∃ n : Nat, k = idx + n + 1 := ⟨(k - idx - 1).toNat, by omega⟩
        have hst : r = if (termE idx trm es k).getD 0 ≤ t then k else backE (fun j => (termE idx trm es j).getD 0) idx t (k - 1 - idx).toNat := by
          rw [hb, show (k - idx).toNat = n + 1 by omega, show (k - 1 - idx).toNat = n by omega, backE, ← hn]
        have HB := Lib.hid hst
        clear hst hb
        have hw : IntKind.i64.wrap (k - 1) = k - 1 := IntWalk.i64_in _ (by omega)
        obtain ⟨x, hx⟩ : ∃ x, (termE idx trm es k).getD 0 = x := ⟨_, rfl⟩
        have hT : Calls Try.prog 23 #[.pointer (some ⟨g, 0, none⟩), .int .i64 k] wr fun e w' => (∃ bb : Bool, e = .returned (.tuple #[.int .i64 x, .bool bb])) ∧ Qt wr w' := (term_any _ _ _ _ _ _ _ k L).mono fun e w' ⟨h1, h2⟩ => ⟨⟨(termE idx trm es k).isSome, by rw [h1, hx]⟩, h2⟩
        have HX := Lib.hid hx
        clear hx L hn
        by_cases hc : x ≤ t
        · go_wp2_with (go_at_call 23; refine hT.mono ?_; rintro e w2 ⟨⟨bb, rfl⟩, q2⟩)
          go_ret
          exact ⟨ret_int (by rw [HB.out, HX.out, if_pos (by omega)]), hq.trans q2⟩
        · have hc' : t < x := by omega
          go_wp2_with (go_at_call 23; refine hT.mono ?_; rintro e w2 ⟨⟨bb, rfl⟩, q2⟩)
          go_roundw
          case rel => exact ⟨k - 1, by go_num, by omega, fun h => .inr (by omega), by rw [HB.out, HX.out, if_neg (by omega)], hq.trans q2⟩
          case measure => simp [intOf]; omega
      · have hle : k ≤ idx := by omega
        have HB := Lib.hid hb
        clear hb
        go_wp2
        go_ret
        refine ⟨ret_int ?_, hq⟩
        rw [HB.out, show (k - idx).toNat = 0 by omega]; rfl

theorem alive_app (w : World) (base g : Nat) (L : LogAt w base g 5 2 [] (.slice none 0 0)) :
    Calls Try.prog 12 #[.pointer (some ⟨g, 0, none⟩), .slice (some ⟨w.heap.size, 0, none⟩) 2 2] (w.alloc (.cells #[.int .i64 6, .int .i64 2, .int .i64 0, .int .i64 0, .slice none 0 0, .int .i64 7, .int .i64 3, .int .i64 0, .int .i64 0, .slice none 0 0] 53))
      fun e w' => e = .returned (.int .i64 0) ∧ ∃ v', LogAt w' base g 5 2 [⟨6, 2, 0, 0, .slice none 0 0⟩, ⟨7, 3, 0, 0, .slice none 0 0⟩] v' ∧ Below base (w.alloc (.cells #[.int .i64 6, .int .i64 2, .int .i64 0, .int .i64 0, .slice none 0 0, .int .i64 7, .int .i64 3, .int .i64 0, .int .i64 0, .slice none 0 0] 53)) w' := by
  have L1 := L.below ((Below.refl _ _).alloc (Nat.le_refl _) (.cells #[.int .i64 6, .int .i64 2, .int .i64 0, .int .i64 0, .slice none 0 0, .int .i64 7, .int .i64 3, .int .i64 0, .int .i64 0, .slice none 0 0] 53))
  refine append_any _ base g 5 2 [] (.slice none 0 0) L1 w.heap.size 0 2 2 [⟨6, 2, 0, 0, .slice none 0 0⟩, ⟨7, 3, 0, 0, .slice none 0 0⟩] (fun k => if k ≤ 1 then 2 else 3) (fun j x hx => ?_) rfl ⟨fun k e he => ?_, fun k e he => ?_, fun k e he => ?_, fun k e he => ?_⟩ rfl (by simp) (by have := L.blk.lt; omega) (by simp [Value.ownBlock]) (by decide)
  · rw [Nat.zero_add, World.cell?_alloc_new]
    simpa [flatE, Ent.cells] using hx
  all_goals
    rcases k with _ | _ | k
    · simp at he; subst he; first | rfl | decide
    · simp at he; subst he; first | rfl | decide
    · simp at he

set_option maxRecDepth 100000 in
set_option maxHeartbeats 1000000 in
theorem alive23_any (w : World) :
    Calls Try.prog 5 #[] w fun e w' => e = .returned (.bool true) ∧ Below w.heap.size w w' := by
  have hN := new_any 5 2 w (by decide)
  have e5 : max (5 : Int) 0 = 5 := by decide
  have e2 : max (2 : Int) 0 = 2 := by decide
  rw [e5, e2] at hN
  have HN := Lib.hid hN
  clear hN e5 e2
  go_enter Try.func5, Try.ntmps5
  go_wp2_with (first
    | (go_at_call 6; refine HN.out.mono ?_; rintro e w1 ⟨rfl, L1, b1⟩)
    | (go_at_call 12; refine (alive_app _ _ _ L1).mono ?_; rintro e w2 ⟨rfl, v2, L2, b2⟩; have B2 := below_of b2 (b1.alloc b1.size _) (Nat.le_refl _); have H2 := Lib.hid L2; clear L2)
    | (go_at_call 23; refine (term_any _ _ _ _ _ _ _ 7 H2.out).mono ?_; rintro e w3 ⟨rfl, q3⟩; have q3' : Qt w2 w3 := q3)
    | (go_at_call 25; refine (histfirst_any _ _ _ _ _ _ _ (H2.out.qt q3')).mono ?_; rintro e w4 ⟨rfl, q4⟩; have q4' : Qt w2 w4 := q3'.trans q4)
    | (go_at_call 26; refine (last_any _ _ _ _ _ _ _ (H2.out.qt q4')).mono ?_; rintro e w5 ⟨rfl, q5⟩; have q5' : Qt w2 w5 := q4'.trans q5)
    | (go_at_call 27; refine (lastterm_any _ _ _ _ _ _ _ (H2.out.qt q5')).mono ?_; rintro e w6 ⟨rfl, q6⟩; have q6' : Qt w2 w6 := q5'.trans q6)
    | (go_at_call 30; refine (back_any _ _ _ _ _ _ _ 9 2 (H2.out.qt q6')).mono ?_; rintro e w7 ⟨rfl, q7⟩; have q7' : Qt w2 w7 := q6'.trans q7)
    | (go_at_call 32; with_reducible refine (newer_any _ _ _ _ _ _ _ 7 3 (H2.out.qt q7')).mono ?_; rintro e w8 ⟨rfl, q8⟩; have q8' : Qt w2 w8 := q7'.trans q8)
    | (go_at_call 32; with_reducible refine (newer_any _ _ _ _ _ _ _ 6 3 (H2.out.qt q8')).mono ?_; rintro e w9 ⟨rfl, q9⟩; have q9' : Qt w2 w9 := q8'.trans q9))
  go_ret
  exact ⟨ret_bool (by rfl), below_of (q9'.below w2.heap.size) B2 B2.size⟩
end Go.Proofs.Ytdhohaeopfgbmaa
