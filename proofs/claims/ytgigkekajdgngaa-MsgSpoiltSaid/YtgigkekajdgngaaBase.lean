/-
  Words for memory and small lemmas that all walks of this claim use: a slice that reads as a list, blocks known whole, worlds that differ above a block number only. No condition of its own; over any program.
-/
import Derived.WalkKit
import Derived.WalkSpells
import Derived.WalkLawsBesides
import Derived.Lib.Hide
import Derived.Deep.Draws
import Derived.Laws.CopyOwn
import Derived.Deep.DeepCutAuto
import Derived.BigQuiet
import Derived.Deep.QuietTactic
import Derived.Deep.RegionHeld3
import Derived.Deep.AppendLies
import Derived.Maps.AppendAt
import Derived.RegionTactic
import Derived.Lib.SlBytesConst
import Derived.ShutString
import Derived.Deep.WholeRow
namespace Go.Proofs.Ytgigkekajdgngaa
open Go Go.RowKit

/-- The cells behind an address, as a list. -/
def Rd (w : World) (A : Option Addr) (xs : List Value) : Prop :=
  ∀ j x, xs[j]? = some x → ∃ ad, A = some ad ∧ w.cell? (ad.add j) = some x

theorem add_block (a : Addr) (n : Nat) : (a.add n).block = a.block := by unfold Addr.add; split <;> rfl
theorem add_add' (a : Addr) (i j : Nat) : (a.add i).add j = a.add (i + j) := by
  unfold Addr.add
  by_cases hi : i = 0 <;> by_cases hj : j = 0 <;> simp [hi, hj, Nat.add_assoc]
theorem add_flat (b i j : Nat) : (⟨b, i, none⟩ : Addr).add j = ⟨b, i + j, none⟩ := by
  unfold Addr.add; split <;> simp_all

section
variable {w w' : World} {A : Option Addr} {xs : List Value}
theorem Rd.nil (w : World) (A : Option Addr) : Rd w A [] := fun j x h => by simp at h
theorem Rd.at_ (h : Rd w A xs) {k : Nat} {x : Value} (hk : xs[k]? = some x) : ∃ ad, A = some ad ∧ w.cell? (ad.add k) = some x := h k x hk
theorem Rd.keep (h : Rd w A xs) (hk : ∀ p : Addr, p.block < w.heap.size → w'.cell? p = w.cell? p) : Rd w' A xs := fun j x hx => by
  obtain ⟨ad, e, hc⟩ := h j x hx
  exact ⟨ad, e, by rw [hk _ (block_lt_of_cell hc)]; exact hc⟩
theorem Rd.below (h : Rd w A xs) (hb : Below w.heap.size w w') : Rd w' A xs := h.keep fun _ hp => hb.cell hp
theorem Rd.alloc (h : Rd w A xs) (o : Obj) : Rd (w.alloc o) A xs := h.keep fun p hp => World.cell?_alloc_lt w o p hp
theorem Rd.drew (h : Rd w A xs) : Rd w.drew A xs := h
theorem Rd.drewN (h : Rd w A xs) (n : Nat) : Rd (w.drewN n) A xs := h
theorem Rd.row {b i : Nat} (h : ∀ j x, xs[j]? = some x → w.cell? ⟨b, i + j, none⟩ = some x) : Rd w (some ⟨b, i, none⟩) xs := fun j x hx =>
  ⟨_, rfl, by rw [add_flat]; exact h j x hx⟩
theorem Rd.new (w : World) (cs : Array Value) (t : TypeId) : Rd (w.alloc (.cells cs t)) (some ⟨w.heap.size, 0, none⟩) cs.toList := Rd.row fun j x hx => by
  rw [Nat.zero_add, World.cell?_alloc_new]; simpa using hx
theorem Rd.flat (h : Rd w A xs) (hne : 0 < xs.length) : ∃ b o, A = some ⟨b, o, none⟩ ∧ b < w.heap.size ∧ ∀ j x, xs[j]? = some x → w.cell? ⟨b, o + j, none⟩ = some x := by
  obtain ⟨⟨b, o, sp⟩, e, hc⟩ := h 0 _ (List.getElem?_eq_getElem hne)
  have h0 : (⟨b, o, sp⟩ : Addr).add 0 = ⟨b, o, sp⟩ := rfl
  rw [h0] at hc
  have hsp : sp = none := by
    unfold World.cell? at hc
    split at hc
    · cases sp with
      | none => rfl
      | some s => simp at hc
    · cases hc
  subst hsp
  refine ⟨b, o, e, block_lt_of_cell hc, fun j x hx => ?_⟩
  obtain ⟨ad, e', hc'⟩ := h j x hx
  rw [e] at e'; injection e' with e'; subst e'
  rw [add_flat] at hc'; exact hc'
theorem Rd.cut (h : Rd w A xs) {k cap : Nat} (hc : xs.length ≤ cap) (hk : k ≤ xs.length) : Rd w (if cap = k then A else A.map (·.add k)) (xs.drop k) := by
  intro j x hx
  rw [List.getElem?_drop] at hx
  obtain ⟨ad, rfl, hcell⟩ := h _ _ hx
  have hl := (List.getElem?_eq_some_iff.1 hx).1
  rw [if_neg (by omega)]
  exact ⟨_, rfl, by rw [add_add']; exact hcell⟩
theorem Rd.take (h : Rd w A xs) (k : Nat) : Rd w A (xs.take k) := fun j x hx => h j x (by
  rw [List.getElem?_take] at hx
  split at hx
  · exact hx
  · cases hx)
theorem Rd.set {g i p : Nat} {v : Value} (h : Rd w (some ⟨g, i, none⟩) xs) (hp : p < xs.length) : Rd (w.setCell ⟨g, i + p, none⟩ v) (some ⟨g, i, none⟩) (xs.set p v) := Rd.row fun j x hx => by
  obtain ⟨ad, e, hold⟩ := h p _ (List.getElem?_eq_getElem hp)
  injection e with e; subst e
  rw [add_flat] at hold
  by_cases hj : j = p
  · subst hj
    rw [List.getElem?_set_self hp] at hx
    rw [World.cell?_setCell_same _ _ _ hold]; exact hx
  · rw [List.getElem?_set_ne (fun e => hj e.symm)] at hx
    rw [World.cell?_setCell_other _ _ _ _ (by intro e; injection e with _ e2; omega)]
    obtain ⟨ad, e, hc⟩ := h j x hx
    injection e with e; subst e
    rw [add_flat] at hc; exact hc
theorem Rd.of_own {base : Nat} {e : TypeId} {size n c : Nat} (h : w.ownsRow base e size (.slice A n c) n xs) : Rd w A xs := fun j x hx => by
  have hl := (List.getElem?_eq_some_iff.1 hx).1
  have hn : 0 < n := by
    rcases Nat.eq_zero_or_pos n with h0 | h0
    · have := h.1; rw [h0, Nat.zero_mul] at this; omega
    · exact h0
  obtain ⟨g, cap, hv, _, hlt⟩ := h.form hn
  have hA : A = some ⟨g, 0, none⟩ := by injection hv
  subst hA
  exact ⟨_, rfl, h.cells (g := g) rfl j x hx⟩
end

theorem below_drewN {B : Nat} {a w : World} (h : Below B a w) (n : Nat) : Below B a (w.drewN n) := ⟨h.os, h.tape, h.output, h.size, h.block⟩
theorem below_setRow {B : Nat} {a w : World} (h : Below B a w) {g : Nat} (hg : B ≤ g) (cs : Array Value) : Below B a (w.setRow g cs) :=
  h.trans ⟨rfl, rfl, rfl, by simp, fun k hk => setRow_other w g k cs (by omega)⟩
theorem below_new {w w' : World} (o : Obj) (h : Below (w.heap.size + 1) (w.alloc o) w') : Below w.heap.size w w' :=
  ((Below.refl _ w).alloc (Nat.le_refl _) o).trans (h.mono (by omega))
theorem below_of {w x w' : World} {B n : Nat} (h : Below n x w') (hx : Below B w x) (hn : B ≤ n) : Below B w w' := hx.trans (h.mono hn)
theorem below_cells {w w' : World} {B : Nat} (hb : Below B w w') : (∀ b o, b < B → w'.cell? ⟨b, o, none⟩ = w.cell? ⟨b, o, none⟩) ∧ (∀ b o, b < B → w'.frozen? ⟨b, o, none⟩ = w.frozen? ⟨b, o, none⟩) :=
  ⟨fun b o h => hb.cell (p := ⟨b, o, none⟩) h, fun b o h => hb.frozen (p := ⟨b, o, none⟩) h⟩

/-- What was there has not turned, but for the blocks in S. -/
structure Frm (S : Nat → Prop) (w w' : World) : Prop where
  os : w'.os = w.os
  tape : w'.tape = w.tape
  output : w'.output = w.output
  size : w.heap.size ≤ w'.heap.size
  block : ∀ k, k < w.heap.size → ¬ S k → w'.heap[k]? = w.heap[k]?
/-- No block. -/
def no : Nat → Prop := fun _ => False
/-- One block. -/
def at1 (g : Nat) : Nat → Prop := fun k => k = g
section
variable {w w' a b c : World} {S T : Nat → Prop}
theorem Frm.refl (S : Nat → Prop) (w : World) : Frm S w w := ⟨rfl, rfl, rfl, Nat.le_refl _, fun _ _ _ => rfl⟩
theorem Frm.trans (h : Frm S a b) (k : Frm T b c) (hT : ∀ i, i < a.heap.size → T i → S i) : Frm S a c :=
  ⟨k.os.trans h.os, k.tape.trans h.tape, k.output.trans h.output, Nat.le_trans h.size k.size, fun i hi hs => (k.block i (Nat.lt_of_lt_of_le hi h.size) (fun t => hs (hT i hi t))).trans (h.block i hi hs)⟩
theorem Frm.then_ (h : Frm S a b) (k : Frm S b c) : Frm S a c := h.trans k fun _ _ h => h
theorem Frm.mono (h : Frm S a b) (hS : ∀ i, i < a.heap.size → S i → T i) : Frm T a b := ⟨h.os, h.tape, h.output, h.size, fun i hi hs => h.block i hi fun t => hs (hS i hi t)⟩
theorem Frm.of_below (h : Below a.heap.size a b) : Frm S a b := ⟨h.os, h.tape, h.output, h.size, fun i hi _ => h.block i hi⟩
theorem Frm.below {B : Nat} (h : Frm S a b) (hB : B ≤ a.heap.size) (hS : ∀ i, S i → B ≤ i) : Below B a b :=
  ⟨h.os, h.tape, h.output, h.size, fun i hi => h.block i (by omega) fun t => by have := hS i t; omega⟩
theorem Frm.quiet (h : Below a.heap.size a b) (k : Frm S b c) : Frm S a c := (Frm.of_below h).then_ k
theorem Frm.step (h : Frm S a b) (k : Below b.heap.size b c) : Frm S a c := h.then_ (Frm.of_below k)
theorem Frm.alloc (h : Frm S a b) (o : Obj) : Frm S a (b.alloc o) := h.step ((Below.refl _ _).alloc (Nat.le_refl _) o)
theorem Frm.drew (h : Frm S a b) : Frm S a b.drew := ⟨h.os, h.tape, h.output, h.size, h.block⟩
theorem Frm.drewN (h : Frm S a b) (n : Nat) : Frm S a (b.drewN n) := ⟨h.os, h.tape, h.output, h.size, h.block⟩
theorem Frm.setCell (h : Frm S a b) {p : Addr} (hp : p.block < a.heap.size → S p.block) (u : Value) : Frm S a (b.setCell p u) :=
  h.trans (T := at1 p.block) ⟨rfl, rfl, rfl, by simp [World.setCell], fun k _ hk => Below.heap_setCell _ _ _ _ hk⟩ fun i hi ht => by
    unfold at1 at ht; subst ht; exact hp hi
theorem Frm.setRow (h : Frm S a b) {g : Nat} (hp : g < a.heap.size → S g) (cs : Array Value) : Frm S a (b.setRow g cs) :=
  h.trans (T := at1 g) ⟨rfl, rfl, rfl, by simp, fun k _ hk => setRow_other _ _ _ _ hk⟩ fun i hi ht => by
    unfold at1 at ht; subst ht; exact hp hi
theorem Frm.grown (h : Frm S a b) {row : Option Nat} (hg : b.grownBy c row) (hr : ∀ k, row = some k → k < a.heap.size → S k) : Frm S a c :=
  h.trans (T := fun k => row = some k) ⟨hg.os, hg.tape, hg.output, hg.size, fun i hi hs => hg.block i hi fun e => hs e.symm⟩ fun i hi ht => hr i ht hi
theorem Frm.cell (h : Frm S a b) {p : Addr} (hp : p.block < a.heap.size) (hs : ¬ S p.block) : b.cell? p = a.cell? p := World.cell?_of_block (w := a) (h.block p.block hp hs)
theorem Frm.frozen (h : Frm S a b) {p : Addr} (hp : p.block < a.heap.size) (hs : ¬ S p.block) : b.frozen? p = a.frozen? p := World.frozen?_of_block (w := a) (h.block p.block hp hs)
theorem below_frm {B : Nat} (h : Below B a b) (k : Frm S b c) (hB : B ≤ a.heap.size) (hS : ∀ i, S i → B ≤ i) : Below B a c := below_of (k.below (Nat.le_trans hB h.size) hS) h (Nat.le_refl _)
theorem Rd.frm {A : Option Addr} {xs : List Value} (h : Rd w A xs) (k : Frm S w w') (hs : ∀ ad, A = some ad → ¬ S ad.block) : Rd w' A xs := fun j x hx => by
  obtain ⟨ad, e, hc⟩ := h j x hx
  have hb := block_lt_of_cell hc
  exact ⟨ad, e, by rw [k.cell hb (by rw [add_block]; exact hs ad e)]; exact hc⟩
theorem own_frm {base : Nat} {e : TypeId} {size n : Nat} {v : Value} {xs : List Value} (h : w.ownsRow base e size v n xs) (k : Frm S w w') (hs : ∀ g, v.ownBlock = some g → ¬ S g) : w'.ownsRow base e size v n xs := by
  refine ⟨h.1, ?_⟩
  rcases h.2 with h0 | ⟨g, cap, cur, rfl, hb, hh, r⟩
  · exact .inl h0
  · exact .inr ⟨g, cap, cur, rfl, hb, (k.block g (lt_of_block hh) (hs g rfl)).trans hh, r⟩
theorem own_base {base base' : Nat} {e : TypeId} {size n : Nat} {v : Value} {xs : List Value} (h : w.ownsRow base e size v n xs) (hb : base' ≤ base) : w.ownsRow base' e size v n xs := by
  refine ⟨h.1, ?_⟩
  rcases h.2 with h0 | ⟨g, cap, cur, rfl, hg, r⟩
  · exact .inl h0
  · exact .inr ⟨g, cap, cur, rfl, by omega, r⟩
end

theorem own_form {w : World} {base : Nat} {e : TypeId} {size n : Nat} {v : Value} {xs : List Value} (h : w.ownsRow base e size v n xs) : ∃ A c, v = .slice A n c ∧ n ≤ c := by
  rcases h.2 with ⟨rfl, rfl⟩ | ⟨g, cap, cur, rfl, _, _, h, _⟩
  · exact ⟨_, _, rfl, Nat.le_refl _⟩
  · exact ⟨_, _, rfl, h⟩

/-- A block known whole, none of its cells frozen. -/
def Blk (w : World) (g : Nat) (t : TypeId) (cs : Array Value) : Prop := w.heap[g]? = some (.cells cs t (0, 0))
section
variable {w w' : World} {g : Nat} {t : TypeId} {cs : Array Value} {S : Nat → Prop}
theorem Blk.lt (h : Blk w g t cs) : g < w.heap.size := lt_of_block h
theorem Blk.cell (h : Blk w g t cs) (i : Nat) : w.cell? ⟨g, i, none⟩ = cs[i]? := cell_of_row w g i cs t (0, 0) h
theorem Blk.free (h : Blk w g t cs) (i : Nat) : w.frozen? ⟨g, i, none⟩ = false := frozen_of_row w g i cs t h
theorem Blk.new (w : World) (t : TypeId) (cs : Array Value) : Blk (w.alloc (.cells cs t)) w.heap.size t cs := heap_alloc_new w _
theorem Blk.frm (h : Blk w g t cs) (k : Frm S w w') (hs : ¬ S g) : Blk w' g t cs := (k.block g h.lt hs).trans h
theorem Blk.below (h : Blk w g t cs) (k : Below w.heap.size w w') : Blk w' g t cs := (k.block g h.lt).trans h
theorem Blk.alloc (h : Blk w g t cs) (o : Obj) : Blk (w.alloc o) g t cs := (Below.heap_alloc w o g h.lt).trans h
theorem Blk.drew (h : Blk w g t cs) : Blk w.drew g t cs := h
theorem Blk.drewN (h : Blk w g t cs) (n : Nat) : Blk (w.drewN n) g t cs := h
theorem Blk.set_ (h : Blk w g t cs) (i : Nat) (u : Value) : Blk (w.setCell ⟨g, i, none⟩ u) g t (cs.setIfInBounds i u) := heap_setCell_same w g i cs t u h
theorem Blk.far (h : Blk w g t cs) {p : Addr} (hp : g ≠ p.block) (u : Value) : Blk (w.setCell p u) g t cs := (heap_setCell_other w p g u hp).trans h
theorem Blk.ne_ {g' : Nat} {t' : TypeId} {cs' : Array Value} (h : Blk w g t cs) (h' : Blk w g' t' cs') (hne : t ≠ t') : g ≠ g' := by
  rintro rfl
  unfold Blk at h h'
  rw [h] at h'
  injection h' with h'
  injection h' with _ ht
  exact hne ht
theorem Blk.own_ne {base : Nat} {e : TypeId} {size n : Nat} {v : Value} {xs : List Value} (h : Blk w g t cs) (ho : w.ownsRow base e size v n xs) (hne : e ≠ t) : v.ownBlock ≠ some g := by
  rcases ho.2 with ⟨rfl, _⟩ | ⟨g', cap, cur, rfl, _, hh, _⟩
  · simp [Value.ownBlock]
  · intro he
    have : g' = g := by simpa [Value.ownBlock] using he
    subst this
    exact Blk.ne_ (t := e) hh h hne rfl
end

/-- A cell behind a store, whatever the world. -/
theorem cell_set_if (w : World) (b i b' j : Nat) (v : Value) : (w.setCell ⟨b, i, none⟩ v).cell? ⟨b', j, none⟩ = if b = b' ∧ i = j then (w.cell? ⟨b, i, none⟩).map (fun _ => v) else w.cell? ⟨b', j, none⟩ := by
  by_cases h : b = b' ∧ i = j
  · obtain ⟨rfl, rfl⟩ := h
    rw [if_pos ⟨rfl, rfl⟩]
    cases hc : w.cell? ⟨b, i, none⟩ with
    | none =>
      simp only [World.cell?, World.setCell, Array.getElem?_modify, if_true] at hc ⊢
      cases hh : w.heap[b]? with
      | none => simp
      | some o =>
        cases o <;> simp [hh] at hc ⊢
        omega
    | some u => rw [World.cell?_setCell_same _ _ _ hc]; rfl
  · rw [if_neg h, World.cell?_setCell_other]
    intro e; injection e with e1 e2; exact h ⟨e1, e2⟩

/-- The bytes of a string. -/
def bts (s : ByteArray) : List UInt8 := s.data.toList
/-- A string of these bytes. -/
def bs (l : List UInt8) : ByteArray := ⟨l.toArray⟩
abbrev str (l : List UInt8) : Value := .string (bs l)
theorem bts_bs (l : List UInt8) : bts (bs l) = l := rfl
theorem bs_bts (s : ByteArray) : bs (bts s) = s := by cases s; rfl
theorem bts_inj {s t : ByteArray} (h : bts s = bts t) : s = t := by rw [← bs_bts s, h, bs_bts]
theorem bts_append (s t : ByteArray) : bts (s ++ t) = bts s ++ bts t := by simp [bts]
theorem bs_append (s t : ByteArray) : s ++ t = bs (bts s ++ bts t) := by rw [← bts_append, bs_bts]
theorem bs_size (l : List UInt8) : (bs l).size = l.length := by simp [bs, ByteArray.size]
theorem str_beq (s t : ByteArray) : (s.toList == t.toList) = decide (bts s = bts t) := by
  rw [ByteArray.toList_eq, ByteArray.toList_eq]
  by_cases h : bts s = bts t
  · simp [h, show s.data.toList = t.data.toList from h]
  · simp only [h, decide_false]
    rw [beq_eq_false_iff_ne]; exact h
theorem bts_extract (s : ByteArray) (a e : Nat) : bts (s.extract a e) = ((bts s).take e).drop a := by
  simp [bts, ByteArray.data_extract, Array.toList_extract, List.take_drop]
  by_cases h : a ≤ e
  · congr 1; congr 1; omega
  · rw [List.drop_eq_nil_of_le, List.drop_eq_nil_of_le] <;> simp <;> omega
theorem bts_len (s : ByteArray) : (bts s).length = s.size := by
  cases s; simp [bts, ByteArray.size]

/-- The cells of a slice of bytes. -/
def u8s (l : List UInt8) : List Value := l.map fun b => .int .u8 (b.toNat : Int)
theorem u8s_len (l : List UInt8) : (u8s l).length = l.length := by simp [u8s]
theorem u8s_one (l : List UInt8) : ∀ u ∈ u8s l, u.oneCell' = true := by
  intro u hu; simp [u8s] at hu; obtain ⟨b, _, rfl⟩ := hu; rfl

theorem u8s_set (l : List UInt8) (p : Nat) (v : UInt8) : (u8s l).set p (.int .u8 (v.toNat : Int)) = u8s (l.set p v) := by simp [u8s, List.map_set]
theorem cell_u8 {w : World} {g : Nat} {l : List UInt8} {p : Nat} {b : UInt8} (hr : Rd w (some ⟨g, 0, none⟩) (u8s l)) (hb : l[p]? = some b) : w.cell? ⟨g, p, none⟩ = some (.int .u8 (b.toNat : Int)) := by
  obtain ⟨ad, e, hc⟩ := hr p (.int .u8 (b.toNat : Int)) (by simp [u8s, hb])
  injection e with e; subst e
  rw [add_flat, Nat.zero_add] at hc; exact hc

section
variable {P : Program}
theorem run_loadCells_rd (w : World) (a : Addr) (xs : List Value) (hr : Rd w (some a) xs) : (loadCells a xs.length).run P w = .ok xs.toArray w :=
  run_loadCells_list (P := P) w a xs fun j v hv => by
    obtain ⟨ad, e, hc⟩ := hr j v hv
    injection e with e
    subst e; exact hc
theorem foldl_push_u8 : ∀ (ns : List Int) (s : ByteArray), ns.foldl (fun r n => r.push (UInt8.ofNat n.toNat)) s = ⟨s.data ++ (ns.map fun n => UInt8.ofNat n.toNat).toArray⟩
  | [], s => by simp
  | n :: ns, s => by
    rw [List.foldl_cons, foldl_push_u8 ns]
    simp [ByteArray.push]
theorem run_bytes_str (w : World) (src dst e : TypeId) (hs : P.underlying src = some (.slice e)) (he : P.underlying e = some (.int .u8)) (hd : P.underlying dst = some .string)
    (A : Option Addr) (n c : Nat) (l : List UInt8) (hr : Rd w A (u8s l)) (hn : l.length = n) : (convert src dst (.slice A n c)).run P w = .ok (str l) w := by
  rw [run_convert_bytes_string w src dst e A n c hs he hd]
  cases A with
  | none =>
    have hl : l = [] := by
      cases l with
      | nil => rfl
      | cons b l =>
        obtain ⟨ad, e, _⟩ := hr 0 (.int .u8 (b.toNat : Int)) (by simp [u8s])
        cases e
    subst hl
    simp [Conv.bytesToString, str, bs]; rfl
  | some a =>
    have hl : (loadCells a n).run P w = .ok ((l.map fun b => (b.toNat : Int)).map (Value.int .u8)).toArray w := by
      have := run_loadCells_rd (P := P) w a (u8s l) hr
      rw [u8s_len, hn] at this
      rw [this]; simp [u8s]
    rw [run_bytesToString w a n c _ hl, foldl_push_u8]
    simp [ByteArray.empty, ByteArray.emptyWithCapacity, str, bs, Function.comp_def]
    rfl
/-- 'string(b)', b any slice of bytes that reads as l. -/
theorem wpList_bytes_str {ops : Array Oper} {rest : List Oper} {o : Oper} {a : Act} {w : World} {Q : Exit → Act → World → Prop} (hgd : o.guard = none) (src dst : TypeId) (x : Operand) (ho : o.op = .convert src dst x)
    (e : TypeId) (hs : P.underlying src = some (.slice e)) (he : P.underlying e = some (.int .u8)) (hd : P.underlying dst = some .string)
    (A : Option Addr) (n c : Nat) (l : List UInt8) (hx : a.eval x = .slice A n c) (hr : Rd w A (u8s l)) (hn : l.length = n)
    (h : wpList P ops Q rest (a.put o.dst (str l)) w) : wpList P ops Q (o :: rest) a w :=
  wpList_plain hgd fun K hK => by
    unfold Oper.wp execOp
    simp only [ho, hx, Sem.run_bind, run_bytes_str w src dst e hs he hd A n c l hr hn, Result.andThen_ok, Sem.run_pure]
    exact hK _ _ h

/-- '[]byte(s)': a new row of the bytes of s, none of them frozen. -/
theorem wpList_str_bytes {ops : Array Oper} {rest : List Oper} {o : Oper} {a : Act} {w : World} {Q : Exit → Act → World → Prop} (hgd : o.guard = none) (src dst : TypeId) (x : Operand) (ho : o.op = .convert src dst x)
    (e : TypeId) (hs : P.underlying src = some .string) (hd : P.underlying dst = some (.slice e)) (he : P.underlying e = some (.int .u8)) (s : ByteArray) (hx : a.eval x = .string s)
    (h : ∀ c w', s.size ≤ c → Below w.heap.size w w' → w'.heap.size = w.heap.size + 1 → Rd w' (some ⟨w.heap.size, 0, none⟩) (u8s (bts s)) → (∀ j, j < s.size → w'.frozen? ⟨w.heap.size, j, none⟩ = false) →
      wpList P ops Q rest (a.put o.dst (.slice (some ⟨w.heap.size, 0, none⟩) s.size c)) w') : wpList P ops Q (o :: rest) a w :=
  wpList_plain hgd fun K hK => by
    unfold Oper.wp execOp
    simp only [ho, hx, Sem.run_bind, run_bytes_of_string w src dst e s hs hd he, Result.andThen_ok, Sem.run_pure]
    refine hK _ _ (h _ _ (grownCap_ge w s.size 0 e) (((Below.refl _ _).drew).alloc (Nat.le_refl _) _) (by simp) ?_ ?_)
    · refine Rd.row fun j x hx => ?_
      have hj : j < s.data.size := by
        have := (List.getElem?_eq_some_iff.1 hx).1
        simpa [u8s, bts] using this
      have hc : (w.drew.alloc (.cells (bytesRow s (grownCap w s.size 0 e)) e ((bytesRow s (grownCap w s.size 0 e)).size, (bytesRow s (grownCap w s.size 0 e)).size + 1))).cell? ⟨w.heap.size, 0 + j, none⟩ = (bytesRow s (grownCap w s.size 0 e))[j]? := by
        rw [cell_of_row _ w.heap.size (0 + j) _ _ _ (heap_alloc_new w.drew _), Nat.zero_add]
      rw [hc, bytesRow_at s _ j hj]
      simp [u8s, bts] at hx
      obtain ⟨b, hb, rfl⟩ := hx
      simp [Array.getElem?_eq_getElem hj] at hb
      rw [hb]
    · intro j hj
      have hh : (w.drew.alloc (.cells (bytesRow s (grownCap w s.size 0 e)) e ((bytesRow s (grownCap w s.size 0 e)).size, (bytesRow s (grownCap w s.size 0 e)).size + 1))).heap[w.heap.size]? = some _ := heap_alloc_new w.drew _
      have hsz : s.size ≤ (bytesRow s (grownCap w s.size 0 e)).size := by
        unfold bytesRow; rw [Array.size_append, Array.size_map]; exact Nat.le_add_right s.data.size _
      simp only [World.frozen?, hh]
      simp; omega

/-- 'out = append(out, src...)', out nil or the call's own, src any slice that reads as news. -/
theorem wpList_app {w : World} {ops : Array Oper} {rest : List Oper} {o : Oper} {a : Act} {Q : Exit → Act → World → Prop} (hgd : o.guard = none) (s x : Operand) (t : TypeId)
    (ho : o.op = .call { callee := .builtin .append, args := #[s, x], argTypes := #[t, t] })
    (base : Nat) (e : TypeId) (i : TypeInfo) (z : Value) (size bytes : Nat) (ht : P.underlying t = some (.slice e)) (hi : P.info? e = some i) (hz : i.zero = some z)
    (hsize : i.size = size) (hby : i.bytes = bytes) (hzs : z.cells.size = size) (hsz : 0 < size)
    (v : Value) (n : Nat) (xs : List Value) (hs : a.eval s = v) (hown : w.ownsRow base e size v n xs)
    (A : Option Addr) (m c : Nat) (news : List Value) (hx : a.eval x = .slice A m c) (hr : Rd w A news) (hl : news.length = m * size) (h1 : ∀ u ∈ news, u.oneCell' = true)
    (h63 : n + m ≤ maxLen) (hbytes : (n + m) * bytes ≤ 140737488355328) (hbase : base ≤ w.heap.size)
    (h : ∀ v' w', w'.ownsRow base e size v' (n + m) (xs ++ news) → w.grownBy w' v.ownBlock → Below base w w' → (v'.ownBlock = v.ownBlock ∨ v'.ownBlock = some w.heap.size) → wpList P ops Q rest (a.put o.dst v') w') : wpList P ops Q (o :: rest) a w := by
  have hbel : ∀ w', w.grownBy w' v.ownBlock → Below base w w' := fun w' hg => (Below.refl base w).grown hg hbase fun k hk => (hown.lt k hk).1
  cases A with
  | none =>
    have hn : news = [] := by
      cases news with
      | nil => rfl
      | cons b l =>
        obtain ⟨ad, e, _⟩ := hr 0 b (by simp)
        cases e
    subst hn
    have hm : m = 0 := by
      have : m * size = 0 := by simpa using hl.symm
      rcases Nat.mul_eq_zero.1 this with h0 | h0
      · exact h0
      · omega
    subst hm
    have hrun : (Builtin.append_ #[t, t] o.type #[v, .slice none 0 c]).run P w = .ok v w := by
      rcases hown.2 with ⟨rfl, rfl⟩ | ⟨g, cap, cur, rfl, _, _, hnc, _⟩
      · simp [Builtin.append_, run_underlying ht, sizeOf, typeInfo, hi, Builtin.lenOf, Builtin.firstCells]
      · simp [Builtin.append_, run_underlying ht, sizeOf, typeInfo, hi, Builtin.lenOf, Builtin.firstCells, hnc, storeCells]
    refine wpList_plain hgd fun K hK => ?_
    unfold Oper.wp execOp
    simp only [ho, resolve, invoke, builtin, Sem.run_bind, Sem.run_pure, Result.andThen_ok, List.map_toArray, List.map_cons, List.map_nil, hs, hx, hrun]
    exact hK _ _ (h v w (by simpa using hown) (World.grownBy.refl _ _) (Below.refl _ _) (.inl rfl))
  | some ad =>
    refine wpList_append_own_at w hgd s x t ho base e i z size bytes ht hi hz hsize hby hzs hsz v n xs hs hown ad m c news hx hl (fun j u hu => ?_) h1 h63 hbytes hbase fun v' w' h2 h3 _ h5 => h v' w' h2 h3 (hbel w' h3) h5
    obtain ⟨ad', e, hc⟩ := hr j u hu
    injection e with e
    subst e; exact hc
end

theorem one_int (k : IntKind) (n : Int) : ∀ u ∈ [Value.int k n], u.oneCell' = true := by intro u hu; simp at hu; subst hu; rfl
theorem one_str (s : ByteArray) : ∀ u ∈ [Value.string s], u.oneCell' = true := by intro u hu; simp at hu; subst hu; rfl
theorem Rd.one (w : World) (v : Value) (t : TypeId) : Rd (w.alloc (.cells #[v] t)) (some ⟨w.heap.size, 0, none⟩) [v] := by simpa using Rd.new w #[v] t
/-- A number in n bytes, the lowest first. -/
def lowB : Nat → Nat → List UInt8
  | _, 0 => []
  | v, n + 1 => UInt8.ofNat v :: lowB (v / 256) n
theorem lowB_len (v n : Nat) : (lowB v n).length = n := by
  induction n generalizing v with
  | zero => rfl
  | succ n ih => simp [lowB, ih]
theorem lowB_snoc (v n : Nat) : lowB v (n + 1) = lowB v n ++ [UInt8.ofNat (v / 256 ^ n)] := by
  induction n generalizing v with
  | zero => simp [lowB]
  | succ n ih =>
    rw [lowB, ih (v / 256), lowB]
    simp [Nat.div_div_eq_div_mul, Nat.pow_succ, Nat.mul_comm]

theorem ret_int {k : IntKind} {a b : Int} (h : a = b) : Ending.returned (.int k a) = .returned (.int k b) := by rw [h]
theorem ret_bool {a b : Bool} (h : a = b) : Ending.returned (.bool a) = .returned (.bool b) := by rw [h]
theorem int_eq {k : IntKind} {a b : Int} (h : a = b) : Value.int k a = .int k b := by rw [h]

theorem take_snoc (s : ByteArray) (k : Nat) (h : k < s.size) : s.data.toList.take (k + 1) = s.data.toList.take k ++ [s[k]] := by
  rw [List.take_succ_eq_append_getElem (by simpa using h)]; rfl
theorem take_all (s : ByteArray) : s.data.toList.take s.size = s.data.toList := List.take_of_length_le (by simp)

end Go.Proofs.Ytgigkekajdgngaa
