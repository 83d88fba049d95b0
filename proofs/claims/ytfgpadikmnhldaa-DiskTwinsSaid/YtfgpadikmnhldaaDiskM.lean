/-
  A disk in memory: its map, its files, what is not safe; what becomes of it when a file turns. No condition of its own.
-/
import Derived.Test.YtfgpadikmnhldaaOne
import Derived.Test.YtfgpadikmnhldaaIntMore
import Derived.Test.YtfgpadikmnhldaaSliceSz
namespace Go.Proofs.Ytfgpadikmnhldaa
open Go Go.RowKit

/-- What became of some memory: it has turned, other memory not; what it is now it was, or is new. -/
structure Turn (M : Nat → Prop) (w : World) (M' : Nat → Prop) (w' : World) : Prop where
  frm : Frm M w w'
  own : ∀ q, M' q → M q ∨ w.heap.size ≤ q
section
variable {M M' M'' : Nat → Prop} {w w1 w2 : World}
theorem Turn.refl (M : Nat → Prop) (w : World) : Turn M w M w := ⟨Frm.refl _ _, fun _ h => .inl h⟩
theorem Turn.step (h : Turn M w M' w1) (k : Below w1.heap.size w1 w2) : Turn M w M' w2 := ⟨h.frm.step k, h.own⟩
theorem Turn.trans (h : Turn M w M' w1) (k : Turn M' w1 M'' w2) : Turn M w M'' w2 :=
  ⟨h.frm.trans k.frm fun i hi hm => by
    rcases h.own i hm with h1 | h1
    · exact h1
    · omega, fun i hi => by
    rcases k.own i hi with h1 | h1
    · exact h.own i h1
    · exact .inr (Nat.le_trans h.frm.size h1)⟩
theorem Turn.below {base : Nat} (h : Turn M w M' w1) (hb : base ≤ w.heap.size) (hm : ∀ q, M q → base ≤ q) : Below base w w1 := h.frm.below hb hm
end
def strs (l : List ByteArray) : List Value := l.map Value.string
theorem strs_len (l : List ByteArray) : (strs l).length = l.length := by simp [strs]
theorem strs_at {l : List ByteArray} {k : Nat} {s : ByteArray} (h : l[k]? = some s) : (strs l)[k]? = some (.string s) := by simp [strs, h]
theorem strs_one (l : List ByteArray) : ∀ u ∈ strs l, u.oneCell' = true := by intro u hu; simp [strs] at hu; obtain ⟨x, _, rfl⟩ := hu; rfl
theorem strs_app (a b : List ByteArray) : strs (a ++ b) = strs a ++ strs b := by simp [strs]
theorem strs_set (l : List ByteArray) (k : Nat) (s : ByteArray) : (strs l).set k (.string s) = strs (l.set k s) := by simp [strs, List.map_set]
theorem strs_take (l : List ByteArray) (k : Nat) : (strs l).take k = strs (l.take k) := by simp [strs, List.map_take]
def wcells (ρ : Nat → Nat) (x : Wr) : List Value := [.pointer (some ⟨ρ x.id, 0, none⟩), .int .i64 x.pos, .string x.data]
def flatW (ρ : Nat → Nat) (l : List Wr) : List Value := l.flatMap (wcells ρ)
theorem flatW_len (ρ : Nat → Nat) (l : List Wr) : (flatW ρ l).length = l.length * 3 := flat_len (wcells ρ) (fun _ => rfl) l
theorem flatW_at (ρ : Nat → Nat) (l : List Wr) (k : Nat) (x : Wr) (h : l[k]? = some x) (j : Nat) (v : Value) (hv : (wcells ρ x)[j]? = some v) : (flatW ρ l)[k * 3 + j]? = some v := flat_at (wcells ρ) (fun _ => rfl) l k x h j v hv
theorem flatW_one (ρ : Nat → Nat) (l : List Wr) : ∀ u ∈ flatW ρ l, u.oneCell' = true := flat_one (wcells ρ) (fun x u hu => by unfold wcells at hu; simp at hu; rcases hu with rfl | rfl | rfl <;> rfl) l
theorem flatW_app (ρ : Nat → Nat) (a b : List Wr) : flatW ρ (a ++ b) = flatW ρ a ++ flatW ρ b := by unfold flatW; rw [List.flatMap_append]
theorem flatW_congr {ρ ρ' : Nat → Nat} {l : List Wr} (h : ∀ x ∈ l, ρ' x.id = ρ x.id) : flatW ρ' l = flatW ρ l := by
  induction l with
  | nil => rfl
  | cons x l ih =>
    show wcells ρ' x ++ flatW ρ' l = wcells ρ x ++ flatW ρ l
    rw [ih fun y hy => h y (by simp [hy])]
    unfold wcells
    rw [h x (by simp)]
/-- A file in memory. -/
structure FileAt (w : World) (base b : Nat) (f : Fl) (vl vs : Value) : Prop where
  blk : Blk w b 58 #[vl, vs, .bool f.known]
  lo : base ≤ b
  ol : w.ownsRow base 9 1 vl f.now.length (strs f.now)
  os : w.ownsRow base 9 1 vs f.safe.length (strs f.safe)
/-- Where a disk lies. -/
structure DM where
  g : Nat
  bm : Nat
  D : DataW Unit
  ρ : Nat → Nat
  R : Nat → Bool → Value
  vw : Value
  vk : Value
/-- Its blocks. -/
def mineD (d : Ds) (m : DM) (q : Nat) : Prop := q = m.g ∨ q = m.bm ∨ m.vw.ownBlock = some q ∨ m.vk.ownBlock = some q ∨ ∃ p ∈ d.fs, q = m.ρ p.2.id ∨ ∃ k, (m.R p.2.id k).ownBlock = some q
/-- The blocks of its files. -/
def filesD (d : Ds) (m : DM) (q : Nat) : Prop := ∃ p ∈ d.fs, q = m.ρ p.2.id ∨ ∃ k, (m.R p.2.id k).ownBlock = some q
def namesD (d : Ds) (m : DM) : Names := d.fs.map fun p => (p.1, m.ρ p.2.id)
def cellsD (d : Ds) (m : DM) : Array Value := #[.map (some m.bm), m.vw, .bool d.off, .int .i64 d.room, .bool d.armed, .int .i64 d.left, m.vk]
structure DiskAt (w : World) (base : Nat) (d : Ds) (m : DM) : Prop where
  ok : d.ok
  blk : Blk w m.g 49 (cellsD d m)
  lo : base ≤ m.g
  lom : base ≤ m.bm
  map : MapAt w m.bm m.D (namesD d m)
  ow : w.ownsRow base 60 3 m.vw d.ws.length (flatW m.ρ d.ws)
  ok_ : w.ownsRow base 3 1 m.vk d.keep.length (flatZ d.keep)
  fs : ∀ p ∈ d.fs, FileAt w base (m.ρ p.2.id) p.2 (m.R p.2.id true) (m.R p.2.id false)
  inj : ∀ p ∈ d.fs, ∀ q ∈ d.fs, m.ρ p.2.id = m.ρ q.2.id → p.2.id = q.2.id
  ap : ∀ p ∈ d.fs, ∀ q ∈ d.fs, ∀ (k k' : Bool) (b : Nat), (m.R p.2.id k).ownBlock = some b → (m.R q.2.id k').ownBlock = some b → p.2.id = q.2.id ∧ k = k'
/-- What a call makes of a disk. -/
def DidD (w : World) (base : Nat) (d : Ds) (m : DM) (d' : Ds) (w' : World) : Prop := ∃ m' : DM, m'.g = m.g ∧ DiskAt w' base d' m' ∧ Turn (mineD d m) w (mineD d' m') w'
section
variable {w w' : World} {base b : Nat} {d d' : Ds} {m m' : DM} {f : Fl} {vl vs : Value} {S : Nat → Prop}
theorem FileAt.row (h : FileAt w base b f vl vs) (k : Bool) : w.ownsRow base 9 1 (if k then vl else vs) (if k then f.now else f.safe).length (strs (if k then f.now else f.safe)) := by
  cases k
  · exact h.os
  · exact h.ol
theorem FileAt.frm (h : FileAt w base b f vl vs) (k : Frm S w w') (hb : ¬ S b) (hl : ∀ q, vl.ownBlock = some q → ¬ S q) (hs : ∀ q, vs.ownBlock = some q → ¬ S q) : FileAt w' base b f vl vs :=
  ⟨h.blk.frm k hb, h.lo, own_frm h.ol k hl, own_frm h.os k hs⟩
theorem DiskAt.row (h : DiskAt w base d m) {p : ByteArray × Fl} (hp : p ∈ d.fs) (k : Bool) : ∃ xs, w.ownsRow base 9 1 (m.R p.2.id k) xs.length (strs xs) := by
  cases k
  · exact ⟨_, (h.fs p hp).os⟩
  · exact ⟨_, (h.fs p hp).ol⟩
theorem DiskAt.mine_lt (h : DiskAt w base d m) (q : Nat) (hq : mineD d m q) : base ≤ q ∧ q < w.heap.size := by
  rcases hq with rfl | rfl | hq | hq | ⟨p, hp, rfl | ⟨k, hq⟩⟩
  · exact ⟨h.lo, h.blk.lt⟩
  · exact ⟨h.lom, h.map.lt⟩
  · exact h.ow.lt q hq
  · exact h.ok_.lt q hq
  · exact ⟨(h.fs p hp).lo, (h.fs p hp).blk.lt⟩
  · obtain ⟨xs, ho⟩ := h.row hp k
    exact ho.lt q hq
theorem DiskAt.frm (h : DiskAt w base d m) (k : Frm S w w') (hS : ∀ q, mineD d m q → ¬ S q) : DiskAt w' base d m :=
  ⟨h.ok, h.blk.frm k (hS _ (.inl rfl)), h.lo, h.lom, h.map.frm k (hS _ (.inr (.inl rfl))), own_frm h.ow k (fun q hq => hS q (.inr (.inr (.inl hq)))), own_frm h.ok_ k (fun q hq => hS q (.inr (.inr (.inr (.inl hq))))),
    fun p hp => (h.fs p hp).frm k (hS _ (.inr (.inr (.inr (.inr ⟨p, hp, .inl rfl⟩))))) (fun q hq => hS q (.inr (.inr (.inr (.inr ⟨p, hp, .inr ⟨true, hq⟩⟩))))) (fun q hq => hS q (.inr (.inr (.inr (.inr ⟨p, hp, .inr ⟨false, hq⟩⟩))))), h.inj, h.ap⟩
theorem DiskAt.below (h : DiskAt w base d m) (k : Below w.heap.size w w') : DiskAt w' base d m := h.frm (S := no) (Frm.of_below k) (fun _ _ h => h)
theorem DidD.refl (h : DiskAt w base d m) : DidD w base d m d w := ⟨m, rfl, h, Turn.refl _ _⟩
theorem DidD.step (h : DidD w base d m d' w') {w2 : World} (k : Below w'.heap.size w' w2) : DidD w base d m d' w2 := by
  obtain ⟨m', hg, hD, hT⟩ := h
  exact ⟨m', hg, hD.below k, hT.step k⟩
/-- Blocks of different types, and the map's, are apart. -/
theorem MapAt.ne_ty {bm : Nat} {D : DataW Unit} {g : Names} (h : MapAt w bm D g) {q : Nat} {t : TypeId} (k : TyAt w q t) : q ≠ bm := by
  rintro rfl
  obtain ⟨es, clock, h1, _⟩ := h.own
  obtain ⟨cs, fr, h2⟩ := k
  rw [h1] at h2; cases h2
theorem FileAt.ty_l (h : FileAt w base b f vl vs) {q : Nat} (hq : vl.ownBlock = some q) : TyAt w q 9 := own_ty h.ol hq
theorem FileAt.ty_s (h : FileAt w base b f vl vs) {q : Nat} (hq : vs.ownBlock = some q) : TyAt w q 9 := own_ty h.os hq
theorem DiskAt.ty_row (h : DiskAt w base d m) {p : ByteArray × Fl} (hp : p ∈ d.fs) {k : Bool} {q : Nat} (hq : (m.R p.2.id k).ownBlock = some q) : TyAt w q 9 := by
  obtain ⟨xs, ho⟩ := h.row hp k
  exact own_ty ho hq
theorem DiskAt.ty_file (h : DiskAt w base d m) {p : ByteArray × Fl} (hp : p ∈ d.fs) : TyAt w (m.ρ p.2.id) 58 := (h.fs p hp).blk.ty
/-- The rows of a file. -/
def setR (R : Nat → Bool → Value) (id : Nat) (vl vs : Value) : Nat → Bool → Value := fun i k => if i = id then (if k then vl else vs) else R i k
theorem setR_same (R : Nat → Bool → Value) (id : Nat) (vl vs : Value) (k : Bool) : setR R id vl vs id k = if k then vl else vs := by unfold setR; rw [if_pos rfl]
theorem setR_other (R : Nat → Bool → Value) {id i : Nat} (vl vs : Value) (k : Bool) (h : i ≠ id) : setR R id vl vs i k = R i k := by unfold setR; rw [if_neg h]
/-- A file has turned: its block, its rows; all else is as it was. -/
theorem DiskAt.turn (h : DiskAt w base d m) {s : ByteArray} (hf : (s, f) ∈ d.fs) (t : Fl → Fl) (hid : ∀ f, (t f).id = f.id) (hok : ({ d with fs := updF d.fs f.id t } : Ds).ok) {vl' vs' : Value}
    (k : Frm (fun q => q = m.ρ f.id ∨ (m.R f.id true).ownBlock = some q ∨ (m.R f.id false).ownBlock = some q) w w') (hF : FileAt w' base (m.ρ f.id) (t f) vl' vs')
    (hl : ∀ q, vl'.ownBlock = some q → (m.R f.id true).ownBlock = some q ∨ w.heap.size ≤ q) (hs : ∀ q, vs'.ownBlock = some q → (m.R f.id false).ownBlock = some q ∨ w.heap.size ≤ q) (hne : ∀ q, vl'.ownBlock = some q → vs'.ownBlock ≠ some q) :
    DiskAt w' base { d with fs := updF d.fs f.id t } { m with R := setR m.R f.id vl' vs' } ∧ Turn (filesD d m) w (filesD { d with fs := updF d.fs f.id t } { m with R := setR m.R f.id vl' vs' }) w' := by
  have hS : ∀ q, (q = m.ρ f.id ∨ (m.R f.id true).ownBlock = some q ∨ (m.R f.id false).ownBlock = some q) → filesD d m q := fun q hq => by
    rcases hq with rfl | hq | hq
    · exact ⟨_, hf, .inl rfl⟩
    · exact ⟨_, hf, .inr ⟨true, hq⟩⟩
    · exact ⟨_, hf, .inr ⟨false, hq⟩⟩
  have hT : ∀ q, (q = m.ρ f.id ∨ (m.R f.id true).ownBlock = some q ∨ (m.R f.id false).ownBlock = some q) → TyAt w q 58 ∨ TyAt w q 9 := fun q hq => by
    rcases hq with rfl | hq | hq
    · exact .inl (h.ty_file hf)
    · exact .inr (h.ty_row (p := (s, f)) hf hq)
    · exact .inr (h.ty_row (p := (s, f)) hf hq)
  have hnm : (updF d.fs f.id t).map (fun p => (p.1, m.ρ p.2.id)) = d.fs.map fun p => (p.1, m.ρ p.2.id) := by
    unfold updF; rw [List.map_map]
    refine List.map_congr_left fun p _ => ?_
    simp only [Function.comp_apply]
    split
    · rw [hid]
    · rfl
  have hfid : ∀ p ∈ d.fs, p.2.id = f.id → p = (s, f) := fun p hp e => nodup_get (g := fun p : ByteArray × Fl => p.2.id) h.ok.ids hp hf e
  have hnew : ∀ (i : Nat) (k : Bool) (q : Nat), (setR m.R f.id vl' vs' i k).ownBlock = some q → (m.R i k).ownBlock = some q ∨ (i = f.id ∧ w.heap.size ≤ q) := fun i k q hq => by
    by_cases e : i = f.id
    · subst e
      rw [setR_same] at hq
      cases k
      · rcases hs q hq with h1 | h1
        · exact .inl h1
        · exact .inr ⟨rfl, h1⟩
      · rcases hl q hq with h1 | h1
        · exact .inl h1
        · exact .inr ⟨rfl, h1⟩
    · rw [setR_other _ _ _ _ e] at hq; exact .inl hq
  refine ⟨⟨hok, h.blk.frm k fun hq => ?_, h.lo, h.lom, ?_, own_frm h.ow k fun q hq hs => ?_, own_frm h.ok_ k fun q hq hs => ?_, fun p hp => ?_, fun p hp q hq e => ?_, fun p hp q hq k1 k2 b h1 h2 => ?_⟩, k.mono fun q _ hq => hS q hq, fun q hq => ?_⟩
  · rcases hT _ hq with h1 | h1
    · exact absurd (h.blk.ty.eq h1) (by decide)
    · exact absurd (h.blk.ty.eq h1) (by decide)
  · show MapAt w' m.bm m.D ((updF d.fs f.id t).map fun p => (p.1, m.ρ p.2.id))
    rw [hnm]
    refine h.map.frm k fun hq => ?_
    rcases hT _ hq with h1 | h1
    · exact h.map.ne_ty h1 rfl
    · exact h.map.ne_ty h1 rfl
  · rcases hT _ hs with h1 | h1
    · exact absurd ((own_ty h.ow hq).eq h1) (by decide)
    · exact absurd ((own_ty h.ow hq).eq h1) (by decide)
  · rcases hT _ hs with h1 | h1
    · exact absurd ((own_ty h.ok_ hq).eq h1) (by decide)
    · exact absurd ((own_ty h.ok_ hq).eq h1) (by decide)
  · obtain ⟨q, hq, ⟨e, rfl⟩ | ⟨e, rfl⟩⟩ := updF_mem hp
    · obtain rfl := hfid q hq e
      show FileAt w' base (m.ρ (t f).id) (t f) (setR m.R f.id vl' vs' (t f).id true) (setR m.R f.id vl' vs' (t f).id false)
      rw [hid, setR_same, setR_same]
      exact hF
    · show FileAt w' base (m.ρ p.2.id) p.2 (setR m.R f.id vl' vs' p.2.id true) (setR m.R f.id vl' vs' p.2.id false)
      rw [setR_other _ _ _ _ e, setR_other _ _ _ _ e]
      refine (h.fs p hq).frm k (fun hb => ?_) (fun b hb hs => ?_) (fun b hb hs => ?_)
      · rcases hb with hb | hb | hb
        · exact e (h.inj p hq _ hf hb)
        · exact absurd ((h.ty_file hq).eq (h.ty_row (p := (s, f)) hf hb)) (by decide)
        · exact absurd ((h.ty_file hq).eq (h.ty_row (p := (s, f)) hf hb)) (by decide)
      · rcases hs with rfl | hs | hs
        · exact absurd ((h.ty_row hq hb).eq (h.ty_file hf)) (by decide)
        · exact e (h.ap p hq (s, f) hf true true b hb hs).1
        · exact e (h.ap p hq (s, f) hf true false b hb hs).1
      · rcases hs with rfl | hs | hs
        · exact absurd ((h.ty_row hq hb).eq (h.ty_file hf)) (by decide)
        · exact e (h.ap p hq (s, f) hf false true b hb hs).1
        · exact e (h.ap p hq (s, f) hf false false b hb hs).1
  · obtain ⟨p0, hp0, ⟨e1, rfl⟩ | ⟨_, rfl⟩⟩ := updF_mem hp
    · obtain ⟨q0, hq0, ⟨e2, rfl⟩ | ⟨_, rfl⟩⟩ := updF_mem hq
      · show (t p0.2).id = (t q0.2).id; rw [hid, hid]; have e' : m.ρ (t p0.2).id = m.ρ (t q0.2).id := e; rw [hid, hid] at e'; exact h.inj _ hp0 _ hq0 e'
      · show (t p0.2).id = q.2.id; rw [hid]; have e' : m.ρ (t p0.2).id = m.ρ q.2.id := e; rw [hid] at e'; exact h.inj _ hp0 _ hq0 e'
    · obtain ⟨q0, hq0, ⟨e2, rfl⟩ | ⟨_, rfl⟩⟩ := updF_mem hq
      · show p.2.id = (t q0.2).id; rw [hid]; have e' : m.ρ p.2.id = m.ρ (t q0.2).id := e; rw [hid] at e'; exact h.inj _ hp0 _ hq0 e'
      · exact h.inj _ hp0 _ hq0 e
  · have hold : ∀ p ∈ updF d.fs f.id t, ∃ p0 ∈ d.fs, p0.2.id = p.2.id := fun p hp => by
      obtain ⟨p0, hp0, ⟨_, rfl⟩ | ⟨_, rfl⟩⟩ := updF_mem hp
      · exact ⟨p0, hp0, (hid _).symm⟩
      · exact ⟨_, hp0, rfl⟩
    obtain ⟨p0, hp0, ep⟩ := hold p hp
    obtain ⟨q0, hq0, eq⟩ := hold q hq
    have h1' : (setR m.R f.id vl' vs' p.2.id k1).ownBlock = some b := h1
    have h2' : (setR m.R f.id vl' vs' q.2.id k2).ownBlock = some b := h2
    rw [← ep] at h1' ⊢
    rw [← eq] at h2' ⊢
    rcases hnew _ _ _ h1' with a1 | ⟨i1, a1⟩
    · rcases hnew _ _ _ h2' with a2 | ⟨i2, a2⟩
      · exact h.ap p0 hp0 q0 hq0 k1 k2 b a1 a2
      · obtain ⟨xs, ho⟩ := h.row hp0 k1
        have := (ho.lt b a1).2; omega
    · rcases hnew _ _ _ h2' with a2 | ⟨i2, a2⟩
      · obtain ⟨xs, ho⟩ := h.row hq0 k2
        have := (ho.lt b a2).2; omega
      · refine ⟨by rw [i1, i2], ?_⟩
        rw [i1, setR_same] at h1'
        rw [i2, setR_same] at h2'
        cases k1 <;> cases k2
        · rfl
        · exact absurd h1' (hne b h2')
        · exact absurd h2' (hne b h1')
        · rfl
  · obtain ⟨p, hp, hq⟩ := hq
    obtain ⟨p0, hp0, e⟩ : ∃ p0 ∈ d.fs, p0.2.id = p.2.id := by
      obtain ⟨p0, hp0, ⟨_, rfl⟩ | ⟨_, rfl⟩⟩ := updF_mem hp
      · exact ⟨p0, hp0, (hid _).symm⟩
      · exact ⟨_, hp0, rfl⟩
    rcases hq with hq | ⟨k, hq⟩
    · exact .inl ⟨p0, hp0, .inl (by rw [e]; exact hq)⟩
    · have hq' : (setR m.R f.id vl' vs' p.2.id k).ownBlock = some q := hq
      rw [← e] at hq'
      rcases hnew _ _ _ hq' with a | ⟨_, a⟩
      · exact .inl ⟨p0, hp0, .inr ⟨k, a⟩⟩
      · exact .inr a
/-- What turns of a disk's files turns of the disk. -/
theorem Turn.files (h : Turn (filesD d m) w (filesD d' m') w') (h1 : m'.g = m.g) (h2 : m'.bm = m.bm) (h3 : m'.vw = m.vw) (h4 : m'.vk = m.vk) : Turn (mineD d m) w (mineD d' m') w' :=
  ⟨h.frm.mono fun _ _ hq => .inr (.inr (.inr (.inr hq))), fun q hq => by
    rcases hq with hq | hq | hq | hq | hq
    · exact .inl (.inl (by rw [← h1]; exact hq))
    · exact .inl (.inr (.inl (by rw [← h2]; exact hq)))
    · exact .inl (.inr (.inr (.inl (by rw [← h3]; exact hq))))
    · exact .inl (.inr (.inr (.inr (.inl (by rw [← h4]; exact hq)))))
    · rcases h.own q hq with h5 | h5
      · exact .inl (.inr (.inr (.inr (.inr h5))))
      · exact .inr h5⟩
theorem DiskAt.ty_files (h : DiskAt w base d m) {q : Nat} (hq : filesD d m q) : TyAt w q 58 ∨ TyAt w q 9 := by
  obtain ⟨p, hp, rfl | ⟨k, hq⟩⟩ := hq
  · exact .inl (h.ty_file hp)
  · exact .inr (h.ty_row hp hq)
end
end Go.Proofs.Ytfgpadikmnhldaa
