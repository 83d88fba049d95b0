/-
  A twin of a disk in memory, as it grows: file by file, write by write. No condition of its own.
-/
import Derived.Test.YtfgpadikmnhldaaDiskW
import Derived.Test.YtfgpadikmnhldaaPMap
namespace Go.Proofs.Ytfgpadikmnhldaa
open Go Go.RowKit

/-- A disk with some of its files and writes. -/
def tD (d : Ds) (fs : List (ByteArray × Fl)) (ws : List Wr) : Ds := ⟨fs, ws, d.off, d.room, d.armed, d.left, d.keep, d.next⟩
theorem tD_all (d : Ds) : tD d d.fs d.ws = d := rfl
/-- The files that are not still to come. -/
def fsL (d : Ds) (left : Lit → Bool) : List (ByteArray × Fl) := d.fs.filter fun p => !left (kS p.1)
theorem fsL_sub (d : Ds) (left : Lit → Bool) : (fsL d left).Sublist d.fs := List.filter_sublist
theorem fsL_none {d : Ds} {left : Lit → Bool} (h : ∀ p ∈ d.fs, left (kS p.1) = true) : fsL d left = [] := List.filter_eq_nil_iff.2 fun p hp => by simp [h p hp]
theorem fsL_all {d : Ds} {left : Lit → Bool} (h : ∀ k, left k = false) : fsL d left = d.fs := List.filter_eq_self.2 fun p _ => by simp [h]
theorem filter_one {l : List (ByteArray × Fl)} {left left' : Lit → Bool} {s : ByteArray} {f : Fl} (hn : (l.map (·.1)).Nodup) (hf : (s, f) ∈ l) (hl : left (kS s) = true) (hl' : ∀ t : ByteArray, left' (kS t) = (left (kS t) && !decide (t = s))) :
    (l.filter fun p => !left' (kS p.1)).Perm ((s, f) :: l.filter fun p => !left (kS p.1)) := by
  induction l with
  | nil => simp at hf
  | cons p l ih =>
    rw [List.map_cons, List.nodup_cons] at hn
    rcases List.mem_cons.1 hf with rfl | hf1
    · have e : l.filter (fun p => !left' (kS p.1)) = l.filter fun p => !left (kS p.1) := List.filter_congr fun p hp => by
        have : p.1 ≠ s := fun e => hn.1 (List.mem_map.2 ⟨p, hp, e⟩)
        rw [hl']; simp [this]
      have e1 : (!left' (kS (s, f).1)) = true := by rw [hl']; simp
      have e2 : (!left (kS (s, f).1)) = false := by rw [hl]; rfl
      simp only [List.filter_cons, e1, e2, e, if_true]
      exact List.Perm.refl _
    · have hps : p.1 ≠ s := fun e => hn.1 (List.mem_map.2 ⟨(s, f), hf1, e.symm⟩)
      have e1 : left' (kS p.1) = left (kS p.1) := by rw [hl']; simp [hps]
      have h3 := ih hn.2 hf1
      simp only [List.filter_cons, e1]
      split
      · exact (h3.cons p).trans (List.Perm.swap _ _ _)
      · exact h3
theorem fsL_next {d : Ds} {left left' : Lit → Bool} {s : ByteArray} {f : Fl} (ok : d.ok) (hf : (s, f) ∈ d.fs) (hl : left (kS s) = true) (hl' : ∀ t : ByteArray, left' (kS t) = (left (kS t) && !decide (t = s))) : (fsL d left').Perm ((s, f) :: fsL d left) :=
  filter_one ok.names hf hl hl'
theorem tD_ok {d : Ds} (ok : d.ok) {fs : List (ByteArray × Fl)} (hs : fs.Sublist d.fs) {ws : List Wr} (hw : ∀ x ∈ ws, x ∈ d.ws) : (tD d fs ws).ok :=
  ⟨(hs.map _).nodup ok.names, (hs.map _).nodup ok.ids, Nat.le_trans hs.length_le ok.few, fun p hp => ok.short p (hs.subset hp), fun p hp => ok.now p (hs.subset hp), fun p hp => ok.safe p (hs.subset hp), fun x hx => ok.ws x (hw x hx), fun p hp => ok.next p (hs.subset hp)⟩
section
variable {w w' w1 : World} {base b : Nat} {d d' : Ds} {m m' : DM} {f : Fl} {vl vs : Value} {s : ByteArray}
/-- The place of a file that has come. -/
def grownM (m : DM) (id b : Nat) (D' : DataW Unit) (vl vs : Value) : DM := { m with D := D', ρ := fun i => if i = id then b else m.ρ i, R := setR m.R id vl vs }
/-- A file has come, whole. -/
theorem DiskAt.come {N : Nat} (h1 : DiskAt w1 base d m) (hN : ∀ q, mineD d m q → q < N) (hws : d.ws = []) {fs' : List (ByteArray × Fl)} (hperm : fs'.Perm ((s, f) :: d.fs)) (ok' : ({ d with fs := fs' } : Ds).ok) (hid : ∀ p ∈ d.fs, p.2.id ≠ f.id)
    (hF : FileAt w1 base b f vl vs) (hbn : N ≤ b) (hl : ∀ q, vl.ownBlock = some q → N ≤ q) (hs : ∀ q, vs.ownBlock = some q → N ≤ q) (hne : ∀ q, vl.ownBlock = some q → vs.ownBlock ≠ some q)
    {D' : DataW Unit} (hm : MapAt w' m.bm D' ((s, b) :: namesD d m)) (k : Frm (fun q => q = m.bm) w1 w') :
    DiskAt w' base { d with fs := fs' } (grownM m f.id b D' vl vs) := by
  have hbm : ∀ q t, TyAt w1 q t → ¬ q = m.bm := fun q t ht => h1.map.ne_ty ht
  have hρ : ∀ p ∈ d.fs, (grownM m f.id b D' vl vs).ρ p.2.id = m.ρ p.2.id := fun p hp => if_neg (hid p hp)
  have hR : ∀ p ∈ d.fs, ∀ k, (grownM m f.id b D' vl vs).R p.2.id k = m.R p.2.id k := fun p hp k => setR_other _ _ _ _ (hid p hp)
  have hρ0 : (grownM m f.id b D' vl vs).ρ f.id = b := by unfold grownM; simp
  have hR0 : ∀ k, (grownM m f.id b D' vl vs).R f.id k = if k then vl else vs := fun k => setR_same _ _ _ _ _
  have hmem : ∀ p ∈ fs', p ∈ d.fs ∨ p = (s, f) := fun p hp => by
    rcases List.mem_cons.1 (hperm.mem_iff.1 hp) with h | h
    · exact .inr h
    · exact .inl h
  have hoth : ∀ p ∈ d.fs, m.ρ p.2.id ≠ b := fun p hp e => by have := hN _ (.inr (.inr (.inr (.inr ⟨p, hp, .inl rfl⟩)))); omega
  have hold : ∀ p ∈ d.fs, ∀ (k : Bool) (q : Nat), (m.R p.2.id k).ownBlock = some q → q < N := fun p hp k q hq => hN q (.inr (.inr (.inr (.inr ⟨p, hp, .inr ⟨k, hq⟩⟩))))
  have hnew : ∀ (k : Bool) (q : Nat), ((grownM m f.id b D' vl vs).R f.id k).ownBlock = some q → N ≤ q := fun k q hq => by
    rw [hR0] at hq
    cases k
    · exact hs q hq
    · exact hl q hq
  refine ⟨ok', h1.blk.frm k (hbm _ _ h1.blk.ty), h1.lo, h1.lom, hm.perm ?_, ?_, own_frm h1.ok_ k (fun q hq => hbm _ _ (own_ty h1.ok_ hq)), fun p hp => ?_, fun p hp q hq e => ?_, fun p hp q hq k1 k2 c e1 e2 => ?_⟩
  · have e1 : d.fs.map (fun p => (p.1, (grownM m f.id b D' vl vs).ρ p.2.id)) = namesD d m := List.map_congr_left fun p hp => by rw [hρ p hp]
    have := (hperm.map (fun p : ByteArray × Fl => (p.1, (grownM m f.id b D' vl vs).ρ p.2.id))).symm
    rw [List.map_cons, e1] at this
    simp only [hρ0] at this
    exact this
  · have ho := h1.ow
    rw [hws] at ho
    show w'.ownsRow base _ 3 m.vw d.ws.length (flatW _ d.ws)
    rw [hws]
    exact own_frm ho k (fun q hq => hbm _ _ (own_ty ho hq))
  · rcases hmem p hp with hp | rfl
    · rw [hρ p hp, hR p hp, hR p hp]
      exact (h1.fs p hp).frm k (hbm _ _ (h1.ty_file hp)) (fun q hq => hbm _ _ ((h1.fs p hp).ty_l hq)) (fun q hq => hbm _ _ ((h1.fs p hp).ty_s hq))
    · rw [hρ0, hR0, hR0]
      exact hF.frm k (hbm _ _ hF.blk.ty) (fun q hq => hbm _ _ (hF.ty_l hq)) (fun q hq => hbm _ _ (hF.ty_s hq))
  · rcases hmem p hp with hp | rfl
    · rcases hmem q hq with hq | rfl
      · rw [hρ p hp, hρ q hq] at e; exact h1.inj p hp q hq e
      · rw [hρ p hp, hρ0] at e; exact absurd e (hoth p hp)
    · rcases hmem q hq with hq | rfl
      · rw [hρ0, hρ q hq] at e; exact absurd e.symm (hoth q hq)
      · rfl
  · rcases hmem p hp with hp | rfl
    · rcases hmem q hq with hq | rfl
      · rw [hR p hp] at e1; rw [hR q hq] at e2; exact h1.ap p hp q hq k1 k2 c e1 e2
      · rw [hR p hp] at e1
        have := hold p hp k1 c e1; have := hnew k2 c e2; omega
    · rcases hmem q hq with hq | rfl
      · rw [hR q hq] at e2
        have := hold q hq k2 c e2; have := hnew k1 c e1; omega
      · refine ⟨rfl, ?_⟩
        rw [hR0] at e1 e2
        cases k1 <;> cases k2
        · rfl
        · exact absurd e1 (hne c e2)
        · exact absurd e2 (hne c e1)
        · rfl
/-- A twin's beginning: no file, no write. -/
theorem DiskAt.start (d : Ds) (ok : d.ok) {g bm : Nat} {vk : Value} (hB : Blk w g 49 #[.map (some bm), .slice none 0 0, .bool d.off, .int .i64 d.room, .bool d.armed, .int .i64 d.left, vk]) (hg : base ≤ g) (hbm : base ≤ bm) (hm : MapAt w bm (.map []) []) (hk : w.ownsRow base 3 1 vk d.keep.length (flatZ d.keep)) :
    DiskAt w base (tD d [] []) ⟨g, bm, .map [], fun _ => 0, fun _ _ => .slice none 0 0, .slice none 0 0, vk⟩ :=
  ⟨tD_ok ok (List.nil_sublist _) (fun x hx => by simp at hx), hB, hg, hbm, hm, World.ownsRow_nil _ _ _ _, hk, fun p hp => by simp [tD] at hp, fun p hp => by simp [tD] at hp, fun p hp => by simp [tD] at hp⟩
/-- How far a twin has come: the files that are not still to come are there; the map from files to their twins; a range. -/
structure TwI (d : Ds) (m : DM) (left : Lit → Bool) (gg : List (Nat × Nat)) (mk : DM) (bt r : Nat) (w wx : World) : Prop where
  disk : DiskAt wx w.heap.size (tD d (fsL d left) []) mk
  pm : PM wx bt gg
  here : ∀ p ∈ fsL d left, (m.ρ p.2.id, mk.ρ p.2.id) ∈ gg
  nd : (gg.map (·.1)).Nodup
  only : ∀ q ∈ gg, ∃ p ∈ fsL d left, q.1 = m.ρ p.2.id
  below : Below w.heap.size w wx
  rlt : r < wx.heap.size
  bge : w.heap.size ≤ bt
  rge : w.heap.size ≤ r
  bnr : bt ≠ r
  ne : ∀ q, mineD (tD d (fsL d left) []) mk q → q ≠ bt ∧ q ≠ r
theorem TwI.turn {d : Ds} {m mk : DM} {left : Lit → Bool} {gg : List (Nat × Nat)} {bt r : Nat} {w wx w' : World} (h : TwI d m left gg mk bt r w wx) (H : DiskAt w base d m) (hgr : wx.grownBy w' (some r)) : TwI d m left gg mk bt r w w' := by
  have k : Frm (fun q => q = r) wx w' := (Frm.refl _ _).grown hgr fun k hk _ => by injection hk with hk; exact hk.symm
  refine ⟨h.disk.frm k fun q hq => (h.ne q hq).2, h.pm.frm k h.bnr fun q hq e => ?_, h.here, h.nd, h.only, below_of (k.below (B := r) (Nat.le_of_lt h.rlt) (fun i hi => by have hi : i = r := hi; omega)) h.below h.rge, Nat.lt_of_lt_of_le h.rlt k.size, h.bge, h.rge, h.bnr, h.ne⟩
  obtain ⟨p, hp, hq2⟩ := h.only q hq
  have h1 := (H.fs p ((fsL_sub d left).subset hp)).blk.lt
  have h2 := h.rge
  have e : q.1 = r := e
  omega
/-- One file more. -/
theorem TwI.step {d : Ds} {m mk : DM} {left left' : Lit → Bool} {gg : List (Nat × Nat)} {bt r : Nat} {w wx w2 w3 w5 w6 w7 : World} (h : TwI d m left gg mk bt r w wx) (H : DiskAt w base d m) {f : Fl} {s : ByteArray} (hf : (s, f) ∈ d.fs) (hl : left (kS s) = true) (hl' : ∀ t : ByteArray, left' (kS t) = (left (kS t) && !decide (t = s)))
    {B1 B2 : Option Addr} {q1 q2 : Nat} (ho1 : w2.ownsRow wx.heap.size 9 1 (.slice B1 f.now.length q1) f.now.length (strs f.now)) (b2 : Below wx.heap.size wx w2) (ho2 : w3.ownsRow w2.heap.size 9 1 (.slice B2 f.safe.length q2) f.safe.length (strs f.safe)) (b3 : Below w2.heap.size w2 w3)
    (hpm : PM w5 bt (gg ++ [(m.ρ f.id, w3.heap.size)])) (hg5 : (w3.alloc (.cells #[.slice B1 f.now.length q1, .slice B2 f.safe.length q2, .bool f.known] 58)).grownBy w5 (some bt)) (b6 : Below w5.heap.size w5 w6) {D' : DataW Unit} (hm7 : MapAt w7 mk.bm D' ((s, w3.heap.size) :: (namesD (tD d (fsL d left) []) mk).filter fun p => !decide (p.1 = s))) (hg7 : w6.grownBy w7 (some mk.bm)) :
    TwI d m left' (gg ++ [(m.ρ f.id, w3.heap.size)]) (grownM mk f.id w3.heap.size D' (.slice B1 f.now.length q1) (.slice B2 f.safe.length q2)) bt r w w7 := by
  have ok := H.ok
  have b23 : Below wx.heap.size wx w3 := b2.trans (b3.mono b2.size)
  have b4 : Below wx.heap.size wx (w3.alloc (.cells #[.slice B1 f.now.length q1, .slice B2 f.safe.length q2, .bool f.known] 58)) := b23.alloc b23.size _
  have k5 : Frm (fun q => q = bt) (w3.alloc (.cells #[.slice B1 f.now.length q1, .slice B2 f.safe.length q2, .bool f.known] 58)) w5 := (Frm.refl _ _).grown hg5 fun k hk _ => by injection hk with hk; exact hk.symm
  have k56 : Frm (fun q => q = bt) (w3.alloc (.cells #[.slice B1 f.now.length q1, .slice B2 f.safe.length q2, .bool f.known] 58)) w6 := k5.step b6
  have k7 : Frm (fun q => q = mk.bm) w6 w7 := (Frm.refl _ _).grown hg7 fun k hk _ => by injection hk with hk; exact hk.symm
  have hbtx : bt < wx.heap.size := h.pm.lt
  have hsz3 : (w3.alloc (.cells #[.slice B1 f.now.length q1, .slice B2 f.safe.length q2, .bool f.known] 58)).heap.size = w3.heap.size + 1 := by simp
  have D6 : DiskAt w6 w.heap.size (tD d (fsL d left) []) mk := (h.disk.below b4).frm k56 fun q hq => (h.ne q hq).1
  have hid0 : ∀ p ∈ fsL d left, p.2.id ≠ f.id := fun p hp e => by
    have h1 := (fsL_sub d left).subset hp
    have h2 := nodup_get (g := fun p : ByteArray × Fl => p.2.id) ok.ids h1 hf e
    have h3 := (List.mem_filter.1 hp).2
    rw [h2] at h3
    simp [hl] at h3
  have hnm0 : ∀ p ∈ fsL d left, p.1 ≠ s := fun p hp e => by
    have h1 := (fsL_sub d left).subset hp
    have h2 := nodup_get (g := fun p : ByteArray × Fl => p.1) ok.names h1 hf e
    have h3 := (List.mem_filter.1 hp).2
    rw [h2] at h3
    simp [hl] at h3
  have hfl : (namesD (tD d (fsL d left) []) mk).filter (fun p => !decide (p.1 = s)) = namesD (tD d (fsL d left) []) mk := List.filter_eq_self.2 fun p hp => by
    obtain ⟨q, hq, rfl⟩ := List.mem_map.1 hp
    simpa using hnm0 q hq
  rw [hfl] at hm7
  have hperm := fsL_next ok hf hl hl'
  have K6 : Blk w6 w3.heap.size 58 #[.slice B1 f.now.length q1, .slice B2 f.safe.length q2, .bool f.known] := (Blk.new w3 _ _).frm k56 (by have := b23.size; omega)
  have O1 : w6.ownsRow wx.heap.size 9 1 (.slice B1 f.now.length q1) f.now.length (strs f.now) := own_frm ((own_frm ho1 (S := no) (Frm.of_below b3) (fun _ _ h => h)).alloc _) k56 (fun q hq e => by have := (ho1.lt q hq).1; have e : q = bt := e; omega)
  have O2 : w6.ownsRow w2.heap.size 9 1 (.slice B2 f.safe.length q2) f.safe.length (strs f.safe) := own_frm (ho2.alloc _) k56 (fun q hq e => by have := (ho2.lt q hq).1; have := b2.size; have e : q = bt := e; omega)
  have hw1 := h.below.size
  have hF : FileAt w6 w.heap.size w3.heap.size f (.slice B1 f.now.length q1) (.slice B2 f.safe.length q2) := ⟨K6, by have := b23.size; omega, own_base O1 hw1, own_base O2 (by have := b2.size; omega)⟩
  have hlow : ∀ q, mineD (tD d (fsL d left) []) mk q → q < wx.heap.size := fun q hq => (h.disk.mine_lt q hq).2
  have DN := DiskAt.come (N := wx.heap.size) (fs' := fsL d left') D6 hlow rfl hperm (tD_ok (ws := []) ok (fsL_sub d left') (fun x hx => by simp at hx)) hid0 hF b23.size (fun q hq => (ho1.lt q hq).1) (fun q hq => by have := (ho2.lt q hq).1; have := b2.size; omega) (fun q hq e => by have h1 := (ho1.lt q hq).2; have h2 := (ho2.lt q e).1; omega) hm7 k7
  have hk7 : ∀ q ∈ gg ++ [(m.ρ f.id, w3.heap.size)], q.1 < w.heap.size := fun q hq => by
    rcases List.mem_append.1 hq with hq | hq
    · obtain ⟨p, hp, e⟩ := h.only q hq
      rw [e]; exact (H.fs p ((fsL_sub d left).subset hp)).blk.lt
    · rw [List.mem_singleton.1 hq]; exact (H.fs _ hf).blk.lt
  have hbm := h.disk.lom
  refine ⟨DN, (hpm.below b6).frm k7 (fun e => (h.ne mk.bm (.inr (.inl rfl))).1 e.symm) (fun q hq e => by have := hk7 q hq; have e : q.1 = mk.bm := e; omega), fun p hp => ?_, ?_, fun q hq => ?_, ?_, ?_, h.bge, h.rge, h.bnr, fun q hq => ?_⟩
  · rcases List.mem_cons.1 (hperm.mem_iff.1 hp) with rfl | hp
    · have e : (grownM mk f.id w3.heap.size D' (.slice B1 f.now.length q1) (.slice B2 f.safe.length q2)).ρ f.id = w3.heap.size := by unfold grownM; simp
      simp only [e]
      exact List.mem_append.2 (.inr (by simp))
    · have e : (grownM mk f.id w3.heap.size D' (.slice B1 f.now.length q1) (.slice B2 f.safe.length q2)).ρ p.2.id = mk.ρ p.2.id := if_neg (hid0 p hp)
      rw [e]
      exact List.mem_append.2 (.inl (h.here p hp))
  · rw [List.map_append, List.nodup_append]
    refine ⟨h.nd, by simp, fun a ha c hc e => ?_⟩
    obtain ⟨q, hq, rfl⟩ := List.mem_map.1 ha
    obtain ⟨p, hp, e2⟩ := h.only q hq
    simp at hc
    have e3 : m.ρ p.2.id = m.ρ f.id := by rw [← e2, e, hc]
    exact hid0 p hp (H.inj p ((fsL_sub d left).subset hp) (s, f) hf e3)
  · rcases List.mem_append.1 hq with hq | hq
    · obtain ⟨p, hp, e⟩ := h.only q hq
      exact ⟨p, hperm.mem_iff.2 (List.mem_cons.2 (.inr hp)), e⟩
    · exact ⟨(s, f), hperm.mem_iff.2 (by simp), by rw [List.mem_singleton.1 hq]⟩
  · refine below_of (k7.below (B := w.heap.size) ?_ (fun i hi => by have hi : i = mk.bm := hi; rw [hi]; exact hbm)) ?_ (Nat.le_refl _)
    · have := k56.size; have := b23.size; omega
    · refine below_of (k56.below (B := w.heap.size) (by have := b23.size; omega) (fun i hi => by have hi : i = bt := hi; rw [hi]; exact h.bge)) (h.below.trans (b4.mono hw1)) (Nat.le_refl _)
  · have := h.rlt; have := k56.size; have := k7.size; have := b23.size; omega
  · have hmem : mineD (tD d (fsL d left) []) mk q ∨ wx.heap.size ≤ q := by
      rcases hq with hq | hq | hq | hq | ⟨p, hp, hq⟩
      · exact .inl (.inl hq)
      · exact .inl (.inr (.inl hq))
      · exact .inl (.inr (.inr (.inl hq)))
      · exact .inl (.inr (.inr (.inr (.inl hq))))
      · rcases List.mem_cons.1 (hperm.mem_iff.1 hp) with rfl | hp
        · right
          rcases hq with hq | ⟨k, hq⟩
          · have e : (grownM mk f.id w3.heap.size D' (.slice B1 f.now.length q1) (.slice B2 f.safe.length q2)).ρ f.id = w3.heap.size := by unfold grownM; simp
            have hq' : q = (grownM mk f.id w3.heap.size D' (.slice B1 f.now.length q1) (.slice B2 f.safe.length q2)).ρ f.id := hq
            rw [e] at hq'; rw [hq']; exact b23.size
          · have hq' : ((grownM mk f.id w3.heap.size D' (.slice B1 f.now.length q1) (.slice B2 f.safe.length q2)).R f.id k).ownBlock = some q := hq
            rw [show (grownM mk f.id w3.heap.size D' (.slice B1 f.now.length q1) (.slice B2 f.safe.length q2)).R f.id k = if k then _ else _ from setR_same _ _ _ _ _] at hq'
            cases k
            · have := (ho2.lt q hq').1; have := b2.size; omega
            · exact (ho1.lt q hq').1
        · left
          refine .inr (.inr (.inr (.inr ⟨p, hp, ?_⟩)))
          rcases hq with hq | ⟨k, hq⟩
          · have e : (grownM mk f.id w3.heap.size D' (.slice B1 f.now.length q1) (.slice B2 f.safe.length q2)).ρ p.2.id = mk.ρ p.2.id := if_neg (hid0 p hp)
            exact .inl (by rw [← e]; exact hq)
          · have e : (grownM mk f.id w3.heap.size D' (.slice B1 f.now.length q1) (.slice B2 f.safe.length q2)).R p.2.id k = mk.R p.2.id k := setR_other _ _ _ _ (hid0 p hp)
            exact .inr ⟨k, by rw [← e]; exact hq⟩
    rcases hmem with hm | hm
    · exact h.ne q hm
    · have := h.rlt
      exact ⟨by omega, by omega⟩
end
end Go.Proofs.Ytfgpadikmnhldaa
