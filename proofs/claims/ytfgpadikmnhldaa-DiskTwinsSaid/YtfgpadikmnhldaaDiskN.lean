/-
  A disk in memory: what becomes of it when its own cells turn, when its map turns, when a file is new. No condition of its own.
-/
import Derived.Test.YtfgpadikmnhldaaDiskM
namespace Go.Proofs.Ytfgpadikmnhldaa
open Go Go.RowKit
section
variable {w w' : World} {base b : Nat} {d d' : Ds} {m m' : DM} {f : Fl} {vl vs : Value} {S : Nat → Prop}
/-- Only the disk's own cells, its writes, its keep, have turned. -/
theorem DiskAt.cells (h : DiskAt w base d m) (hfs : d'.fs = d.fs) (ok' : d'.ok) {vw' vk' : Value} (k : Frm (fun q => q = m.g ∨ m.vw.ownBlock = some q ∨ m.vk.ownBlock = some q) w w')
    (blk' : Blk w' m.g 49 (cellsD d' { m with vw := vw', vk := vk' })) (ow' : w'.ownsRow base 60 3 vw' d'.ws.length (flatW m.ρ d'.ws)) (ok_' : w'.ownsRow base 3 1 vk' d'.keep.length (flatZ d'.keep))
    (hw : ∀ q, vw'.ownBlock = some q → m.vw.ownBlock = some q ∨ w.heap.size ≤ q) (hk : ∀ q, vk'.ownBlock = some q → m.vk.ownBlock = some q ∨ w.heap.size ≤ q) :
    DiskAt w' base d' { m with vw := vw', vk := vk' } ∧ Turn (mineD d m) w (mineD d' { m with vw := vw', vk := vk' }) w' := by
  have hT : ∀ q, (q = m.g ∨ m.vw.ownBlock = some q ∨ m.vk.ownBlock = some q) → TyAt w q 49 ∨ TyAt w q 60 ∨ TyAt w q 3 := fun q hq => by
    rcases hq with rfl | hq | hq
    · exact .inl h.blk.ty
    · exact .inr (.inl (own_ty h.ow hq))
    · exact .inr (.inr (own_ty h.ok_ hq))
  have hno : ∀ q t, TyAt w q t → t ≠ 49 → t ≠ 60 → t ≠ 3 → ¬ (q = m.g ∨ m.vw.ownBlock = some q ∨ m.vk.ownBlock = some q) := fun q t ht h1 h2 h3 hq => by
    rcases hT q hq with e | e | e
    · exact h1 (ht.eq e)
    · exact h2 (ht.eq e)
    · exact h3 (ht.eq e)
  refine ⟨⟨ok', blk', h.lo, h.lom, ?_, ow', ok_', fun p hp => ?_, fun p hp q hq => h.inj p (hfs ▸ hp) q (hfs ▸ hq), fun p hp q hq => h.ap p (hfs ▸ hp) q (hfs ▸ hq)⟩, k.mono fun q _ hq => ?_, fun q hq => ?_⟩
  · show MapAt w' m.bm m.D (d'.fs.map fun p => (p.1, m.ρ p.2.id))
    rw [hfs]
    refine h.map.frm k fun hq => ?_
    rcases hT _ hq with e | e | e <;> exact h.map.ne_ty e rfl
  · have hp' : p ∈ d.fs := hfs ▸ hp
    exact (h.fs p hp').frm k (hno _ _ (h.ty_file hp') (by decide) (by decide) (by decide)) (fun q hq => hno _ _ ((h.fs p hp').ty_l hq) (by decide) (by decide) (by decide)) (fun q hq => hno _ _ ((h.fs p hp').ty_s hq) (by decide) (by decide) (by decide))
  · rcases hq with rfl | hq | hq
    · exact .inl rfl
    · exact .inr (.inr (.inl hq))
    · exact .inr (.inr (.inr (.inl hq)))
  · rcases hq with hq | hq | hq | hq | ⟨p, hp, hq⟩
    · exact .inl (.inl hq)
    · exact .inl (.inr (.inl hq))
    · rcases hw q hq with h1 | h1
      · exact .inl (.inr (.inr (.inl h1)))
      · exact .inr h1
    · rcases hk q hq with h1 | h1
      · exact .inl (.inr (.inr (.inr (.inl h1))))
      · exact .inr h1
    · exact .inl (.inr (.inr (.inr (.inr ⟨p, hfs ▸ hp, hq⟩))))
/-- Only the disk's map has turned: files go, or have other names. -/
theorem DiskAt.remap (h : DiskAt w base d m) (hsub : ∀ p ∈ d'.fs, ∃ q ∈ d.fs, q.2 = p.2) (ok' : d'.ok) (e1 : d'.ws = d.ws) (e2 : d'.off = d.off) (e3 : d'.room = d.room) (e4 : d'.armed = d.armed) (e5 : d'.left = d.left) (e6 : d'.keep = d.keep)
    {D' : DataW Unit} {g' : Names} (hm : MapAt w' m.bm D' g') (hp : g'.Perm (namesD d' m)) (k : Frm (fun q => q = m.bm) w w') :
    DiskAt w' base d' { m with D := D' } ∧ Turn (mineD d m) w (mineD d' { m with D := D' }) w' := by
  have hno : ∀ q t, TyAt w q t → ¬ q = m.bm := fun q t ht => h.map.ne_ty ht
  refine ⟨⟨ok', ?_, h.lo, h.lom, hm.perm hp, ?_, ?_, fun p hp => ?_, fun p hp q hq e => ?_, fun p hp q hq k k' b h1 h2 => ?_⟩, k.mono fun q _ hq => .inr (.inl hq), fun q hq => ?_⟩
  · have := h.blk.frm k (hno _ _ h.blk.ty)
    unfold cellsD at this ⊢
    rw [e2, e3, e4, e5]; exact this
  · rw [e1]; exact own_frm h.ow k (fun q hq => hno _ _ (own_ty h.ow hq))
  · rw [e6]; exact own_frm h.ok_ k (fun q hq => hno _ _ (own_ty h.ok_ hq))
  · obtain ⟨q, hq, e⟩ := hsub p hp
    rw [← e]
    exact (h.fs q hq).frm k (hno _ _ (h.ty_file hq)) (fun b hb => hno _ _ ((h.fs q hq).ty_l hb)) (fun b hb => hno _ _ ((h.fs q hq).ty_s hb))
  · obtain ⟨p0, hp0, ep⟩ := hsub p hp
    obtain ⟨q0, hq0, eq⟩ := hsub q hq
    rw [← ep, ← eq] at e ⊢
    exact h.inj p0 hp0 q0 hq0 e
  · obtain ⟨p0, hp0, ep⟩ := hsub p hp
    obtain ⟨q0, hq0, eq⟩ := hsub q hq
    rw [← ep] at h1 ⊢
    rw [← eq] at h2 ⊢
    exact h.ap p0 hp0 q0 hq0 k k' b h1 h2
  · rcases hq with hq | hq | hq | hq | ⟨p, hp, hq⟩
    · exact .inl (.inl hq)
    · exact .inl (.inr (.inl hq))
    · exact .inl (.inr (.inr (.inl hq)))
    · exact .inl (.inr (.inr (.inr (.inl hq))))
    · obtain ⟨p0, hp0, ep⟩ := hsub p hp
      rw [← ep] at hq
      exact .inl (.inr (.inr (.inr (.inr ⟨p0, hp0, hq⟩))))
/-- The place of a file that is new. -/
def newR (m : DM) (id b : Nat) (D' : DataW Unit) : DM := { m with D := D', ρ := fun i => if i = id then b else m.ρ i, R := setR m.R id (.slice none 0 0) (.slice none 0 0) }
/-- A file is new. -/
theorem DiskAt.add (h : DiskAt w base d m) {s : ByteArray} (hs : ∀ p ∈ d.fs, p.1 ≠ s) (few : d.fs.length < 60) (hsh : 1 ≤ s.size ∧ s.size ≤ 40) {w1 : World} (hb1 : Below w.heap.size w w1) (hbb : base ≤ w.heap.size) (hB : Blk w1 b 58 #[.slice none 0 0, .slice none 0 0, .bool false]) (hbn : w.heap.size ≤ b)
    {D' : DataW Unit} (hm : MapAt w' m.bm D' ((s, b) :: (namesD d m).filter fun p => !decide (p.1 = s))) (k : Frm (fun q => q = m.bm) w1 w') :
    DiskAt w' base { d with fs := d.fs ++ [(s, ⟨d.next, [], [], false⟩)], next := d.next + 1 } (newR m d.next b D') ∧ Turn (mineD d m) w (mineD { d with fs := d.fs ++ [(s, ⟨d.next, [], [], false⟩)], next := d.next + 1 } (newR m d.next b D')) w' := by
  have h1 := h.below hb1
  have hbm : ∀ q t, TyAt w1 q t → ¬ q = m.bm := fun q t ht => h1.map.ne_ty ht
  have hlt := hb1.size
  have hid : ∀ p ∈ d.fs, p.2.id ≠ d.next := fun p hp e => by have := h.ok.next p hp; omega
  have hρ : ∀ p ∈ d.fs, (newR m d.next b D').ρ p.2.id = m.ρ p.2.id := fun p hp => if_neg (hid p hp)
  have hR : ∀ p ∈ d.fs, ∀ k, (newR m d.next b D').R p.2.id k = m.R p.2.id k := fun p hp k => setR_other _ _ _ _ (hid p hp)
  have hmem : ∀ p ∈ d.fs ++ [((s, ⟨d.next, [], [], false⟩) : ByteArray × Fl)], p ∈ d.fs ∨ p = (s, ⟨d.next, [], [], false⟩) := fun p hp => by
    rcases List.mem_append.1 hp with hp | hp
    · exact .inl hp
    · exact .inr (by simpa using hp)
  have hoth : ∀ p ∈ d.fs, m.ρ p.2.id ≠ b := fun p hp e => by have := (h.fs p hp).blk.lt; omega
  have hnil : ∀ k q, ((newR m d.next b D').R d.next k).ownBlock ≠ some q := fun k q hq => by
    have : (newR m d.next b D').R d.next k = .slice none 0 0 := by show setR _ _ _ _ _ _ = _; rw [setR_same]; cases k <;> rfl
    rw [this] at hq; simp [Value.ownBlock] at hq
  have hfl : (namesD d m).filter (fun p => !decide (p.1 = s)) = namesD d m := List.filter_eq_self.2 fun p hp => by
    obtain ⟨q, hq, rfl⟩ := List.mem_map.1 hp
    simpa using hs q hq
  rw [hfl] at hm
  refine ⟨⟨⟨?_, ?_, ?_, fun p hp => ?_, fun p hp => ?_, fun p hp => ?_, fun x hx => ?_, fun p hp => ?_⟩, ?_, h.lo, h.lom, hm.perm ?_, ?_, own_frm h1.ok_ k (fun q hq => hbm _ _ (own_ty h1.ok_ hq)), fun p hp => ?_, fun p hp q hq e => ?_, fun p hp q hq k1 k2 c e1 e2 => ?_⟩, ((Frm.of_below (S := mineD d m) hb1).trans k fun i _ hi => .inr (.inl hi)), fun q hq => ?_⟩
  · show ((d.fs ++ [((s, ⟨d.next, [], [], false⟩) : ByteArray × Fl)]).map (·.1)).Nodup
    rw [List.map_append, List.nodup_append]
    refine ⟨h.ok.names, by simp, fun a ha c hc e => ?_⟩
    obtain ⟨p, hp, rfl⟩ := List.mem_map.1 ha
    simp at hc
    exact hs p hp (e.trans hc)
  · show ((d.fs ++ [((s, ⟨d.next, [], [], false⟩) : ByteArray × Fl)]).map (·.2.id)).Nodup
    rw [List.map_append, List.nodup_append]
    refine ⟨h.ok.ids, by simp, fun a ha c hc e => ?_⟩
    obtain ⟨p, hp, rfl⟩ := List.mem_map.1 ha
    simp at hc
    exact hid p hp (e.trans hc)
  · show (d.fs ++ [((s, ⟨d.next, [], [], false⟩) : ByteArray × Fl)]).length ≤ 60
    rw [List.length_append]; simp; omega
  · rcases hmem p hp with hp | rfl
    · exact h.ok.short p hp
    · exact hsh
  · rcases hmem p hp with hp | rfl
    · exact h.ok.now p hp
    · exact ⟨by simp, by simp⟩
  · rcases hmem p hp with hp | rfl
    · exact h.ok.safe p hp
    · exact ⟨by simp, by simp⟩
  · obtain ⟨a1, a2, a3⟩ := h.ok.ws x hx
    exact ⟨a1, a2, by show x.id < d.next + 1; omega⟩
  · rcases hmem p hp with hp | rfl
    · have := h.ok.next p hp; show p.2.id < d.next + 1; omega
    · show d.next < d.next + 1; omega
  · exact h1.blk.frm k (hbm _ _ h1.blk.ty)
  · show ((s, b) :: namesD d m).Perm ((d.fs ++ [((s, ⟨d.next, [], [], false⟩) : ByteArray × Fl)]).map fun p => (p.1, (newR m d.next b D').ρ p.2.id))
    rw [List.map_append]
    have e1 : d.fs.map (fun p => (p.1, (newR m d.next b D').ρ p.2.id)) = namesD d m := List.map_congr_left fun p hp => by rw [hρ p hp]
    have e2 : [((s, (⟨d.next, [], [], false⟩ : Fl)) : ByteArray × Fl)].map (fun p => (p.1, (newR m d.next b D').ρ p.2.id)) = [(s, b)] := by
      show [(s, (newR m d.next b D').ρ d.next)] = _
      unfold newR; simp
    rw [e1, e2]
    exact (List.perm_append_singleton (s, b) (namesD d m)).symm
  · show w'.ownsRow base _ 3 m.vw d.ws.length (flatW (newR m d.next b D').ρ d.ws)
    rw [flatW_congr (ρ' := (newR m d.next b D').ρ) (ρ := m.ρ) fun x hx => by
      have := (h.ok.ws x hx).2.2
      exact if_neg (by omega)]
    exact own_frm h1.ow k (fun q hq => hbm _ _ (own_ty h1.ow hq))
  · rcases hmem p hp with hp | rfl
    · rw [hρ p hp, hR p hp, hR p hp]
      exact (h1.fs p hp).frm k (hbm _ _ (h1.ty_file hp)) (fun q hq => hbm _ _ ((h1.fs p hp).ty_l hq)) (fun q hq => hbm _ _ ((h1.fs p hp).ty_s hq))
    · have e1 : (newR m d.next b D').ρ d.next = b := by unfold newR; simp
      have e2 : ∀ k, (newR m d.next b D').R d.next k = .slice none 0 0 := fun k => by show setR _ _ _ _ _ _ = _; rw [setR_same]; cases k <;> rfl
      show FileAt w' base ((newR m d.next b D').ρ d.next) _ ((newR m d.next b D').R d.next true) ((newR m d.next b D').R d.next false)
      rw [e1, e2, e2]
      exact ⟨hB.frm k (hbm _ _ hB.ty), by omega, World.ownsRow_nil _ _ _ _, World.ownsRow_nil _ _ _ _⟩
  · have hb' : (newR m d.next b D').ρ d.next = b := by unfold newR; simp
    rcases hmem p hp with hp | rfl
    · rcases hmem q hq with hq | rfl
      · rw [hρ p hp, hρ q hq] at e; exact h.inj p hp q hq e
      · have e' : (newR m d.next b D').ρ p.2.id = (newR m d.next b D').ρ d.next := e
        rw [hρ p hp, hb'] at e'; exact absurd e' (hoth p hp)
    · rcases hmem q hq with hq | rfl
      · have e' : (newR m d.next b D').ρ d.next = (newR m d.next b D').ρ q.2.id := e
        rw [hρ q hq, hb'] at e'; exact absurd e'.symm (hoth q hq)
      · rfl
  · rcases hmem p hp with hp | rfl
    · rcases hmem q hq with hq | rfl
      · rw [hR p hp] at e1; rw [hR q hq] at e2; exact h.ap p hp q hq k1 k2 c e1 e2
      · exact absurd e2 (hnil k2 c)
    · exact absurd e1 (hnil k1 c)
  · rcases hq with hq | hq | hq | hq | ⟨p, hp, hq⟩
    · exact .inl (.inl hq)
    · exact .inl (.inr (.inl hq))
    · exact .inl (.inr (.inr (.inl hq)))
    · exact .inl (.inr (.inr (.inr (.inl hq))))
    · rcases hmem p hp with hp | rfl
      · rcases hq with hq | ⟨k, hq⟩
        · rw [hρ p hp] at hq; exact .inl (.inr (.inr (.inr (.inr ⟨p, hp, .inl hq⟩))))
        · rw [hR p hp] at hq; exact .inl (.inr (.inr (.inr (.inr ⟨p, hp, .inr ⟨k, hq⟩⟩))))
      · rcases hq with hq | ⟨k, hq⟩
        · have hq' : q = (newR m d.next b D').ρ d.next := hq
          have : (newR m d.next b D').ρ d.next = b := by unfold newR; simp
          rw [this] at hq'; exact .inr (by omega)
        · exact absurd hq (hnil k q)
end
end Go.Proofs.Ytfgpadikmnhldaa
