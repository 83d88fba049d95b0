/-
  What a disk's Write makes of a file and of the writes, in memory; plain words of it. Conditions: places and sectors as a file may have them.
-/
import Derived.Test.YtfgpadikmnhldaaDiskK
import Derived.Test.YtfgpadikmnhldaaDiskQ
namespace Go.Proofs.Ytfgpadikmnhldaa
open Go Go.RowKit

def nowX (xs : List ByteArray) (f : Fl) : Fl := { f with now := xs }
theorem updF_updF (fs : List (ByteArray × Fl)) (id : Nat) (g g' : Fl → Fl) (hg : ∀ f, (g f).id = f.id) : updF (updF fs id g) id g' = updF fs id fun f => g' (g f) := by
  unfold updF; rw [List.map_map]
  refine List.map_congr_left fun p _ => ?_
  simp only [Function.comp_apply]
  by_cases e : p.2.id = id
  · rw [if_pos e, if_pos (show (g p.2).id = id by rw [hg]; exact e), if_pos e]
  · rw [if_neg e, if_neg e, if_neg e]
theorem updF_congr {fs : List (ByteArray × Fl)} {id : Nat} {g g' : Fl → Fl} (h : ∀ p ∈ fs, p.2.id = id → g p.2 = g' p.2) : updF fs id g = updF fs id g' := by
  unfold updF
  refine List.map_congr_left fun p hp => ?_
  by_cases e : p.2.id = id
  · rw [if_pos e, if_pos e, h p hp e]
  · rw [if_neg e, if_neg e]
theorem updF_same {fs : List (ByteArray × Fl)} {id : Nat} {g : Fl → Fl} (h : ∀ p ∈ fs, p.2.id = id → g p.2 = p.2) : updF fs id g = fs := by
  unfold updF
  conv => rhs; rw [← List.map_id fs]
  refine List.map_congr_left fun p hp => ?_
  by_cases e : p.2.id = id
  · rw [if_pos e, h p hp e]; rfl
  · rw [if_neg e]; rfl
theorem only_f {d : Ds} (ok : d.ok) {s : ByteArray} {f : Fl} (hf : (s, f) ∈ d.fs) {p : ByteArray × Fl} (hp : p ∈ d.fs) (e : p.2.id = f.id) : p = (s, f) := nodup_get (g := fun p : ByteArray × Fl => p.2.id) ok.ids hp hf e
section
variable {w w' : World} {base b : Nat} {d d' : Ds} {m m' : DM} {f : Fl} {s x : ByteArray}
theorem ok_now (ok : d.ok) (_ : (s, f) ∈ d.fs) {xs : List ByteArray} (hl : xs.length ≤ 4001) (hs : ∀ y ∈ xs, y.size = 256) : ({ d with fs := updF d.fs f.id (nowX xs) } : Ds).ok :=
  ok.upd f.id (nowX xs) (fun _ => rfl) (fun _ _ _ => ⟨hl, hs⟩) (fun p hp _ => ok.safe p hp)
/-- A sector behind the last. -/
theorem DiskAt.grew (h : DiskAt w base d m) (hf : (s, f) ∈ d.fs) (hl : f.now.length ≤ 4000) (hx : x.size = 256) {w1 w6 : World} {v6 : Value} (b1 : Below w.heap.size w w1)
    (ho : w6.ownsRow base 9 1 v6 (f.now.length + 1) (strs f.now ++ [.string x])) (hg : w1.grownBy w6 (m.R f.id true).ownBlock) (hat : v6.ownBlock = (m.R f.id true).ownBlock ∨ v6.ownBlock = some w1.heap.size) :
    DiskAt (w6.setCell ⟨m.ρ f.id, 0, none⟩ v6) base { d with fs := updF d.fs f.id (nowX (f.now ++ [x])) } { m with R := setR m.R f.id v6 (m.R f.id false) } ∧
    Turn (mineD d m) w (mineD { d with fs := updF d.fs f.id (nowX (f.now ++ [x])) } { m with R := setR m.R f.id v6 (m.R f.id false) }) (w6.setCell ⟨m.ρ f.id, 0, none⟩ v6) := by
  have F0 := h.fs _ hf
  have F1 := (h.below b1).fs _ hf
  have s1 := b1.size
  have F6 : Frm (fun q => (m.R f.id true).ownBlock = some q) w1 w6 := (Frm.refl _ w1).grown hg (fun k hk _ => hk)
  have B6 : Blk w6 (m.ρ f.id) 58 #[m.R f.id true, m.R f.id false, .bool f.known] := F1.blk.frm F6 (fun e => F1.blk.own_ne F1.ol (by decide) e)
  have FS : Frm (at1 (m.ρ f.id)) w6 (w6.setCell ⟨m.ρ f.id, 0, none⟩ v6) := (Frm.refl (at1 (m.ρ f.id)) _).setCell (p := ⟨m.ρ f.id, 0, none⟩) (fun _ => rfl) _
  have FX : Frm (fun q => q = m.ρ f.id ∨ (m.R f.id true).ownBlock = some q ∨ (m.R f.id false).ownBlock = some q) w (w6.setCell ⟨m.ρ f.id, 0, none⟩ v6) :=
    ((Frm.of_below b1).then_ (F6.mono fun i _ hi => .inr (.inl hi))).then_ (FS.mono fun i _ hi => .inl hi)
  have FY : Frm (fun q => q = m.ρ f.id ∨ (m.R f.id true).ownBlock = some q) w (w6.setCell ⟨m.ρ f.id, 0, none⟩ v6) :=
    ((Frm.of_below b1).then_ (F6.mono fun i _ hi => .inr hi)).then_ (FS.mono fun i _ hi => .inl hi)
  have hap : ∀ q, (m.R f.id true).ownBlock = some q → (m.R f.id false).ownBlock ≠ some q := fun q h1 h2 => by
    have := (h.ap _ hf _ hf true false q h1 h2).2; cases this
  have hF : FileAt (w6.setCell ⟨m.ρ f.id, 0, none⟩ v6) base (m.ρ f.id) (nowX (f.now ++ [x]) f) v6 (m.R f.id false) := by
    refine ⟨by show Blk _ _ _ #[v6, m.R f.id false, .bool f.known]; simpa using B6.set_ 0 v6, F0.lo, ?_, own_frm F0.os FY fun q hq hs => ?_⟩
    · show World.ownsRow _ _ _ _ _ (f.now ++ [x]).length (strs (f.now ++ [x]))
      rw [List.length_append, strs_app]
      exact own_frm ho FS (fun q hq e => B6.own_ne ho (by decide) (e ▸ hq))
    · rcases hs with rfl | hs
      · exact F0.blk.own_ne F0.os (by decide) hq
      · exact hap q hs hq
  have ht := h.turn hf (nowX (f.now ++ [x])) (fun _ => rfl) (ok_now h.ok hf (by rw [List.length_append]; simp; omega) (fun y hy => by
    rcases List.mem_append.1 hy with hy | hy
    · exact (h.ok.now _ hf).2 y hy
    · rw [List.mem_singleton.1 hy]; exact hx)) FX hF (fun q hq => by
    rcases hat with e | e
    · rw [e] at hq; exact .inl hq
    · rw [e] at hq; injection hq with hq; exact .inr (by omega)) (fun q hq => .inl hq) (fun q hq hq2 => by
    rcases hat with e | e
    · rw [e] at hq; exact hap q hq hq2
    · rw [e] at hq; injection hq with hq
      have := (F0.os.lt q hq2).2
      omega)
  exact ⟨ht.1, ht.2.files rfl rfl rfl rfl⟩
/-- A sector that is there is another. -/
theorem DiskAt.putat (h : DiskAt w base d m) (hf : (s, f) ∈ d.fs) (hx : x.size = 256) {g n c p : Nat} (hv : m.R f.id true = .slice (some ⟨g, 0, none⟩) n c) (hn : f.now.length = n) (hp : p < n) :
    DiskAt (w.setCell ⟨g, p, none⟩ (.string x)) base { d with fs := updF d.fs f.id (nowX (f.now.set p x)) } { m with R := setR m.R f.id (m.R f.id true) (m.R f.id false) } ∧
    Turn (mineD d m) w (mineD { d with fs := updF d.fs f.id (nowX (f.now.set p x)) } { m with R := setR m.R f.id (m.R f.id true) (m.R f.id false) }) (w.setCell ⟨g, p, none⟩ (.string x)) := by
  have F0 := h.fs _ hf
  have hob : (m.R f.id true).ownBlock = some g := by rw [hv]; rfl
  have hgb : g ≠ m.ρ f.id := fun e => F0.blk.own_ne F0.ol (by decide) (by rw [hob, e])
  have FS : Frm (at1 g) w (w.setCell ⟨g, p, none⟩ (.string x)) := (Frm.refl (at1 g) _).setCell (p := ⟨g, p, none⟩) (fun _ => rfl) _
  have hap : ∀ q, (m.R f.id true).ownBlock = some q → (m.R f.id false).ownBlock ≠ some q := fun q h1 h2 => by
    have := (h.ap _ hf _ hf true false q h1 h2).2; cases this
  have ho := F0.ol
  simp only at ho
  rw [hv, hn] at ho
  have hF : FileAt (w.setCell ⟨g, p, none⟩ (.string x)) base (m.ρ f.id) (nowX (f.now.set p x) f) (m.R f.id true) (m.R f.id false) := by
    refine ⟨F0.blk.far (p := ⟨g, p, none⟩) (fun e => hgb e.symm) _, F0.lo, ?_, own_frm F0.os FS fun q hq e => ?_⟩
    · show World.ownsRow _ _ _ _ _ (f.now.set p x).length (strs (f.now.set p x))
      rw [List.length_set, hn, hv, ← strs_set]
      exact own_put ho (by omega)
    · have e : q = g := e
      exact hap g hob (e ▸ hq)
  have ht := h.turn hf (nowX (f.now.set p x)) (fun _ => rfl) (ok_now h.ok hf (by rw [List.length_set]; exact (h.ok.now _ hf).1) (fun y hy => by
    rcases List.mem_or_eq_of_mem_set hy with hy | rfl
    · exact (h.ok.now _ hf).2 y hy
    · exact hx)) (FS.mono fun q _ hq => .inr (.inl (by have hq : q = g := hq; rw [hob, hq]))) hF (fun q hq => .inl hq) (fun q hq => .inl hq) (fun q hq => hap q hq)
  exact ⟨ht.1, ht.2.files rfl rfl rfl rfl⟩
/-- A write more. -/
theorem DiskAt.wrote (h : DiskAt w base d m) {y : Wr} (hy : y.pos ≤ 4000 ∧ y.data.size = 256 ∧ y.id < d.next) {w1 w6 : World} {v6 : Value} (b1 : Below w.heap.size w w1)
    (ho : w6.ownsRow base 60 3 v6 (d.ws.length + 1) (flatW m.ρ d.ws ++ wcells m.ρ y)) (hg : w1.grownBy w6 m.vw.ownBlock) (hat : v6.ownBlock = m.vw.ownBlock ∨ v6.ownBlock = some w1.heap.size) :
    DiskAt (w6.setCell ⟨m.g, 1, none⟩ v6) base { d with ws := d.ws ++ [y] } { m with vw := v6, vk := m.vk } ∧ Turn (mineD d m) w (mineD { d with ws := d.ws ++ [y] } { m with vw := v6, vk := m.vk }) (w6.setCell ⟨m.g, 1, none⟩ v6) := by
  have h1 := h.below b1
  have s1 := b1.size
  have F6 : Frm (fun q => m.vw.ownBlock = some q) w1 w6 := (Frm.refl _ w1).grown hg (fun k hk _ => hk)
  have B6 := h1.blk.frm F6 (fun e => h1.blk.own_ne h1.ow (by decide) e)
  have FS : Frm (at1 m.g) w6 (w6.setCell ⟨m.g, 1, none⟩ v6) := (Frm.refl (at1 m.g) _).setCell (p := ⟨m.g, 1, none⟩) (fun _ => rfl) _
  have FX : Frm (fun q => q = m.g ∨ m.vw.ownBlock = some q ∨ m.vk.ownBlock = some q) w (w6.setCell ⟨m.g, 1, none⟩ v6) :=
    ((Frm.of_below b1).then_ (F6.mono fun i _ hi => .inr (.inl hi))).then_ (FS.mono fun i _ hi => .inl hi)
  have FY : Frm (fun q => q = m.g ∨ m.vw.ownBlock = some q) w (w6.setCell ⟨m.g, 1, none⟩ v6) :=
    ((Frm.of_below b1).then_ (F6.mono fun i _ hi => .inr hi)).then_ (FS.mono fun i _ hi => .inl hi)
  refine h.cells (d' := { d with ws := d.ws ++ [y] }) rfl ⟨h.ok.names, h.ok.ids, h.ok.few, h.ok.short, h.ok.now, h.ok.safe, fun z hz => ?_, h.ok.next⟩ FX (B6.set_ 1 v6) ?_ ?_ (fun q hq => ?_) (fun q hq => .inl hq)
  · rcases List.mem_append.1 hz with hz | hz
    · exact h.ok.ws z hz
    · rw [List.mem_singleton.1 hz]; exact hy
  · show World.ownsRow _ _ _ _ _ (d.ws ++ [y]).length (flatW m.ρ (d.ws ++ [y]))
    rw [List.length_append, flatW_app]
    have e : flatW m.ρ [y] = wcells m.ρ y := by unfold flatW; simp
    rw [e]
    exact own_frm ho FS (fun q hq e => B6.own_ne ho (by decide) (e ▸ hq))
  · refine own_frm h.ok_ FY fun q hq hs => ?_
    rcases hs with rfl | hs
    · exact h.blk.own_ne h.ok_ (by decide) hq
    · exact absurd ((own_ty h.ow hs).eq (own_ty h.ok_ hq)) (by decide)
  · rcases hat with e | e
    · rw [e] at hq; exact .inl hq
    · rw [e] at hq; injection hq with hq; exact .inr (by omega)
end
end Go.Proofs.Ytfgpadikmnhldaa
