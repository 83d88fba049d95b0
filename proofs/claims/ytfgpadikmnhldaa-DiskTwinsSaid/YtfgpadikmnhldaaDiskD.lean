/-
  A disk's forget. Conditions: it is a disk, each write's file is there; no more than a million writes.
-/
import Derived.Test.YtfgpadikmnhldaaDiskC
namespace Go.Proofs.Ytfgpadikmnhldaa
open Go Go.RowKit
attribute [local go_sem] cell_set_if

theorem DiskAt.fileB {w : World} {base : Nat} {d : Ds} {m : DM} (h : DiskAt w base d m) {p : ByteArray × Fl} (hp : p ∈ d.fs) : FileB w (m.ρ p.2.id) := ⟨_, (h.fs p hp).blk⟩
set_option maxRecDepth 100000 in
set_option maxHeartbeats 2000000 in
theorem dforget_any {base : Nat} {d : Ds} {m : DM} {s : ByteArray} {f : Fl} (w : World) (h : DiskAt w base d m) (hl : d.live) (hf : (s, f) ∈ d.fs) (hws : d.ws.length ≤ 1000000) (pos : Int) :
    Calls Try.prog 39 #[.pointer (some ⟨m.g, 0, none⟩), .pointer (some ⟨m.ρ f.id, 0, none⟩), .int .i64 pos] w fun e w' => e = .returned (.tuple #[]) ∧ ∃ vw', DiskAt w' base (forgetD d f.id pos) { m with vw := vw' } ∧ Turn (mineD d m) w (mineD (forgetD d f.id pos) { m with vw := vw' }) w' := by
  obtain ⟨A, c, hv, hc⟩ := own_form h.ow
  obtain ⟨n, hn⟩ : ∃ n, d.ws.length = n := ⟨_, rfl⟩
  rw [hn] at hv
  have b1 : Below w.heap.size w (w.alloc (.cells #[.pointer (some ⟨m.ρ f.id, 0, none⟩)] 55)) := (Below.refl _ _).alloc (Nat.le_refl _) _
  have b2 : Below w.heap.size w ((w.alloc (.cells #[.pointer (some ⟨m.ρ f.id, 0, none⟩)] 55)).alloc (.cells #[.int .i64 pos] 3)) := b1.alloc b1.size _
  have K1 := Blk.new w 55 #[.pointer (some ⟨m.ρ f.id, 0, none⟩)]
  have K2 := Blk.new (w.alloc (.cells #[.pointer (some ⟨m.ρ f.id, 0, none⟩)] 55)) 3 #[.int .i64 pos]
  have K1' := K1.alloc (.cells #[.int .i64 pos] 3)
  have hsz : (w.alloc (.cells #[.pointer (some ⟨m.ρ f.id, 0, none⟩)] 55)).heap.size = w.heap.size + 1 := by simp
  rw [hsz] at K2
  have HB2 := Lib.hid b2
  have H := Lib.hid h
  go_enter Try.func39, Try.ntmps39
  go_upto_region 1 with fail
  generalize (w.alloc (.cells #[.pointer (some ⟨m.ρ f.id, 0, none⟩)] 55)).alloc (.cells #[.int .i64 pos] 3) = W at K2 K1' b2 HB2 ⊢
  have h2 := h.below b2
  have c1 : W.cell? ⟨m.g, 1, none⟩ = some (.slice A n c) := by rw [← hv]; exact h2.blk.cell 1
  have ho : W.ownsRow base 60 3 (.slice A n c) n (flatW m.ρ d.ws) := by have := h2.ow; rw [hv, hn] at this; exact this
  have hne0 : (Value.slice A n c).ownBlock ≠ some w.heap.size := fun e => by have := (h.ow.lt w.heap.size (by rw [hv]; exact e)).2; omega
  have hne1 : (Value.slice A n c).ownBlock ≠ some (w.heap.size + 1) := fun e => by have := (h.ow.lt (w.heap.size + 1) (by rw [hv]; exact e)).2; omega
  have hdel := wdel_any m.ρ base n c w.heap.size (w.heap.size + 1) A d.ws (m.ρ f.id) pos W ho hn (K1'.cell 0) (K2.cell 0) hne0 hne1 (fun x hx => by
    obtain ⟨p, hp, e⟩ := hl x hx
    rw [← e]; exact h2.fileB hp) (h2.fileB hf) (by omega)
  have hflt : (d.ws.filter fun x => !(decide (m.ρ x.id = m.ρ f.id) && decide (pos ≤ (x.pos : Int)))) = (forgetD d f.id pos).ws := by
    unfold forgetD
    refine List.filter_congr fun x hx => ?_
    have e : decide (m.ρ x.id = m.ρ f.id) = decide (x.id = f.id) := by
      obtain ⟨p, hp, e⟩ := hl x hx
      rw [Bool.eq_iff_iff, decide_eq_true_eq, decide_eq_true_eq]
      exact ⟨fun e1 => by rw [← e] at e1 ⊢; exact h.inj p hp _ hf e1, fun e1 => by rw [e1]⟩
    rw [e]
  rw [hflt] at hdel
  have HDEL := Lib.hid hdel
  have H2 := Lib.hid h2
  have HO := Lib.hid ho
  have HV := Lib.hid hv
  have hok := Lib.hid (h.ok.forget f.id pos)
  have HSZ := Lib.hid h.ok
  clear K1 K1' K2 hne0 hne1 hdel hflt h2 h hl hf ho hv hsz b1 b2
  go_wp2_with (go_at_call 48; refine HDEL.out.mono ?_; rintro e w5 ⟨k, hk, hlen, rfl, o5, F5⟩
               have T5 : TyS W (fun k => (Value.slice A n c).ownBlock = some k) [60] := fun k _ hk => ⟨_, by simp, own_ty HO.out hk⟩
               have B5 := H2.out.blk.frm_ty F5 T5 (by decide)
               have z5 := B5.free 1
               have y5 : w5.cell? ⟨m.g, 1, none⟩ = some (.slice A n c) := by rw [← HV.out]; exact B5.cell 1)
  go_end0
  have FS : Frm (at1 m.g) w5 (w5.setCell ⟨m.g, 1, none⟩ (.slice A k c)) := (Frm.refl (at1 m.g) _).setCell (p := ⟨m.g, 1, none⟩) (fun _ => rfl) _
  have F6 : Frm (fun q => q = m.g ∨ m.vw.ownBlock = some q ∨ m.vk.ownBlock = some q) W (w5.setCell ⟨m.g, 1, none⟩ (.slice A k c)) := (F5.mono fun i _ hi => .inr (.inl (by rw [HV.out]; exact hi))).then_ (FS.mono fun i _ hi => .inl hi)
  have hsame : (Value.slice A k c).ownBlock = (Value.slice A n c).ownBlock := by cases A <;> rfl
  have r := H2.out.cells (d' := forgetD d f.id pos) (vw' := .slice A k c) (vk' := m.vk) rfl hok.out F6 (by
      have e : cellsD (forgetD d f.id pos) { m with vw := .slice A k c, vk := m.vk } = (cellsD d m).setIfInBounds 1 (.slice A k c) := rfl
      rw [e]; exact B5.set_ 1 _) (by
      rw [hlen]
      exact own_frm o5 FS (fun q hq e => B5.own_ne o5 (by decide) (e ▸ hq))) (by
      have o6 := own_frm_ty H2.out.ok_ F5 T5 (by decide)
      exact own_frm o6 FS (fun q hq e => B5.own_ne o6 (by decide) (e ▸ hq))) (fun q hq => .inl (by rw [HV.out, ← hsame]; exact hq)) (fun q hq => .inl hq)
  exact ⟨rfl, _, r.1, ((Turn.refl (mineD d m) w).step HB2.out).trans r.2⟩
end Go.Proofs.Ytfgpadikmnhldaa
