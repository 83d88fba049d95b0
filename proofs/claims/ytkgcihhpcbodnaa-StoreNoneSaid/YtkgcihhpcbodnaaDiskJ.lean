/-
  A disk's Remove. Conditions: it is a disk, each write's file is there; armed for a number; not too many writes.
-/
import Derived.Test.YtkgcihhpcbodnaaDiskI
namespace Go.Proofs.Ytkgcihhpcbodnaa
open Go Go.RowKit
attribute [local go_sem] cell_set_if

/-- A file's writes are forgotten, its name is deleted: it is gone. -/
theorem DiskAt.gone {w w' : World} {base : Nat} {d : Ds} {m : DM} {s : ByteArray} {f : Fl} {D' : DataW Unit} (h : DiskAt w base (forgetD d f.id 0) m) (hf : (s, f) ∈ d.fs) (hm : MapAt w' m.bm D' ((namesD (forgetD d f.id 0) m).filter fun p => !decide (p.1 = s))) (hg : w.grownBy w' (some m.bm)) :
    DiskAt w' base (dropD d f) { m with D := D' } ∧ Turn (mineD (forgetD d f.id 0) m) w (mineD (dropD d f) { m with D := D' }) w' := by
  have hn : (namesD (forgetD d f.id 0) m).filter (fun p => !decide (p.1 = s)) = namesD (dropD d f) m := names_filter (fs := d.fs) h.ok.names h.ok.ids hf (fun p => m.ρ p.2.id)
  rw [hn] at hm
  refine h.remap (d' := dropD d f) (fun p hp => ⟨p, (List.mem_filter.1 hp).1, rfl⟩) ?_ rfl rfl rfl rfl rfl rfl hm (List.Perm.refl _) ((Frm.refl _ _).grown hg fun k hk _ => by injection hk with hk; exact hk.symm)
  have hok : d.ok ∨ True := .inr trivial
  have hs : (d.fs.filter fun p => !decide (p.2.id = f.id)).Sublist d.fs := List.filter_sublist
  exact ⟨(hs.map _).nodup h.ok.names, (hs.map _).nodup h.ok.ids, Nat.le_trans hs.length_le h.ok.few, fun p hp => h.ok.short p (hs.subset hp), fun p hp => h.ok.now p (hs.subset hp), fun p hp => h.ok.safe p (hs.subset hp), h.ok.ws, fun p hp => h.ok.next p (hs.subset hp)⟩
end Go.Proofs.Ytkgcihhpcbodnaa
