/-
  A disk behind its pointer alone: what each call tells, and what it leaves, in plain words. Conditions: as each call's own contract.
-/
import Derived.Test.YtfgpadikmnhldaaDiskU
namespace Go.Proofs.Ytfgpadikmnhldaa
open Go Go.RowKit

/-- A disk lies behind g. -/
def LiveAt (w : World) (base : Nat) (d : Ds) (g : Nat) : Prop := base ≤ w.heap.size ∧ ∃ m : DM, m.g = g ∧ DiskAt w base d m
section
variable {w w' : World} {base g : Nat} {d d' : Ds}
theorem LiveAt.of_did {m : DM} (h : DiskAt w base d m) (hb : base ≤ w.heap.size) (k : DidD w base d m d' w') : LiveAt w' base d' m.g ∧ Below base w w' := by
  obtain ⟨m', hg, D, T⟩ := k
  have b := T.below hb fun q hq => (h.mine_lt q hq).1
  exact ⟨⟨Nat.le_trans hb b.size, m', hg, D⟩, b⟩
theorem LiveAt.below (h : LiveAt w base d g) (k : Below w.heap.size w w') : LiveAt w' base d g := by
  obtain ⟨hb, m, hg, D⟩ := h
  exact ⟨Nat.le_trans hb k.size, m, hg, D.below k⟩
theorem lnew (room : Int) (w : World) : Calls Try.prog 6 #[.int .i64 room] w fun e w' => ∃ g, e = .returned (.pointer (some ⟨g, 0, none⟩)) ∧ LiveAt w' w.heap.size (newD room) g ∧ Below w.heap.size w w' :=
  (dnew_any room w).mono fun _ _ ⟨m, he, D, b⟩ => ⟨m.g, he, ⟨b.size, m, rfl, D⟩, b⟩
theorem lwrite {s x : ByteArray} {pos e0 : Int} (h : LiveAt w base d g) (hf : d.fine) (hx : x.size ≤ 281474976710656) (he : writeD d s pos x = (e0, d')) :
    Calls Try.prog 16 #[.pointer (some ⟨g, 0, none⟩), .string s, .int .i64 pos, .string x] w fun e w' => e = .returned (.int .i64 e0) ∧ LiveAt w' base d' g ∧ Below base w w' := by
  obtain ⟨hb, m, rfl, D⟩ := h
  refine (dwrite_any s pos x w D hf hb hx).mono fun e w' ⟨h1, h2⟩ => ?_
  rw [he] at h1 h2
  exact ⟨h1, LiveAt.of_did D hb h2⟩
theorem lsync {s : ByteArray} {e0 : Int} (h : LiveAt w base d g) (hf : d.fine) (he : syncD d s = (e0, d')) :
    Calls Try.prog 21 #[.pointer (some ⟨g, 0, none⟩), .string s] w fun e w' => e = .returned (.int .i64 e0) ∧ LiveAt w' base d' g ∧ Below base w w' := by
  obtain ⟨hb, m, rfl, D⟩ := h
  refine (dsync_any s w D hf).mono fun e w' ⟨h1, h2⟩ => ?_
  rw [he] at h1 h2
  exact ⟨h1, LiveAt.of_did D hb h2⟩
theorem lremove {s : ByteArray} {e0 : Int} (h : LiveAt w base d g) (hf : d.fine) (he : removeD d s = (e0, d')) :
    Calls Try.prog 24 #[.pointer (some ⟨g, 0, none⟩), .string s] w fun e w' => e = .returned (.int .i64 e0) ∧ LiveAt w' base d' g ∧ Below base w w' := by
  obtain ⟨hb, m, rfl, D⟩ := h
  refine (dremove_any s w D hf).mono fun e w' ⟨h1, h2⟩ => ?_
  rw [he] at h1 h2
  exact ⟨h1, LiveAt.of_did D hb h2⟩
theorem lrename {s t : ByteArray} {e0 : Int} (h : LiveAt w base d g) (hf : d.fine) (he : renameD d s t = (e0, d')) :
    Calls Try.prog 23 #[.pointer (some ⟨g, 0, none⟩), .string s, .string t] w fun e w' => e = .returned (.int .i64 e0) ∧ LiveAt w' base d' g ∧ Below base w w' := by
  obtain ⟨hb, m, rfl, D⟩ := h
  refine (drename_any s t w D hf).mono fun e w' ⟨h1, h2⟩ => ?_
  rw [he] at h1 h2
  exact ⟨h1, LiveAt.of_did D hb h2⟩
theorem lcrash {A : Option Addr} {n c k : Nat} {keep : List Int} (h : LiveAt w base d g) (hf : d.fine) (hr : Rd w A (flatZ keep)) (hn : keep.length = n) (hm : n ≤ 1000000) (hA : 0 < n → ∀ a, A = some a → a.block < base ∨ TyAt w a.block 3) (he : crashD d keep = (k, d')) :
    Calls Try.prog 17 #[.pointer (some ⟨g, 0, none⟩), .slice A n c] w fun e w' => e = .returned (.int .i64 (k : Nat)) ∧ LiveAt w' base d' g ∧ Below base w w' := by
  obtain ⟨hb, m, rfl, D⟩ := h
  refine (dcrash_any A n c keep w D hf.live (by have := hf.ws; omega) hr hn hm hA).mono fun e w' ⟨h1, h2⟩ => ?_
  rw [he] at h1 h2
  exact ⟨h1, LiveAt.of_did D hb h2⟩
theorem lrestore (h : LiveAt w base d g) : Calls Try.prog 18 #[.pointer (some ⟨g, 0, none⟩)] w fun e w' => e = .returned (.tuple #[]) ∧ LiveAt w' base (restoreD d) g ∧ Below base w w' := by
  obtain ⟨hb, m, rfl, D⟩ := h
  exact (drestore_any w D).mono fun e w' ⟨h1, h2, h3⟩ => ⟨h1, LiveAt.of_did D hb ⟨m, rfl, h2, h3⟩⟩
theorem lon {b : Bool} (h : LiveAt w base d g) (he : (!d.off) = b) : Calls Try.prog 13 #[.pointer (some ⟨g, 0, none⟩)] w fun e w' => e = .returned (.bool b) ∧ w' = w := by
  obtain ⟨_, m, rfl, D⟩ := h
  rw [← he]; exact don_any w D
theorem lread {s x : ByteArray} {pos e0 : Int} (h : LiveAt w base d g) (he : readD d s pos = (x, e0)) :
    Calls Try.prog 19 #[.pointer (some ⟨g, 0, none⟩), .string s, .int .i64 pos] w fun e w' => e = .returned (.tuple #[.string x, .int .i64 e0]) ∧ Below w.heap.size w w' := by
  obtain ⟨_, m, rfl, D⟩ := h
  have := dread_any s pos w D
  rw [he] at this; exact this
theorem lsize {s : ByteArray} {n e0 : Int} (h : LiveAt w base d g) (he : sizeD d s = (n, e0)) :
    Calls Try.prog 20 #[.pointer (some ⟨g, 0, none⟩), .string s] w fun e w' => e = .returned (.tuple #[.int .i64 n, .int .i64 e0]) ∧ Below w.heap.size w w' := by
  obtain ⟨_, m, rfl, D⟩ := h
  have := dsize_any s w D
  rw [he] at this; exact this
end
/-! The law's first calls, in plain words. -/
section
variable (x : ByteArray)
def al1 : Ds := ⟨[(⟨#[97]⟩, ⟨0, [x], [], false⟩)], [⟨0, 0, x⟩], false, 0, false, 0, [], 1⟩
def al2 : Ds := ⟨[(⟨#[97]⟩, ⟨0, [x], [x], true⟩)], [], true, 0, false, 0, [], 1⟩
def al3 : Ds := ⟨[(⟨#[97]⟩, ⟨0, [x], [x], true⟩)], [], false, 0, false, 0, [], 1⟩
def al4 : Ds := ⟨[(⟨#[97]⟩, ⟨0, [x], [x], true⟩), (⟨#[98]⟩, ⟨1, [x], [], false⟩)], [⟨1, 0, x⟩], false, 0, false, 0, [], 2⟩
def al5 : Ds := ⟨[(⟨#[97]⟩, ⟨0, [x], [x], true⟩)], [], true, 0, false, 0, [], 2⟩
def al6 : Ds := ⟨[(⟨#[97]⟩, ⟨0, [x], [x], true⟩)], [], false, 0, false, 0, [], 2⟩
variable {x}
theorem redo_empty (hx : x.size = 256) : redoL [] 0 x 256 = [x] := by
  unfold redoL padTo
  have h1 : x.extract 0 256 = x := by
    apply ByteArray.ext; rw [ByteArray.data_extract]
    exact Array.extract_eq_self_of_le (by have : x.data.size = 256 := hx; omega)
  simp [h1]
theorem al_1 (hx : x.size = 256) : writeD (newD 0) ⟨#[97]⟩ 0 x = (0, al1 x) := by
  have : writeD (newD 0) ⟨#[97]⟩ 0 x = if x.size ≠ 256 then (1, newD 0) else (0, al1 x) := rfl
  rw [this, if_neg (by omega)]
theorem al_2 (hx : x.size = 256) : crashD (al1 x) [256] = (0, al2 x) := by
  have : crashD (al1 x) [256] = (0, ⟨[(⟨#[97]⟩, ⟨0, redoL [] 0 x 256, redoL [] 0 x 256, true⟩)], [], true, 0, false, 0, [], 1⟩) := rfl
  rw [this, redo_empty hx]; rfl
theorem al_3 : restoreD (al2 x) = al3 x := rfl
theorem al_4 : readD (al3 x) ⟨#[97]⟩ 0 = (x, 0) := rfl
theorem al_5 (hx : x.size = 256) : writeD (al3 x) ⟨#[98]⟩ 0 x = (0, al4 x) := by
  have : writeD (al3 x) ⟨#[98]⟩ 0 x = if x.size ≠ 256 then (1, al3 x) else (0, al4 x) := rfl
  rw [this, if_neg (by omega)]
theorem al_6 : crashD (al4 x) [] = (1, al5 x) := rfl
theorem al_7 : restoreD (al5 x) = al6 x := rfl
theorem al_8 : sizeD (al6 x) ⟨#[98]⟩ = (0, 8) := rfl
theorem fine_new : (newD 0).fine := ⟨newD_live _, newD_rd _, by simp [newD], by simp [newD]⟩
theorem fine_1 : (al1 x).fine := ⟨fun y hy => ⟨(⟨#[97]⟩, ⟨0, [x], [], false⟩), by simp [al1], by simp [al1] at hy; rw [hy]⟩, fun h => by simp [al1] at h, by simp [al1], by simp [al1]⟩
theorem fine_3 : (al3 x).fine := ⟨fun y hy => by simp [al3] at hy, fun h => by simp [al3] at h, by simp [al3], by simp [al3]⟩
theorem fine_4 : (al4 x).fine := ⟨fun y hy => ⟨(⟨#[98]⟩, ⟨1, [x], [], false⟩), by simp [al4], by simp [al4] at hy; rw [hy]⟩, fun h => by simp [al4] at h, by simp [al4], by simp [al4]⟩
end
end Go.Proofs.Ytfgpadikmnhldaa
