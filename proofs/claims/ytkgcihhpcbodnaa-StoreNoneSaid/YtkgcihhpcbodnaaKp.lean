/-
  Blocks of other types stay: what a disk's calls leave alone. Conditions: as each call's own contract.
-/
import Derived.Test.YtkgcihhpcbodnaaDiskVA
namespace Go.Proofs.Ytkgcihhpcbodnaa
open Go Go.RowKit

/-- Every block of a type that is not in Ts is as it was. -/
def Kp (Ts : List TypeId) (w w' : World) : Prop := w.heap.size ≤ w'.heap.size ∧ ∀ q t, TyAt w q t → t ∉ Ts → w'.heap[q]? = w.heap[q]?
section
variable {Ts Us : List TypeId} {w w1 w2 w' : World}
theorem Kp.refl (Ts : List TypeId) (w : World) : Kp Ts w w := ⟨Nat.le_refl _, fun _ _ _ _ => rfl⟩
theorem TyAt.kp {q : Nat} {t : TypeId} (h : TyAt w q t) (k : Kp Ts w w') (ht : t ∉ Ts) : TyAt w' q t := by
  have e := k.2 q t h ht
  obtain ⟨cs, fr, h⟩ := h
  exact ⟨cs, fr, e.trans h⟩
theorem Kp.trans (h : Kp Ts w w1) (k : Kp Ts w1 w2) : Kp Ts w w2 := ⟨Nat.le_trans h.1 k.1, fun q t hq ht => (k.2 q t (hq.kp h ht) ht).trans (h.2 q t hq ht)⟩
theorem Kp.mono (h : Kp Ts w w') (hs : ∀ t ∈ Ts, t ∈ Us) : Kp Us w w' := ⟨h.1, fun q t hq ht => h.2 q t hq fun hm => ht (hs t hm)⟩
theorem Kp.of_below (h : Below w.heap.size w w') : Kp Ts w w' := ⟨h.size, fun q _ hq _ => h.block q hq.lt⟩
theorem Kp.step (h : Kp Ts w w1) (k : Below w1.heap.size w1 w2) : Kp Ts w w2 := h.trans (Kp.of_below k)
theorem Kp.set {q : Nat} {t : TypeId} (h : TyAt w q t) (ht : t ∈ Ts) (i : Nat) (u : Value) : Kp Ts w (w.setCell ⟨q, i, none⟩ u) :=
  ⟨by simp [World.setCell], fun q' t' hq' ht' => Below.heap_setCell _ _ _ _ (by
    rintro rfl
    exact ht' (by rw [hq'.eq h]; exact ht))⟩
theorem Blk.kp {g : Nat} {t : TypeId} {cs : Array Value} (h : Blk w g t cs) (k : Kp Ts w w') (ht : t ∉ Ts) : Blk w' g t cs := (k.2 g t h.ty ht).trans h
theorem own_kp {base n s : Nat} {e : TypeId} {v : Value} {xs : List Value} (h : w.ownsRow base e s v n xs) (k : Kp Ts w w') (ht : e ∉ Ts) : w'.ownsRow base e s v n xs := by
  refine ⟨h.1, ?_⟩
  have hty := fun q hq => own_ty h (q := q) hq
  rcases h.2 with h0 | ⟨g, cap, cur, rfl, hb, hh, r⟩
  · exact .inl h0
  · exact .inr ⟨g, cap, cur, rfl, hb, (k.2 g e (hty g rfl) ht).trans hh, r⟩
/-- The types of a disk's own blocks. -/
def dTys : List TypeId := [69, 72, 3, 77, 9]
variable {base g : Nat} {d d' : Ds} {m : DM}
theorem DiskAt.mine_ty (h : DiskAt w base d m) {q : Nat} (hq : mineD d m q) {t : TypeId} (ht : TyAt w q t) : t ∈ dTys := by
  unfold dTys
  rcases hq with rfl | rfl | hq | hq | ⟨p, hp, rfl | ⟨k, hq⟩⟩
  · rw [ht.eq h.blk.ty]; decide
  · exact absurd rfl (h.map.ne_ty ht)
  · rw [ht.eq (own_ty h.ow hq)]; decide
  · rw [ht.eq (own_ty h.ok_ hq)]; decide
  · rw [ht.eq (h.ty_file hp)]; decide
  · rw [ht.eq (h.ty_row hp hq)]; decide
theorem DidD.kp (h : DiskAt w base d m) (k : DidD w base d m d' w') : Kp dTys w w' := by
  obtain ⟨m', _, _, T⟩ := k
  exact ⟨T.frm.size, fun q t hq ht => T.frm.block q hq.lt fun hm => ht (h.mine_ty hm hq)⟩
theorem kwrite {s x : ByteArray} {pos e0 : Int} (h : LiveAt w base d g) (hf : d.fine) (hx : x.size ≤ 281474976710656) (he : writeD d s pos x = (e0, d')) :
    Calls Try.prog 32 #[.pointer (some ⟨g, 0, none⟩), .string s, .int .i64 pos, .string x] w fun e w' => e = .returned (.int .i64 e0) ∧ LiveAt w' base d' g ∧ Below base w w' ∧ Kp dTys w w' := by
  obtain ⟨hb, m, rfl, D⟩ := h
  refine (dwrite_any s pos x w D hf hb hx).mono fun e w' ⟨h1, h2⟩ => ?_
  rw [he] at h1 h2
  exact ⟨h1, (LiveAt.of_did D hb h2).1, (LiveAt.of_did D hb h2).2, h2.kp D⟩
theorem ksync {s : ByteArray} {e0 : Int} (h : LiveAt w base d g) (hf : d.fine) (he : syncD d s = (e0, d')) :
    Calls Try.prog 35 #[.pointer (some ⟨g, 0, none⟩), .string s] w fun e w' => e = .returned (.int .i64 e0) ∧ LiveAt w' base d' g ∧ Below base w w' ∧ Kp dTys w w' := by
  obtain ⟨hb, m, rfl, D⟩ := h
  refine (dsync_any s w D hf).mono fun e w' ⟨h1, h2⟩ => ?_
  rw [he] at h1 h2
  exact ⟨h1, (LiveAt.of_did D hb h2).1, (LiveAt.of_did D hb h2).2, h2.kp D⟩
theorem kcrash {A : Option Addr} {n c k : Nat} {keep : List Int} (h : LiveAt w base d g) (hf : d.fine) (hr : Rd w A (flatZ keep)) (hn : keep.length = n) (hm : n ≤ 1000000) (hA : 0 < n → ∀ a, A = some a → a.block < base ∨ TyAt w a.block 3) (he : crashD d keep = (k, d')) :
    Calls Try.prog 10 #[.pointer (some ⟨g, 0, none⟩), .slice A n c] w fun e w' => e = .returned (.int .i64 (k : Nat)) ∧ LiveAt w' base d' g ∧ Below base w w' ∧ Kp dTys w w' := by
  obtain ⟨hb, m, rfl, D⟩ := h
  refine (dcrash_any A n c keep w D hf.live (by have := hf.ws; omega) hr hn hm hA).mono fun e w' ⟨h1, h2⟩ => ?_
  rw [he] at h1 h2
  exact ⟨h1, (LiveAt.of_did D hb h2).1, (LiveAt.of_did D hb h2).2, h2.kp D⟩
theorem krestore (h : LiveAt w base d g) : Calls Try.prog 19 #[.pointer (some ⟨g, 0, none⟩)] w fun e w' => e = .returned (.tuple #[]) ∧ LiveAt w' base (restoreD d) g ∧ Below base w w' ∧ Kp dTys w w' := by
  obtain ⟨hb, m, rfl, D⟩ := h
  exact (drestore_any w D).mono fun e w' ⟨h1, h2, h3⟩ => ⟨h1, (LiveAt.of_did D hb ⟨m, rfl, h2, h3⟩).1, (LiveAt.of_did D hb ⟨m, rfl, h2, h3⟩).2, DidD.kp D ⟨m, rfl, h2, h3⟩⟩
end
end Go.Proofs.Ytkgcihhpcbodnaa
