/-
  A log, the document's log and a book side by side: what stays when one of them turns. No condition of its own.
-/
import Derived.Test.YtdhohaeopfgbmaaOne
import Derived.Test.YtdhohaeopfgbmaaHsC
import Derived.Test.YtdhohaeopfgbmaaHsT
import Derived.Test.YtdhohaeopfgbmaaHsU
import Derived.Test.YtdhohaeopfgbmaaHsV
import Derived.Test.YtdhohaeopfgbmaaHistLogs
namespace Go.Proofs.Ytdhohaeopfgbmaa
open Go Go.RowKit

theorem BookEn.frm_ty {base g N : Nat} {w w' : World} {f fw : Nat → List En} {v1 v2 : Value} {V W : List Value} {S : Nat → Prop} {Ts : List TypeId} (h : BookEn base w g N f fw v1 v2 V W) (k : Frm S w w') (hS : TyS w S Ts) (hB : 40 ∉ Ts) (hE : 41 ∉ Ts)
    (hV : ∀ (i : Nat) (x : Value) (b : Nat), V[i]? = some x → x.ownBlock = some b → ¬ S b) (hW : ∀ (i : Nat) (x : Value) (b : Nat), W[i]? = some x → x.ownBlock = some b → ¬ S b) : BookEn base w' g N f fw v1 v2 V W :=
  ⟨h.lo, h.B.frm_ty k hS hB, own_frm_ty h.r1 k hS hE, own_frm_ty h.r2 k hS hE, h.rV.frm k hV, h.rW.frm k hW, h.ap, h.ne⟩
theorem RefM.far {w w' : World} {base g : Nat} {idx trm : Int} {es : List En} {A : Option Addr} {c : Nat} {S : Nat → Prop} (h : RefM w base g idx trm es A c) (k : Frm S w w') (hg : ¬ S g) (hA : es ≠ [] → ∀ a, A = some a → ¬ S a.block) : RefM w' base g idx trm es A c := by
  by_cases he : es = []
  · subst he
    exact ⟨h.blk.frm k hg, h.low, Rd.nil _ _, h.nc, h.cm, h.hi, h.i0, h.i1, h.n1, h.ix⟩
  · exact h.frm k hg (hA he)
theorem TyAt.frm {w w' : World} {q : Nat} {t : TypeId} {S : Nat → Prop} (h : TyAt w q t) (k : Frm S w w') (hs : ¬ S q) : TyAt w' q t := by
  obtain ⟨cs, fr, e⟩ := h
  exact ⟨cs, fr, (k.block q (lt_of_block e) hs).trans e⟩
theorem RefM.lt {w : World} {base g : Nat} {idx trm : Int} {es : List En} {A : Option Addr} {c : Nat} (h : RefM w base g idx trm es A c) (he : es ≠ []) : ∀ a, A = some a → a.block < w.heap.size := fun a ha => by
  obtain ⟨b, o, hA, hb, _⟩ := h.rd.flat (by rw [flatEn_len]; have := List.length_pos_iff.2 he; omega)
  rw [hA] at ha
  injection ha with ha
  rw [← ha]; exact hb
/-- The log, the document's log, and the book. -/
structure HPs (w wr : World) (gl gr gb : Nat) (idx trm : Int) (es : List En) (v : Value) (idx' trm' : Int) (rs : List En) (A : Option Addr) (c N s : Nat) : Prop where
  L : LogM wr w.heap.size gl idx trm es v
  R : RefM wr w.heap.size gr idx' trm' rs A c
  old : ∀ x ∈ rs, x.has w
  av : rs ≠ [] → ∀ a, A = some a → v.ownBlock ≠ some a.block ∧ TyAt wr a.block 53
  bk : ∃ (f fw : Nat → List En) (v1 v2 : Value) (V Y : List Value), BookEn w.heap.size wr gb N f fw v1 v2 V Y ∧ AlikeEn wr w.heap.size N f fw ∧ (∀ i, (f i).length ≤ 4000) ∧ (∀ (i : Nat) (x : Value) (k : Nat), V[i]? = some x ∨ Y[i]? = some x → x.ownBlock = some k → k < s ∧ v.ownBlock ≠ some k)
  sl : s ≤ wr.heap.size
  B : Below w.heap.size w wr
section
variable {w wr w' : World} {gl gr gb : Nat} {idx trm : Int} {es : List En} {v : Value} {idx' trm' : Int} {rs : List En} {A : Option Addr} {c N s : Nat}
theorem HPs.below (h : HPs w wr gl gr gb idx trm es v idx' trm' rs A c N s) (b : Below wr.heap.size wr w') : HPs w w' gl gr gb idx trm es v idx' trm' rs A c N s := by
  obtain ⟨f, fw, v1, v2, V, Y, h1, h2, h3, h4⟩ := h.bk
  exact ⟨h.L.below b, h.R.below b, h.old, fun he a ha => ⟨(h.av he a ha).1, (h.av he a ha).2.below b⟩, ⟨f, fw, v1, v2, V, Y, h1.below b, h2.below b, h3, h4⟩, Nat.le_trans h.sl b.size, h.B.trans (b.mono h.B.size)⟩
theorem HPs.qt (h : HPs w wr gl gr gb idx trm es v idx' trm' rs A c N s) (q : Qt wr w') : HPs w w' gl gr gb idx trm es v idx' trm' rs A c N s := h.below (q.below _)
theorem HPs.logTurn (h : HPs w wr gl gr gb idx trm es v idx' trm' rs A c N s) {idx2 trm2 : Int} {es2 : List En} {v2 : Value} (hL : LogM w' w.heap.size gl idx2 trm2 es2 v2) (hT : Turn gl v wr v2 w') (hB : Below w.heap.size wr w') : HPs w w' gl gr gb idx2 trm2 es2 v2 idx' trm' rs A c N s := by
  obtain ⟨f, fw, v1, v2', V, Y, h1, h2, h3, h4⟩ := h.bk
  have hgr : ¬ mine gl v gr := by
    rintro (e | e)
    · exact h.R.blk.ne_ h.L.L.blk (by decide) e
    · exact Blk.own_ne h.R.blk h.L.L.own (by decide) e
  have hAm : rs ≠ [] → ∀ a, A = some a → ¬ mine gl v a.block := fun he a ha => by
    obtain ⟨a1, a2⟩ := h.av he a ha
    rintro (e | e)
    · rw [e] at a2
      have := a2.eq h.L.L.blk.ty
      exact absurd this (by decide)
    · exact a1 e
  refine ⟨hL, h.R.far hT.frm hgr (fun he a ha => ?_), h.old, fun he a ha => ?_, ⟨f, fw, v1, v2', V, Y, h1.frm_ty hT.frm h.L.ty (by decide) (by decide) (fun i x b hx hb => ?_) (fun i x b hx hb => ?_), h2.frm hT.frm h.L.ty (by decide), h3, fun i x k hx hk => ?_⟩, Nat.le_trans h.sl hT.frm.size, h.B.trans hB⟩
  · exact hAm he a ha
  · obtain ⟨a1, a2⟩ := h.av he a ha
    refine ⟨fun e => ?_, a2.frm hT.frm (hAm he a ha)⟩
    rcases hT.own _ e with e2 | e2
    · exact a1 e2
    · have := h.R.lt he a ha; omega
  · rintro (e | e)
    · exact h1.rV.neB h.L.L.blk (by decide) i x b hx hb e
    · exact (h4 i x b (.inl hx) hb).2 e
  · rintro (e | e)
    · exact h1.rW.neB h.L.L.blk (by decide) i x b hx hb e
    · exact (h4 i x b (.inr hx) hb).2 e
  · obtain ⟨k1, k2⟩ := h4 i x k hx hk
    refine ⟨k1, fun e => ?_⟩
    rcases hT.own _ e with e2 | e2
    · exact k2 e2
    · have := h.sl; omega
theorem HPs.refTurn (h : HPs w wr gl gr gb idx trm es v idx' trm' rs A c N s) {i2 t2 : Int} {rs2 : List En} {A2 : Option Addr} {c2 : Nat} (hR : RefM w' w.heap.size gr i2 t2 rs2 A2 c2) (F : Frm (at1 gr) wr w') (hA : (A2 = A ∧ (rs2 ≠ [] → rs ≠ [])) ∨ ∀ a, A2 = some a → wr.heap.size ≤ a.block ∧ TyAt w' a.block 53) (ho : ∀ x ∈ rs2, x.has w) : HPs w w' gl gr gb idx trm es v i2 t2 rs2 A2 c2 N s := by
  obtain ⟨f, fw, v1, v2', V, Y, h1, h2, h3, h4⟩ := h.bk
  have hT : TyS wr (at1 gr) [46] := TyS.one h.R.blk
  have hgl : ¬ at1 gr gl := fun e => h.L.L.blk.ne_ h.R.blk (by decide) e
  have hvl : ∀ r, v.ownBlock = some r → ¬ at1 gr r := fun r hr e => Blk.own_ne h.R.blk h.L.L.own (by decide) (by rw [hr]; exact congrArg some e)
  refine ⟨⟨h.L.L.frm F hgl hvl, fun x hx => (h.L.mi x hx).frm F hT (by decide)⟩, hR, ho, fun he a ha => ?_, ⟨f, fw, v1, v2', V, Y, h1.frm_ty F hT (by decide) (by decide) (fun i x b hx hb e => ?_) (fun i x b hx hb e => ?_), h2.frm F hT (by decide), h3, h4⟩, Nat.le_trans h.sl F.size, h.B.trans (F.below h.B.size (fun i hi => by have : i = gr := hi; rw [this]; exact h.R.low))⟩
  · rcases hA with ⟨e1, e2⟩ | hA
    · obtain ⟨a1, a2⟩ := h.av (e2 he) a (by rw [← e1]; exact ha)
      refine ⟨a1, a2.frm F fun e => ?_⟩
      have e3 : a.block = gr := e
      rw [e3] at a2
      exact absurd (a2.eq h.R.blk.ty) (by decide)
    · obtain ⟨h5, h6⟩ := hA a ha
      exact ⟨fun e => by have := (h.L.L.own.lt _ e).2; omega, h6⟩
  · exact h1.rV.neB h.R.blk (by decide) i x b hx hb e
  · exact h1.rW.neB h.R.blk (by decide) i x b hx hb e
theorem hp_entries (h : HPs w wr gl gr gb idx trm es v idx' trm' rs A c N s) (hN : N < 250) (B1 : Option Addr) (n1 c1 : Nat) (xs : List En) (hn : xs.length = n1) (h4 : n1 ≤ 4000) (ho : wr.ownsRow w.heap.size 53 5 (.slice B1 n1 c1) n1 (flatEn xs)) (hm : ∀ x ∈ xs, x.mine wr w.heap.size)
    (hs : ∀ k, (Value.slice B1 n1 c1).ownBlock = some k → s ≤ k ∧ v.ownBlock ≠ some k) :
    Calls Try.prog 21 #[.pointer (some ⟨gb, 0, none⟩), .slice B1 n1 c1] wr fun e w' => e = .returned (.tuple #[]) ∧ HPs w w' gl gr gb idx trm es v idx' trm' rs A c (N + 1) w'.heap.size ∧ ∃ S, Frm S wr w' ∧ TyS wr S [40, 41] := by
  obtain ⟨f, fw, v1, v2, V, Y, h1, h2, h3, h5⟩ := h.bk
  refine (addEn_more w.heap.size gb N f fw v1 v2 V Y B1 n1 c1 xs wr h1 hN h.B.size hm hn (by omega) ho (fun i x b hx hb hb2 => ?_)).mono ?_
  · have a1 := (h5 i x b (.inl hx) hb).1
    have a2 := (hs b hb2).1
    omega
  · rintro e w' ⟨h6, ⟨v1', v2', y, ys, k1, hv1, hv2, hy, hp, hz, hT⟩, F⟩
    have hB : Below w.heap.size wr w' := F.below h.B.size (fun i hi => by
      rcases hi with e | e | e
      · rw [e]; exact h1.lo
      · exact (h1.r1.lt i e).1
      · exact (h1.r2.lt i e).1)
    have hlV := h1.rV.len
    have hlY := h1.rW.len
    have hEn : ∀ q, TyAt wr q 53 → ¬ bookS gb v1 v2 q := fun q hq e => by
      obtain ⟨t, ht, h7⟩ := hT q hq.lt e
      rw [h7.eq hq] at ht; exact absurd ht (by decide)
    refine ⟨h6, ⟨⟨h.L.L.frm F ?_ ?_, fun x hx => (h.L.mi x hx).frm F hT (by decide)⟩, h.R.far F ?_ (fun he a ha => hEn _ (h.av he a ha).2), h.old, fun he a ha => ⟨(h.av he a ha).1, (h.av he a ha).2.frm F (hEn _ (h.av he a ha).2)⟩, ⟨_, _, v1', v2', _, _, k1, ((h2.frm F hT (by decide)).more hp (fun x hx => (hm x hx).frm F hT (by decide)) hz), fun i => ?_, fun i x k hx hk => ?_⟩, Nat.le_refl _, h.B.trans hB⟩, _, F, hT⟩
    · intro e
      obtain ⟨t, ht, h7⟩ := hT gl h.L.L.blk.lt e
      have := h7.eq h.L.L.blk.ty
      rw [this] at ht; exact absurd ht (by decide)
    · intro r hr e
      obtain ⟨t, ht, h7⟩ := hT r (h.L.L.own.lt r hr).2 e
      have := h7.eq (own_ty h.L.L.own hr)
      rw [this] at ht; exact absurd ht (by decide)
    · intro e
      obtain ⟨t, ht, h7⟩ := hT gr h.R.blk.lt e
      have := h7.eq h.R.blk.ty
      rw [this] at ht; exact absurd ht (by decide)
    · by_cases hc : i = N
      · simp only [hc, if_true]; omega
      · simp only [hc, if_false]; exact h3 i
    · have hcs : (V[i]? = some x ∨ Y[i]? = some x) ∨ x = .slice B1 n1 c1 ∨ x = y := by
        rcases hx with hx | hx
        · by_cases hi : i < V.length
          · rw [List.getElem?_append_left hi] at hx; exact .inl (.inl hx)
          · rw [List.getElem?_append_right (by omega)] at hx
            have := List.mem_of_getElem? hx
            rw [List.mem_singleton] at this
            exact .inr (.inl this)
        · by_cases hi : i < Y.length
          · rw [List.getElem?_append_left hi] at hx; exact .inl (.inr hx)
          · rw [List.getElem?_append_right (by omega)] at hx
            have := List.mem_of_getElem? hx
            rw [List.mem_singleton] at this
            exact .inr (.inr this)
      have hsz := F.size
      rcases hcs with hcs | rfl | rfl
      · obtain ⟨a1, a2⟩ := h5 i x k hcs hk
        exact ⟨by have := h.sl; omega, a2⟩
      · exact ⟨by have := (ho.lt k hk).2; omega, (hs k hk).2⟩
      · refine ⟨?_, fun e => ?_⟩
        · exact (k1.rW.lt Y.length x k (by rw [List.getElem?_append_right (by omega)]; simp) hk).2
        · have := (h.L.L.own.lt k e).2; have := hy k hk; omega
end
end Go.Proofs.Ytdhohaeopfgbmaa
