/-
  One act on a disk. Conditions: a disk that is fine, with room for a write; ints that lie elsewhere.
-/
import Derived.Test.YtfgpadikmnhldaaOpD
import Derived.Test.YtfgpadikmnhldaaDiskS
namespace Go.Proofs.Ytfgpadikmnhldaa
open Go Go.RowKit
attribute [local go_sem] cell_set_if

/-- An act as a value. -/
abbrev opV (x : OpD) : Value := .agg #[.int .i64 x.kind, .string x.s, .string x.t, .int .i64 x.a, .int .i64 x.b, .bool x.own, .slice x.A x.n x.c]
/-- What an act leaves. -/
def Left1 (w : World) (base g : Nat) (d : Ds) (w' : World) : Prop := (∃ d', LiveAt w' base d' g ∧ d'.fine ∧ d'.ws.length ≤ d.ws.length + 1) ∧ Below base w w'
/-- What an act leaves, and the blocks that may turn. -/
def Left2 (w : World) (base : Nat) (m : DM) (d : Ds) (w' : World) : Prop := Left1 w base m.g d w' ∧ Frm (mineD d m) w w'
section
variable {w w' w1 : World} {base : Nat} {d d' : Ds} {m : DM}
theorem Left1.mk' {g : Nat} (h : LiveAt w' base d' g) (hf : d'.fine) (hl : d'.ws.length ≤ d.ws.length + 1) (hb : Below base w w') : Left1 w base g d w' := ⟨⟨d', h, hf, hl⟩, hb⟩
theorem left2 (D : DiskAt w base d m) (hb : base ≤ w.heap.size) (k : DidD w base d m d' w') (hf : d'.fine) (hl : d'.ws.length ≤ d.ws.length + 1) : Left2 w base m d w' := by
  have h3 := LiveAt.of_did D hb k
  obtain ⟨m', _, _, T⟩ := k
  exact ⟨Left1.mk' h3.1 hf hl h3.2, T.frm⟩
theorem Left2.after (h : Left2 w1 base m d w') (ba : Below w.heap.size w w1) (hb : base ≤ w.heap.size) : Left2 w base m d w' := ⟨⟨h.1.1, (ba.mono hb).trans h.1.2⟩, (Frm.of_below ba).then_ h.2⟩

set_option maxRecDepth 100000 in
set_option maxHeartbeats 4000000 in
theorem one_any (x : OpD) (w : World) (D : DiskAt w base d m) (hb0 : base ≤ w.heap.size) (hf : d.fine) (hw : d.ws.length < 900000) (hr : Rd w x.A (flatZ x.l)) (hn : x.l.length = x.n) (hm : x.n ≤ 1000000) (hA : 0 < x.n → ∀ a, x.A = some a → a.block < base) :
    Calls Try.prog 7 #[.pointer (some ⟨m.g, 0, none⟩), opV x] w fun e w' => e = .returned (.tuple #[]) ∧ Left2 w base m d w' := by
  have ba : Below w.heap.size w (w.alloc (.cells #[.int .i64 x.kind, .string x.s, .string x.t, .int .i64 x.a, .int .i64 x.b, .bool x.own, .slice x.A x.n x.c] 25)) := (Below.refl _ _).alloc (Nat.le_refl _) _
  have HR := Lib.hid (hr.below ba)
  have HN := Lib.hid hn
  have HA := Lib.hid hA
  have HF := Lib.hid hf
  have KX := (Blk.new w 25 #[.int .i64 x.kind, .string x.s, .string x.t, .int .i64 x.a, .int .i64 x.b, .bool x.own, .slice x.A x.n x.c])
  have HKX := Lib.hid KX
  have HBA := Lib.hid ba
  have HW := Lib.hid hw
  have HNB : Hid (∀ q, mineD d m q → q ≠ w.heap.size) := fun q hq e => by have := (D.mine_lt q hq).2; omega
  have HD : Hid (∀ W, Below w.heap.size w W → DiskAt W base d m ∧ base ≤ W.heap.size) := fun _ hb => ⟨D.below hb, Nat.le_trans hb0 hb.size⟩
  clear D hr hn hA hf ba KX hw
  obtain ⟨kind, s, t, a, b, own, A, n, c, l⟩ := x
  by_cases h1 : kind = 1
  · subst h1
    obtain ⟨⟨nz, ez⟩, hz⟩ : ∃ p, sizeD d t = p := ⟨_, rfl⟩
    have HS := Lib.hid (lsize (s := t) ⟨(HD.out _ HBA.out).2, m, rfl, (HD.out _ HBA.out).1⟩ hz)
    have HWC : Hid (∀ (W : World) (pos : Int), Below w.heap.size w W → Calls Try.prog 16 #[.pointer (some ⟨m.g, 0, none⟩), .string t, .int .i64 pos, .string (fillS s)] W fun e w' => (∃ r, e = .returned (.int .i64 r)) ∧ Left2 W base m d w') := fun W pos hb => by
      have hk := write_fine HF.out HW.out t pos (fillS s)
      have hd := HD.out W hb
      exact (dwrite_any t pos (fillS s) W hd.1 HF.out hd.2 (by rw [fillS_size]; decide)).mono fun _ _ ⟨h1, h2⟩ => ⟨⟨_, h1⟩, left2 hd.1 hd.2 h2 hk.1 hk.2⟩
    clear hz
    go_enter Try.func7, Try.ntmps7
    go_upto_region 4 with (go_at_call 20; refine HS.out.mono ?_; rintro e w2 ⟨rfl, b2⟩)
    have K2 := (HKX.out.below b2).drew
    have B2 : Below w.heap.size w w2.drew := (((Below.refl _ _).alloc (Nat.le_refl _) _).trans (b2.mono (by simp))).drew
    have Q0 : w2.drew.cell? ⟨w.heap.size, 1, none⟩ = some (.string s) ∧ w2.drew.cell? ⟨w.heap.size, 2, none⟩ = some (.string t) ∧ w2.drew.cell? ⟨w.heap.size, 3, none⟩ = some (.int .i64 a) := ⟨K2.cell 1, K2.cell 2, K2.cell 3⟩
    have HK2 := Lib.hid K2
    have HB2 := Lib.hid B2
    clear K2 B2 b2
    go_region_held3 (fun W => W.cell? ⟨w.heap.size, 1, none⟩ = some (.string s) ∧ W.cell? ⟨w.heap.size, 2, none⟩ = some (.string t) ∧ W.cell? ⟨w.heap.size, 3, none⟩ = some (.int .i64 a))
      (first | with_reducible exact Q0 | with_reducible exact Q1 | with_reducible exact Q2)
      (first
        | (go_at_call 16; (refine (HWC.out _ _ B3).mono ?_); rintro e w4 ⟨⟨r, rfl⟩, L4⟩
           have K4 := HK3.out.frm L4.2 (fun e => HNB.out _ e rfl)
           have Q2 : w4.cell? ⟨w.heap.size, 1, none⟩ = some (.string s) ∧ w4.cell? ⟨w.heap.size, 2, none⟩ = some (.string t) ∧ w4.cell? ⟨w.heap.size, 3, none⟩ = some (.int .i64 a) := ⟨K4.cell 1, K4.cell 2, K4.cell 3⟩)
        | (go_at_call 15; (refine (fill_any s true _).mono ?_); rintro e w3 ⟨rfl, b3⟩
           have K3 := HK2.out.below b3
           have B3 := HB2.out.trans (b3.mono HB2.out.size)
           have Q1 : w3.cell? ⟨w.heap.size, 1, none⟩ = some (.string s) ∧ w3.cell? ⟨w.heap.size, 2, none⟩ = some (.string t) ∧ w3.cell? ⟨w.heap.size, 3, none⟩ = some (.int .i64 a) := ⟨K3.cell 1, K3.cell 2, K3.cell 3⟩
           have HK3 := Lib.hid K3
           clear K3 b3))
    all_goals
      go_wp2
      go_end0
      exact ⟨rfl, L4.after B3 hb0⟩
  by_cases h2 : kind = 2
  · subst h2
    have HC := Lib.hid (dsync_any t _ (HD.out _ HBA.out).1 HF.out)
    have hk := sync_fine HF.out t
    have hd := HD.out _ HBA.out
    have HK : Hid (∀ w', DidD _ base d m _ w' → Left2 _ base m d w') := fun _ k => left2 hd.1 hd.2 k hk.1 (Nat.le_trans hk.2 (Nat.le_succ _))
    clear hk hd
    go_enter Try.func7, Try.ntmps7
    go_wp2_with (go_at_call 21; refine HC.out.mono ?_; rintro e w2 ⟨rfl, L2⟩)
    go_end0
    exact ⟨rfl, (HK.out _ L2).after HBA.out hb0⟩
  by_cases h3 : kind = 3
  · subst h3
    obtain ⟨⟨nz, ez⟩, hz⟩ : ∃ p, sizeD d t = p := ⟨_, rfl⟩
    have HS := Lib.hid (lsize (s := t) ⟨(HD.out _ HBA.out).2, m, rfl, (HD.out _ HBA.out).1⟩ hz)
    have HC : Hid (∀ (W : World) (z : Int), Below w.heap.size w W → Calls Try.prog 22 #[.pointer (some ⟨m.g, 0, none⟩), .string t, .int .i64 z] W fun e w' => (∃ r, e = .returned (.int .i64 r)) ∧ Left2 W base m d w') := fun W z hb => by
      have hk := cut_fine HF.out t z
      have hd := HD.out W hb
      exact (dcut_any t z W hd.1 HF.out).mono fun _ _ ⟨h1, h2⟩ => ⟨⟨_, h1⟩, left2 hd.1 hd.2 h2 hk.1 (Nat.le_trans hk.2 (Nat.le_succ _))⟩
    clear hz
    go_enter Try.func7, Try.ntmps7
    go_wp2_with (first
      | (go_at_call 20; refine HS.out.mono ?_; rintro e w2 ⟨rfl, b2⟩; have B2 := HBA.out.trans (b2.mono (by simp)); have x2 := (HKX.out.below b2).cell 2; have x3 := (HKX.out.below b2).cell 3)
      | (go_at_call 22; refine (HC.out _ _ B2).mono ?_; rintro e w3 ⟨⟨r, rfl⟩, L3⟩))
    go_end0
    exact ⟨rfl, L3.after B2 hb0⟩
  by_cases h4 : kind = 4
  · subst h4
    have HC := Lib.hid (drename_any t s _ (HD.out _ HBA.out).1 HF.out)
    have hk := rename_fine HF.out t s
    have hd := HD.out _ HBA.out
    have HK : Hid (∀ w', DidD _ base d m _ w' → Left2 _ base m d w') := fun _ k => left2 hd.1 hd.2 k hk.1 (Nat.le_trans hk.2 (Nat.le_succ _))
    clear hk hd
    go_enter Try.func7, Try.ntmps7
    go_wp2_with (go_at_call 23; refine HC.out.mono ?_; rintro e w2 ⟨rfl, L2⟩)
    go_end0
    exact ⟨rfl, (HK.out _ L2).after HBA.out hb0⟩
  by_cases h5 : kind = 5
  · subst h5
    have HC := Lib.hid (dremove_any t _ (HD.out _ HBA.out).1 HF.out)
    have hk := remove_fine HF.out t
    have hd := HD.out _ HBA.out
    have HK : Hid (∀ w', DidD _ base d m _ w' → Left2 _ base m d w') := fun _ k => left2 hd.1 hd.2 k hk.1 (Nat.le_trans hk.2 (Nat.le_succ _))
    clear hk hd
    go_enter Try.func7, Try.ntmps7
    go_wp2_with (go_at_call 24; refine HC.out.mono ?_; rintro e w2 ⟨rfl, L2⟩)
    go_end0
    exact ⟨rfl, (HK.out _ L2).after HBA.out hb0⟩
  by_cases h6 : kind = 6
  · subst h6
    have HC := Lib.hid (dcrash_any A n c l _ (HD.out _ HBA.out).1 HF.out.live (by have := HF.out.ws; omega) HR.out HN.out hm (fun h0 a ha => .inl (HA.out h0 a ha)))
    have hk := crash_fine' HF.out l
    have hd := HD.out _ HBA.out
    have HK : Hid (∀ w', DidD _ base d m _ w' → Left2 _ base m d w') := fun _ k => left2 hd.1 hd.2 k hk.1 (Nat.le_trans hk.2 (Nat.le_succ _))
    clear hk hd
    go_enter Try.func7, Try.ntmps7
    go_wp2_with (go_at_call 17; refine HC.out.mono ?_; rintro e w2 ⟨rfl, L2⟩)
    go_end0
    exact ⟨rfl, (HK.out _ L2).after HBA.out hb0⟩
  by_cases h7 : kind = 7
  · subst h7
    have HC := Lib.hid (drestore_any _ (HD.out _ HBA.out).1)
    have hd := HD.out _ HBA.out
    have HK : Hid (∀ w', DidD _ base d m (restoreD d) w' → Left2 _ base m d w') := fun _ k => left2 hd.1 hd.2 k (restore_fine HF.out) (by show d.ws.length ≤ _; omega)
    clear hd
    go_enter Try.func7, Try.ntmps7
    go_wp2_with (go_at_call 18; refine HC.out.mono ?_; rintro e w2 ⟨rfl, D2, T2⟩)
    go_end0
    exact ⟨rfl, (HK.out _ ⟨m, rfl, D2, T2⟩).after HBA.out hb0⟩
  · have hd := HD.out _ HBA.out
    have HK : Hid (Left2 w base m d (w.alloc (.cells #[.int .i64 kind, .string s, .string t, .int .i64 a, .int .i64 b, .bool own, .slice A n c] 25))) := ⟨Left1.mk' ⟨hd.2, m, rfl, hd.1⟩ HF.out (Nat.le_succ _) (HBA.out.mono hb0), Frm.of_below HBA.out⟩
    clear hd
    go_enter Try.func7, Try.ntmps7
    go_wp2
    go_end0
    exact ⟨rfl, HK.out⟩
end
end Go.Proofs.Ytfgpadikmnhldaa
