/-
  A file of pages in memory: Open, and the filling up with empty sectors. Conditions: as the disk's own calls have them.
-/
import Derived.Test.YtkgcihhpcbodnaaStoreA
namespace Go.Proofs.Ytkgcihhpcbodnaa
open Go Go.RowKit
attribute [local go_sem] cell_set_if

/-- What Open tells. -/
def openE (d : Ds) (s : ByteArray) : Int := if (sizeD d s).2 = 0 ∨ (sizeD d s).2 = 8 then 0 else (sizeD d s).2
section
variable {w w' : World} {base gs g n : Nat} {s : ByteArray} {d d' : Ds}
theorem stopen_nil (s : ByteArray) (w : World) : Calls Try.prog 8 #[.pointer none, .string s] w fun e w' => e = .returned (.tuple #[.pointer none, .int .i64 1]) ∧ w' = w := by
  go_enter Try.func8, Try.ntmps8
  go_wp2
  go_ret2
  exact ⟨rfl, rfl⟩
theorem stopen_yes (w : World) (L : LiveAt w base d g) (hs : s.size ≤ 281474976710656) (he : openE d s = 0) :
    Calls Try.prog 8 #[.pointer (some ⟨g, 0, none⟩), .string s] w fun e w' => ∃ gs, e = .returned (.tuple #[.pointer (some ⟨gs, 0, none⟩), .int .i64 0]) ∧ SBlk w' gs g s 0 ∧ w.heap.size ≤ gs ∧ Below w.heap.size w w' := by
  obtain ⟨k, e0, hk⟩ : ∃ k e0, sizeD d s = (k, e0) := ⟨_, _, rfl⟩
  have he0 : e0 = 0 ∨ e0 = 8 := by
    unfold openE at he
    rw [hk] at he
    by_cases h : e0 = 0 ∨ e0 = 8
    · exact h
    · rw [if_neg h] at he; exact .inl he
  have HS : Hid (∀ w' : World, Below w.heap.size w w' → Calls Try.prog 25 #[.pointer (some ⟨g, 0, none⟩), .string s] w' fun e w'' => e = .returned (.tuple #[.int .i64 k, .int .i64 e0]) ∧ Below w'.heap.size w' w'') := fun w' hb => lsize (L.below hb) hk
  have HZ := Lib.hid hs
  clear hk L hs he
  rcases he0 with rfl | rfl
  all_goals
    go_enter Try.func8, Try.ntmps8
    go_wp2_with (first
      | (go_at_call 25; (refine (HS.out _ (Below.refl _ _)).mono ?_); rintro e w1 ⟨rfl, b1⟩)
      | (go_at_call 26; (refine (sclone_any s _ HZ.out).mono ?_); rintro e w2 ⟨rfl, b2⟩))
    go_ret2
    have bb := below_of b2 b1 b1.size
    exact ⟨w2.heap.size, rfl, Blk.new w2 _ _, bb.size, bb.alloc bb.size _⟩
theorem stopen_no (w : World) (L : LiveAt w base d g) (he : openE d s ≠ 0) :
    Calls Try.prog 8 #[.pointer (some ⟨g, 0, none⟩), .string s] w fun e w' => e = .returned (.tuple #[.pointer none, .int .i64 (openE d s)]) ∧ Below w.heap.size w w' := by
  obtain ⟨k, e0, hk⟩ : ∃ k e0, sizeD d s = (k, e0) := ⟨_, _, rfl⟩
  have he0 : ¬ e0 = 0 ∧ ¬ e0 = 8 ∧ openE d s = e0 := by
    unfold openE at he ⊢
    rw [hk] at he ⊢
    by_cases h : e0 = 0 ∨ e0 = 8
    · rw [if_pos h] at he; exact absurd rfl he
    · rw [if_neg h]; exact ⟨fun e => h (.inl e), fun e => h (.inr e), rfl⟩
  have HS := Lib.hid (lsize (w := w) L hk)
  obtain ⟨h0, h8, h9⟩ := he0
  rw [h9]
  have hb0 : (e0 != 0) = true := by simp [h0]
  have hb8 : (e0 != 8) = true := by simp [h8]
  clear hk L he h9
  go_enter Try.func8, Try.ntmps8
  go_wp2_with (go_at_call 25; (refine HS.out.mono ?_); rintro e w1 ⟨rfl, b1⟩)
  go_ret2
  exact ⟨rfl, b1⟩
theorem szD_le (ok : d.ok) (s : ByteArray) : szD d s ≤ 4001 := by
  unfold szD
  cases hf : (fileD d s).2 with
  | none => simp
  | some f => exact (ok.now _ (Ds.find_mem (file_on hf).2)).1
theorem LiveAt.dok (L : LiveAt w base d g) : d.ok := by obtain ⟨_, m, _, D⟩ := L; exact D.ok
theorem fillA_succ (s : ByteArray) (k n : Nat) (d : Ds) : fillA s (k + 1) n d = if (writeD d s n zeros256).1 = 0 then fillA s k (n + 1) (writeD d s n zeros256).2 else writeD d s n zeros256 := rfl
/-- How far a fill has come. -/
structure Filling (d : Ds) (s : ByteArray) (size : Int) (j : Nat) (d1 : Ds) : Prop where
  eq : fillT d s size = fillA s ((size - (szD d s : Int)).toNat - j) (szD d s + j) d1
  fine : d1.fine
  ws : d1.ws.length ≤ d.ws.length + j
set_option maxRecDepth 100000 in
set_option maxHeartbeats 2000000 in
theorem stfill_any (size : Int) (w : World) (h : SBlk w gs g s n) (L : LiveAt w base d g) (hf : d.fine) (hsz : size ≤ 1000000) (hws : d.ws.length + size.toNat ≤ 900000) :
    Calls Try.prog 31 #[.pointer (some ⟨gs, 0, none⟩), .int .i64 size] w fun e w' => e = .returned (.int .i64 (fillT d s size).1) ∧ LiveAt w' base (fillT d s size).2 g ∧ SBlk w' gs g s n ∧ Below base w w' ∧ Kp dTys w w' := by
  have HN := Lib.hid (stsize_any w h L)
  have hn0 := szD_le L.dok s
  obtain ⟨n0, hn⟩ : ∃ n0, szD d s = n0 := ⟨_, rfl⟩
  have HNE := Lib.hid hn
  rw [hn] at HN hn0
  have hn1 : (n0 : Int) ≤ 4001 := by omega
  have HL := Lib.hid L
  have HSB := Lib.hid h
  have HF : Hid (Filling d s size 0 d) := ⟨rfl, hf, Nat.le_refl _⟩
  have HW := Lib.hid hws
  clear hn hn0 h L hf hws
  go_enter Try.func31, Try.ntmps31
  go_wp2_with (go_at_call 15; (refine HN.out.mono ?_); rintro e w1 ⟨rfl, b1⟩)
  have HL1 := Lib.hid (HL.out.below b1)
  have HSB1 := Lib.hid (HSB.out.below b1)
  have HB1 : Hid (Below base w w1) := b1.mono HL.out.1
  have HK1 : Hid (Kp dTys w w1) := Kp.of_below b1
  clear b1
  go_loopw [5] (fun u5 wr => ∃ (j : Nat) (d1 : Ds) (z : Int), u5 = .int .i64 z ∧ Hid (z = ((n0 + j : Nat) : Int)) ∧ (j = 0 ∨ z ≤ size) ∧ Hid (Filling d s size j d1) ∧ Hid (LiveAt wr base d1 g) ∧ Hid (SBlk wr gs g s n) ∧ Hid (Below base w wr) ∧ Hid (Kp dTys w wr)) (fun u5 _ => (size - intOf u5).toNat)
  case atStart => exact ⟨0, d, _, rfl, rfl, .inl rfl, HF, HL1, HSB1, HB1, HK1⟩
  case round =>
    obtain ⟨j, d1, z, rfl, HZ, hj, HF1, HLr, HSr, HBr, HKr⟩ := hrel
    have hz0 : 0 ≤ z := by rw [HZ.out]; omega
    by_cases hlt : z < size
    · have hjn : z + 1 ≤ 1000000 := by omega
      have hzj := HZ.out
      obtain ⟨e2, d2, hw2⟩ : ∃ e2 d2, writeD d1 s z zeros256 = (e2, d2) := ⟨_, _, rfl⟩
      have hwl : d1.ws.length < 900000 := by
        have := HF1.out.ws; have := HW.out
        have : j < size.toNat := by omega
        omega
      have hwf := write_fine HF1.out.fine hwl s z zeros256
      rw [hw2] at hwf
      have hstep : fillT d s size = if e2 = 0 then fillA s ((size - (n0 : Int)).toNat - (j + 1)) (n0 + (j + 1)) d2 else (e2, d2) := by
        rw [HF1.out.eq, HNE.out, show (size - (n0 : Int)).toNat - j = ((size - (n0 : Int)).toNat - (j + 1)) + 1 by omega]
        rw [fillA_succ, ← hzj, hw2, Nat.add_assoc]
      have HST := Lib.hid hstep
      have HWF := Lib.hid hwf
      have HWR : Hid (∀ w' : World, Below wr.heap.size wr w' → Calls Try.prog 32 #[.pointer (some ⟨g, 0, none⟩), .string s, .int .i64 z, .string zeros256] w' fun e w'' => e = .returned (.int .i64 e2) ∧ LiveAt w'' base d2 g ∧ SBlk w'' gs g s n ∧ Below base w w'' ∧ Kp dTys w w'') := fun w' hb =>
        (kwrite (HLr.out.below hb) HF1.out.fine (by rw [zeros_size]; omega) hw2).mono fun e w'' ⟨h1, h2, h3, h4⟩ => ⟨h1, h2, (HSr.out.below hb).kp h4, (HBr.out.trans (hb.mono HLr.out.1)).trans h3, HKr.out.trans ((Kp.of_below hb).trans h4)⟩
      have c0 : wr.drew.cell? ⟨gs, 0, none⟩ = some (.pointer (some ⟨g, 0, none⟩)) := HSr.out.cell 0
      have c1 : wr.drew.cell? ⟨gs, 1, none⟩ = some (.string s) := HSr.out.cell 1
      have HSD : Hid (SBlk wr.drew gs g s n) := HSr.out.drew
      have HBD : Hid (Below wr.heap.size wr wr.drew) := (Below.refl _ _).drew
      clear hw2 hwl hwf hstep hzj
      go_wp2
      go_region_held3 (fun w' => w'.cell? ⟨gs, 0, none⟩ = some (.pointer (some ⟨g, 0, none⟩)) ∧ w'.cell? ⟨gs, 1, none⟩ = some (.string s))
        (first | with_reducible exact ⟨c0, c1⟩ | with_reducible exact ⟨f0, f1⟩ | with_reducible exact ⟨k0, k1⟩)
        (first
          | (go_at_call 48; ((refine (dzeros_any _).mono ?_); rintro e w2 ⟨rfl, b2⟩; have S2 := HSD.out.below b2; have f0 := S2.c0; have f1 := S2.c1; have q2 := HWR.out w2 (HBD.out.trans b2)))
          | (go_at_call 32; ((with_reducible refine q2.mono ?_); rintro e w3 ⟨rfl, L3, S3, B3, K3⟩; have k0 := S3.c0; have k1 := S3.c1)))
      by_cases he : e2 = 0
      · subst he
        have hst := HST.out
        rw [if_pos rfl] at hst
        have HF3 : Hid (Filling d s size (j + 1) d2) := ⟨by rw [HNE.out]; exact hst, HWF.out.1, by have := HWF.out.2; have := HF1.out.ws; omega⟩
        have HL3 := Lib.hid L3
        have HS3 := Lib.hid S3
        have HB3 := Lib.hid B3
        have HK3 := Lib.hid K3
        clear hst f0 f1 k0 k1 c0 c1 S2 S3 q2 L3 B3 K3 b2
        go_wp2
        go_roundw
        case rel => exact ⟨j + 1, d2, z + 1, rfl, by unfold Hid; rw [HZ.out]; omega, .inr (by omega), HF3, HL3, HS3, HB3, HK3⟩
        case measure => simp [intOf]; omega
      · have hst := HST.out
        rw [if_neg he] at hst
        have HV := Lib.hid hst
        clear hst
        go_wp2
        go_ret
        rw [HV.out]
        exact ⟨rfl, L3, S3, B3, K3⟩
    · have hz : fillT d s size = (0, d1) := by
        have := HZ.out
        rw [HF1.out.eq, HNE.out, show (size - (n0 : Int)).toNat - j = 0 by omega]; rfl
      have HV := Lib.hid hz
      clear hz
      go_wp2
      go_ret
      rw [HV.out]
      exact ⟨rfl, HLr.out, HSr.out, HBr.out, HKr.out⟩
end
end Go.Proofs.Ytkgcihhpcbodnaa
