/-
  Up to where all is agreed: raft.Commit and the document's Commit give the same; what both Stand give. Conditions: no more than a thousand members; those of the logs.
-/
import Derived.Test.YtmnndekpedacmaaConfI
import Derived.Test.YtmnndekpedacmaaConfJ
import Derived.Test.YtmnndekpedacmaaConfS
import Derived.Test.YtmnndekpedacmaaRBallot
namespace Go.Proofs.Ytmnndekpedacmaa
open Go Go.RowKit
attribute [local go_sem] cell_set_if

set_option maxRecDepth 100000 in
set_option maxHeartbeats 2000000 in
theorem pcommit_any (A B : Option Addr) (n c m d base g : Nat) (l at_ : List Int) (ii tt : Int) (E : List Ent) (v : Value) (term com : Int) (w : World) (hr : Rd w A (flatZ l)) (hn : l.length = n) (hb : Rd w B (flatZ at_)) (hm : at_.length = m) (h1 : n ≤ 1000) (h2 : m ≤ 1000) (hL : LogAt w base g ii tt E v) :
    Calls Try.prog 10 #[.slice A n c, .pointer (some ⟨g, 0, none⟩), .int .i64 term, .int .i64 com, .slice B m d] w fun e w' => e = .returned (.int .i64 (commV l at_ ii tt E term com)) ∧ Below w.heap.size w w' := by
  have hI := cindex_any A B n c m d l at_ w hr hn hb hm h1 h2
  obtain ⟨M, hM⟩ : ∃ M, M = max com (idxV l at_) := ⟨_, rfl⟩
  have HE := Lib.hid (commV_prog (ii := ii) (tt := tt) (E := E) (term := term) hM)
  obtain ⟨ix, hix⟩ : ∃ ix, ix = idxV l at_ := ⟨_, rfl⟩
  rw [← hix] at hI hM
  have hT := fun w (h : LogAt w base g ii tt E v) => term_any w base g ii tt E v M h
  have hLa := fun w (h : LogAt w base g ii tt E v) => last_any w base g ii tt E v h
  obtain ⟨t, ht⟩ : ∃ t, t = (termE ii tt E M).getD 0 := ⟨_, rfl⟩
  obtain ⟨is, his⟩ : ∃ is, is = (termE ii tt E M).isSome := ⟨_, rfl⟩
  obtain ⟨la, hla⟩ : ∃ la, la = ii + (E.length : Int) := ⟨_, rfl⟩
  have hin : is = true → M ≤ la := fun h => by
    rw [his] at h
    obtain ⟨z, hz⟩ := Option.isSome_iff_exists.1 h
    have := termE_in hz
    omega
  rw [← ht, ← his, ← hla] at HE
  simp only [← ht, ← his] at hT
  simp only [← hla] at hLa
  have HI := Lib.hid hI
  have HT := Lib.hid hT
  have HLA := Lib.hid hLa
  have HL := Lib.hid hL
  have hM2 : max com ix = M := hM.symm
  clear hI hT hLa hL hM hix ht his hla hr hn hb hm
  cases is
  · have HR : Hid (commV l at_ ii tt E term com = com) := by unfold Hid; rw [HE.out, if_pos (.inl rfl)]
    go_enter Try.func10, Try.ntmps10
    go_wp2_with (first
      | (go_at_call 31; refine HI.out.mono ?_; rintro e w1 ⟨rfl, b1⟩; have L1 := HL.out.below b1)
      | (go_at_call 32; with_reducible refine (HT.out _ L1).mono ?_; rintro e w2 ⟨rfl, q2⟩))
    go_ret
    exact ⟨by (rw [HR.out]) <;> rfl, below_of (q2.below _) b1 (Nat.le_refl _)⟩
  · have hMl := hin rfl
    by_cases htt : t = term
    · have HR : Hid (commV l at_ ii tt E term com = M) := by unfold Hid; rw [HE.out, if_neg]; rintro (h | h | h); cases h; exact h htt; omega
      have hq : (t != term) = false := by simpa using htt
      clear htt hin
      go_enter Try.func10, Try.ntmps10
      go_wp2_with (first
        | (go_at_call 31; refine HI.out.mono ?_; rintro e w1 ⟨rfl, b1⟩; have L1 := HL.out.below b1)
        | (go_at_call 32; with_reducible refine (HT.out _ L1).mono ?_; rintro e w2 ⟨rfl, q2⟩; have L2 := L1.qt q2)
        | (go_at_call 33; with_reducible refine (HLA.out _ L2).mono ?_; rintro e w3 ⟨rfl, q3⟩))
      go_ret
      exact ⟨by (rw [HR.out]) <;> rfl, below_of ((q2.trans q3).below _) b1 (Nat.le_refl _)⟩
    · have HR : Hid (commV l at_ ii tt E term com = com) := by unfold Hid; rw [HE.out, if_pos (.inr (.inl htt))]
      have hq : (t != term) = true := by simpa using htt
      clear htt hin
      go_enter Try.func10, Try.ntmps10
      go_wp2_with (first
        | (go_at_call 31; refine HI.out.mono ?_; rintro e w1 ⟨rfl, b1⟩; have L1 := HL.out.below b1)
        | (go_at_call 32; with_reducible refine (HT.out _ L1).mono ?_; rintro e w2 ⟨rfl, q2⟩; have L2 := L1.qt q2))
      go_ret
      exact ⟨by (rw [HR.out]) <;> rfl, below_of (q2.below _) b1 (Nat.le_refl _)⟩
set_option maxRecDepth 100000 in
set_option maxHeartbeats 2000000 in
theorem rcommit_any (A B : Option Addr) (n c m d base g : Nat) (l at_ : List Int) (ii tt : Int) (E : List Ent) (v : Value) (term com : Int) (w : World) (hr : Rd w A (flatZ l)) (hn : l.length = n) (hb : Rd w B (flatZ at_)) (hm : at_.length = m) (h1 : n ≤ 1000) (h2 : m ≤ 1000) (hL : RefAt w base g ii tt E v) :
    Calls Try.prog 11 #[.slice A n c, .pointer (some ⟨g, 0, none⟩), .int .i64 term, .int .i64 com, .slice B m d] w fun e w' => e = .returned (.int .i64 (commV l at_ ii tt E term com)) ∧ Qt w w' := by
  have hI := rindex_any A B n c m d l at_ w hr hn hb hm h1 h2
  have HE : Hid (commV l at_ ii tt E term com = if com < idxV l at_ ∧ termE ii tt E (idxV l at_) = some term then idxV l at_ else com) := rfl
  obtain ⟨ix, hix⟩ : ∃ ix, ix = idxV l at_ := ⟨_, rfl⟩
  rw [← hix] at hI HE
  have hT := fun w (h : RefAt w base g ii tt E v) => ref_at_any w base g ii tt E v ix h
  obtain ⟨o, ho⟩ : ∃ o, o = termE ii tt E ix := ⟨_, rfl⟩
  rw [← ho] at HE
  simp only [← ho] at hT
  have HI := Lib.hid hI
  have HL := Lib.hid hL
  clear hI hL hix ho hr hn hb hm
  cases o with
  | none =>
    have HR : Hid (commV l at_ ii tt E term com = com) := by unfold Hid; rw [HE.out, if_neg (fun h => by cases h.2)]
    have HT : Hid (∀ w, RefAt w base g ii tt E v → Calls Try.prog 9 #[.pointer (some ⟨g, 0, none⟩), .int .i64 ix] w fun e w' => e = .returned (.tuple #[.int .i64 0, .bool false]) ∧ Qt w w') := hT
    clear hT HE
    by_cases hc : com < ix
    · go_enter Try.func11, Try.ntmps11
      go_wp2_with (first
        | (go_at_call 34; refine HI.out.mono ?_; rintro e w1 ⟨rfl, q1⟩; have L1 := HL.out.qt q1)
        | (go_at_call 9; with_reducible refine (HT.out _ L1).mono ?_; rintro e w2 ⟨rfl, q2⟩))
      go_ret
      exact ⟨by (rw [HR.out]) <;> rfl, q1.trans q2⟩
    · have hc' : ix ≤ com := by omega
      clear hc
      go_enter Try.func11, Try.ntmps11
      go_wp2_with (first
        | (go_at_call 34; refine HI.out.mono ?_; rintro e w1 ⟨rfl, q1⟩; have L1 := HL.out.qt q1)
        | (go_at_call 9; with_reducible refine (HT.out _ L1).mono ?_; rintro e w2 ⟨rfl, q2⟩))
      go_ret
      exact ⟨by (rw [HR.out]) <;> rfl, q1.trans q2⟩
  | some t =>
    have HT : Hid (∀ w, RefAt w base g ii tt E v → Calls Try.prog 9 #[.pointer (some ⟨g, 0, none⟩), .int .i64 ix] w fun e w' => e = .returned (.tuple #[.int .i64 t, .bool true]) ∧ Qt w w') := hT
    clear hT
    by_cases hc : com < ix
    · by_cases htt : t = term
      · have HR : Hid (commV l at_ ii tt E term com = ix) := by unfold Hid; rw [HE.out, if_pos ⟨hc, by rw [htt]⟩]
        have hq : (t == term) = true := by simpa using htt
        clear htt HE
        go_enter Try.func11, Try.ntmps11
        go_wp2_with (first
          | (go_at_call 34; refine HI.out.mono ?_; rintro e w1 ⟨rfl, q1⟩; have L1 := HL.out.qt q1)
          | (go_at_call 9; with_reducible refine (HT.out _ L1).mono ?_; rintro e w2 ⟨rfl, q2⟩))
        go_ret
        exact ⟨by (rw [HR.out]) <;> rfl, q1.trans q2⟩
      · have HR : Hid (commV l at_ ii tt E term com = com) := by unfold Hid; rw [HE.out, if_neg]; rintro ⟨_, h⟩; injection h with h; exact htt h
        have hq : (t == term) = false := by simpa using htt
        clear htt HE
        go_enter Try.func11, Try.ntmps11
        go_wp2_with (first
          | (go_at_call 34; refine HI.out.mono ?_; rintro e w1 ⟨rfl, q1⟩; have L1 := HL.out.qt q1)
          | (go_at_call 9; with_reducible refine (HT.out _ L1).mono ?_; rintro e w2 ⟨rfl, q2⟩))
        go_ret
        exact ⟨by (rw [HR.out]) <;> rfl, q1.trans q2⟩
    · have HR : Hid (commV l at_ ii tt E term com = com) := by unfold Hid; rw [HE.out, if_neg (fun h => hc h.1)]
      have hc' : ix ≤ com := by omega
      clear hc HE
      go_enter Try.func11, Try.ntmps11
      go_wp2_with (first
        | (go_at_call 34; refine HI.out.mono ?_; rintro e w1 ⟨rfl, q1⟩; have L1 := HL.out.qt q1)
        | (go_at_call 9; with_reducible refine (HT.out _ L1).mono ?_; rintro e w2 ⟨rfl, q2⟩))
      go_ret
      exact ⟨by (rw [HR.out]) <;> rfl, q1.trans q2⟩
/-- Who stands for the next term. -/
def standS (t f who : Int) : Int × Int := if t = 2147483647 then (t, f) else (t + 1, who)
theorem stand_any (t f who : Int) (w : World) (h0 : -9223372036854775808 ≤ t) (h : t ≤ 4611686018427387904) :
    Calls Try.prog 20 #[bal t f, .int .i64 who] w fun e w' => e = .returned (bal (standS t f who).1 (standS t f who).2) ∧ Below w.heap.size w w' := by
  unfold standS
  by_cases hc : t = 2147483647
  · have hq : (t == 2147483647) = true := by simpa using hc
    rw [if_pos hc]
    clear hc
    go_enter Try.func20, Try.ntmps20
    go_wp2
    refine bodyPost_ret (v := bal t f) (by simp [results, Try.results20, go_sem]) rfl ⟨rfl, ?_⟩
    repeat (refine Below.setCell ?_ (by simp) _)
    exact ((Below.refl _ _).alloc (Nat.le_refl _) _).alloc (by simp) _
  · have hq : (t == 2147483647) = false := by simpa using hc
    rw [if_neg hc]
    clear hc
    go_enter Try.func20, Try.ntmps20
    go_wp2
    refine bodyPost_ret (v := bal (t + 1) who) (by simp [results, Try.results20, go_sem]) rfl ⟨rfl, ?_⟩
    repeat (refine Below.setCell ?_ (by simp) _)
    exact ((Below.refl _ _).alloc (Nat.le_refl _) _).alloc (by simp) _
theorem rstand_any (t f who : Int) (w : World) (h0 : -9223372036854775808 ≤ t) (h : t ≤ 4611686018427387904) :
    Calls Try.prog 21 #[bal t f, .int .i64 who] w fun e w' => e = .returned (bal (standS t f who).1 (standS t f who).2) ∧ Below w.heap.size w w' := by
  unfold standS
  by_cases hc : t = 2147483647
  · have hq : (t == 2147483647) = true := by simpa using hc
    rw [if_pos hc]
    clear hc
    go_enter Try.func21, Try.ntmps21
    go_wp2
    refine bodyPost_ret (v := bal t f) (by simp [results, Try.results21, go_sem]) rfl ⟨rfl, ?_⟩
    repeat (refine Below.setCell ?_ (by simp) _)
    exact ((Below.refl _ _).alloc (Nat.le_refl _) _).alloc (by simp) _
  · have hq : (t == 2147483647) = false := by simpa using hc
    rw [if_neg hc]
    clear hc
    go_enter Try.func21, Try.ntmps21
    go_wp2
    refine bodyPost_ret (v := bal (t + 1) who) (by simp [results, Try.results21, go_sem]) rfl ⟨rfl, ?_⟩
    repeat (refine Below.setCell ?_ (by simp) _)
    exact ((Below.refl _ _).alloc (Nat.le_refl _) _).alloc (by simp) _
end Go.Proofs.Ytmnndekpedacmaa
