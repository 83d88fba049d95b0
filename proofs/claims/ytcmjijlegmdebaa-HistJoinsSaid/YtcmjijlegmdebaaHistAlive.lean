/-
  The log in memory: First, Back; the first call of hist's laws. Conditions: those of the log.
-/
import Derived.Test.YtcmjijlegmdebaaHistAppend
namespace Go.Proofs.Ytcmjijlegmdebaa
open Go Go.RowKit
attribute [local go_sem] cell_set_if

theorem histfirst_any (w : World) (base g : Nat) (idx trm : Int) (es : List Ent) (v : Value) (h : LogAt w base g idx trm es v) :
    Calls Try.prog 30 #[.pointer (some ⟨g, 0, none⟩)] w fun e w' => e = .returned (.int .i64 (idx + 1)) ∧ Qt w w' := by
  have c0 := h.blk.cell 0
  have h0 := h.i0
  have h1 := h.i1
  have hm : max (idx + 1) idx = idx + 1 := by omega
  have hw : IntKind.i64.wrap (idx + 1) = idx + 1 := IntWalk.i64_in _ (by omega)
  simp at c0
  clear h
  go_enter Try.func30, Try.ntmps30
  go_wp2
  go_quiet (fail)
  go_wp2
  go_ret
  exact ⟨rfl, Qt.drewN _ _⟩

/-- The greatest place up to n whose term is at most t. -/
def backE (f : Int → Int) (idx t : Int) : Nat → Int
  | 0 => idx
  | n + 1 => if f (idx + n + 1) ≤ t then idx + n + 1 else backE f idx t n
/-- Back. -/
def backV (idx trm : Int) (es : List Ent) (i t : Int) : Int := backE (fun j => (termE idx trm es j).getD 0) idx t (min i (idx + es.length) - idx).toNat

set_option maxRecDepth 100000 in
set_option maxHeartbeats 1000000 in
theorem back_any (w : World) (base g : Nat) (idx trm : Int) (es : List Ent) (v : Value) (i t : Int) (h : LogAt w base g idx trm es v) :
    Calls Try.prog 34 #[.pointer (some ⟨g, 0, none⟩), .int .i64 i, .int .i64 t] w fun e w' => e = .returned (.int .i64 (backV idx trm es i t)) ∧ Qt w w' := by
  have H := Lib.hid h
  have h0 := h.i0
  have h1 := h.i1
  have h2 := h.n1
  clear h
  obtain ⟨r, hr⟩ : ∃ r, r = backV idx trm es i t := ⟨_, rfl⟩
  rw [← hr]
  unfold backV at hr
  obtain ⟨m, hm⟩ : ∃ m, m = min i (idx + (es.length : Int)) := ⟨_, rfl⟩
  rw [← hm] at hr
  have HR := Lib.hid hr
  have HM := Lib.hid hm
  have hmm : min i (idx + (es.length : Int)) = m := hm.symm
  have hmle : m ≤ idx + es.length := by omega
  clear hr hm
  have hcs : i < idx + es.length ∨ i = idx + es.length ∨ idx + es.length < i := by omega
  rcases hcs with hcs | rfl | hcs
  all_goals
    go_enter Try.func34, Try.ntmps34
    go_wp2_with (go_at_call 21; refine (last_any _ _ _ _ _ _ _ H.out).mono ?_; rintro e w1 ⟨rfl, q1⟩)
    go_loopw [6, 7, 8, 9] (fun u6 u7 u8 u9 wr => ∃ k : Int, u7 = .int .i64 k ∧ k ≤ m ∧ (k ≤ idx → k = m ∨ k = idx) ∧ r = backE (fun j => (termE idx trm es j).getD 0) idx t (k - idx).toNat ∧ Qt w wr) (fun _ u7 _ _ _ => (intOf u7 - idx).toNat)
    case atStart => exact ⟨m, int_eq (by omega), by omega, fun _ => .inl rfl, HR.out, q1⟩
    case round =>
      obtain ⟨k, rfl, hk, hk2, hb, hq⟩ := hrel
      have L := H.out.qt hq
      have c0 := L.blk.cell 0
      simp at c0
      by_cases hlt : idx < k
      · obtain ⟨n, hn⟩ : ∃ n : Nat, k = idx + n + 1 := ⟨(k - idx - 1).toNat, by omega⟩
        have hst : r = if (termE idx trm es k).getD 0 ≤ t then k else backE (fun j => (termE idx trm es j).getD 0) idx t (k - 1 - idx).toNat := by
          rw [hb, show (k - idx).toNat = n + 1 by omega, show (k - 1 - idx).toNat = n by omega, backE, ← hn]
        have HB := Lib.hid hst
        clear hst hb
        have hw : IntKind.i64.wrap (k - 1) = k - 1 := IntWalk.i64_in _ (by omega)
        obtain ⟨x, hx⟩ : ∃ x, (termE idx trm es k).getD 0 = x := ⟨_, rfl⟩
        have hT : Calls Try.prog 29 #[.pointer (some ⟨g, 0, none⟩), .int .i64 k] wr fun e w' => (∃ bb : Bool, e = .returned (.tuple #[.int .i64 x, .bool bb])) ∧ Qt wr w' := (term_any _ _ _ _ _ _ _ k L).mono fun e w' ⟨h1, h2⟩ => ⟨⟨(termE idx trm es k).isSome, by rw [h1, hx]⟩, h2⟩
        have HX := Lib.hid hx
        clear hx L hn
        by_cases hc : x ≤ t
        · go_wp2_with (go_at_call 29; refine hT.mono ?_; rintro e w2 ⟨⟨bb, rfl⟩, q2⟩)
          go_ret
          exact ⟨ret_int (by rw [HB.out, HX.out, if_pos (by omega)]), hq.trans q2⟩
        · have hc' : t < x := by omega
          go_wp2_with (go_at_call 29; refine hT.mono ?_; rintro e w2 ⟨⟨bb, rfl⟩, q2⟩)
          go_roundw
          case rel => exact ⟨k - 1, by go_num, by omega, fun h => .inr (by omega), by rw [HB.out, HX.out, if_neg (by omega)], hq.trans q2⟩
          case measure => simp [intOf]; omega
      · have hle : k ≤ idx := by omega
        have HB := Lib.hid hb
        clear hb
        go_wp2
        go_ret
        refine ⟨ret_int ?_, hq⟩
        rw [HB.out, show (k - idx).toNat = 0 by omega]; rfl

theorem alive_app (w : World) (base g : Nat) (L : LogAt w base g 5 2 [] (.slice none 0 0)) :
    Calls Try.prog 27 #[.pointer (some ⟨g, 0, none⟩), .slice (some ⟨w.heap.size, 0, none⟩) 2 2] (w.alloc (.cells #[.int .i64 6, .int .i64 2, .int .i64 0, .int .i64 0, .slice none 0 0, .int .i64 7, .int .i64 3, .int .i64 0, .int .i64 0, .slice none 0 0] 74))
      fun e w' => e = .returned (.int .i64 0) ∧ ∃ v', LogAt w' base g 5 2 [⟨6, 2, 0, 0, .slice none 0 0⟩, ⟨7, 3, 0, 0, .slice none 0 0⟩] v' ∧ Below base (w.alloc (.cells #[.int .i64 6, .int .i64 2, .int .i64 0, .int .i64 0, .slice none 0 0, .int .i64 7, .int .i64 3, .int .i64 0, .int .i64 0, .slice none 0 0] 74)) w' := by
  have L1 := L.below ((Below.refl _ _).alloc (Nat.le_refl _) (.cells #[.int .i64 6, .int .i64 2, .int .i64 0, .int .i64 0, .slice none 0 0, .int .i64 7, .int .i64 3, .int .i64 0, .int .i64 0, .slice none 0 0] 74))
  refine append_any _ base g 5 2 [] (.slice none 0 0) L1 w.heap.size 0 2 2 [⟨6, 2, 0, 0, .slice none 0 0⟩, ⟨7, 3, 0, 0, .slice none 0 0⟩] (fun k => if k ≤ 1 then 2 else 3) (fun j x hx => ?_) rfl ⟨fun k e he => ?_, fun k e he => ?_, fun k e he => ?_, fun k e he => ?_⟩ rfl (by simp) (by have := L.blk.lt; omega) (by simp [Value.ownBlock]) (by decide)
  · rw [Nat.zero_add, World.cell?_alloc_new]
    simpa [flatE, Ent.cells] using hx
  all_goals
    rcases k with _ | _ | k
    · simp at he; subst he; first | rfl | decide
    · simp at he; subst he; first | rfl | decide
    · simp at he

set_option maxRecDepth 100000 in
set_option maxHeartbeats 1000000 in
theorem alive23_any (w : World) :
    Calls Try.prog 25 #[] w fun e w' => e = .returned (.bool true) ∧ Below w.heap.size w w' := by
  have hN := new_any 5 2 w (by decide)
  have e5 : max (5 : Int) 0 = 5 := by decide
  have e2 : max (2 : Int) 0 = 2 := by decide
  rw [e5, e2] at hN
  have HN := Lib.hid hN
  clear hN e5 e2
  go_enter Try.func25, Try.ntmps25
  go_wp2_with (first
    | (go_at_call 26; refine HN.out.mono ?_; rintro e w1 ⟨rfl, L1, b1⟩)
    | (go_at_call 27; refine (alive_app _ _ _ L1).mono ?_; rintro e w2 ⟨rfl, v2, L2, b2⟩; have B2 := below_of b2 (b1.alloc b1.size _) (Nat.le_refl _); have H2 := Lib.hid L2; clear L2)
    | (go_at_call 29; refine (term_any _ _ _ _ _ _ _ 7 H2.out).mono ?_; rintro e w3 ⟨rfl, q3⟩; have q3' : Qt w2 w3 := q3)
    | (go_at_call 30; refine (histfirst_any _ _ _ _ _ _ _ (H2.out.qt q3')).mono ?_; rintro e w4 ⟨rfl, q4⟩; have q4' : Qt w2 w4 := q3'.trans q4)
    | (go_at_call 21; refine (last_any _ _ _ _ _ _ _ (H2.out.qt q4')).mono ?_; rintro e w5 ⟨rfl, q5⟩; have q5' : Qt w2 w5 := q4'.trans q5)
    | (go_at_call 22; refine (lastterm_any _ _ _ _ _ _ _ (H2.out.qt q5')).mono ?_; rintro e w6 ⟨rfl, q6⟩; have q6' : Qt w2 w6 := q5'.trans q6)
    | (go_at_call 34; refine (back_any _ _ _ _ _ _ _ 9 2 (H2.out.qt q6')).mono ?_; rintro e w7 ⟨rfl, q7⟩; have q7' : Qt w2 w7 := q6'.trans q7)
    | (go_at_call 20; with_reducible refine (newer_any _ _ _ _ _ _ _ 7 3 (H2.out.qt q7')).mono ?_; rintro e w8 ⟨rfl, q8⟩; have q8' : Qt w2 w8 := q7'.trans q8)
    | (go_at_call 20; with_reducible refine (newer_any _ _ _ _ _ _ _ 6 3 (H2.out.qt q8')).mono ?_; rintro e w9 ⟨rfl, q9⟩; have q9' : Qt w2 w9 := q8'.trans q9))
  go_ret
  exact ⟨ret_bool (by rfl), below_of (q9'.below w2.heap.size) B2 B2.size⟩
end Go.Proofs.Ytcmjijlegmdebaa
