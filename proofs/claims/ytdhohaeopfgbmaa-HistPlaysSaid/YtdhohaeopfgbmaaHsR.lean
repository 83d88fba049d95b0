/-
  The document's log of any entries: what its reading calls give. Condition: its base and its length are below 2^60.
-/
import Derived.Test.YtdhohaeopfgbmaaHsD
namespace Go.Proofs.Ytdhohaeopfgbmaa
open Go Go.RowKit
attribute [local go_sem] cell_set_if

/-- The document's log: its row is only read, and lies anywhere. -/
structure RefM (w : World) (base g : Nat) (idx trm : Int) (es : List En) (A : Option Addr) (c : Nat) : Prop where
  blk : Blk w g 46 #[.int .i64 idx, .int .i64 trm, .slice A es.length c]
  low : base ≤ g
  rd : Rd w A (flatEn es)
  nc : es.length ≤ c
  cm : c ≤ maxLen
  hi : ∀ a, A = some a → base ≤ a.block ∧ a.block ≠ g
  i0 : 0 ≤ idx
  i1 : idx ≤ 1152921504606846976
  n1 : es.length ≤ 1000000
  ix : ∀ (k : Nat) x, es[k]? = some x → x.index = idx + k + 1
theorem RefM.below {w w' : World} {base g : Nat} {idx trm : Int} {es : List En} {A : Option Addr} {c : Nat} (h : RefM w base g idx trm es A c) (b : Below w.heap.size w w') : RefM w' base g idx trm es A c := ⟨h.blk.below b, h.low, h.rd.below b, h.nc, h.cm, h.hi, h.i0, h.i1, h.n1, h.ix⟩
theorem RefM.qt {w w' : World} {base g : Nat} {idx trm : Int} {es : List En} {A : Option Addr} {c : Nat} (h : RefM w base g idx trm es A c) (q : Qt w w') : RefM w' base g idx trm es A c := h.below (q.below _)
theorem RefM.drewN {w : World} {base g : Nat} {idx trm : Int} {es : List En} {A : Option Addr} {c : Nat} (h : RefM w base g idx trm es A c) (n : Nat) : RefM (w.drewN n) base g idx trm es A c := h.qt (Qt.drewN _ _)
theorem RefM.frm {w w' : World} {base g : Nat} {idx trm : Int} {es : List En} {A : Option Addr} {c : Nat} {S : Nat → Prop} (h : RefM w base g idx trm es A c) (k : Frm S w w') (hg : ¬ S g) (hA : ∀ a, A = some a → ¬ S a.block) : RefM w' base g idx trm es A c := ⟨h.blk.frm k hg, h.low, h.rd.frm k hA, h.nc, h.cm, h.hi, h.i0, h.i1, h.n1, h.ix⟩
theorem rnew_m (i t : Int) (w : World) (hi : i ≤ 1152921504606846976) :
    Calls Try.prog 7 #[.int .i64 i, .int .i64 t] w fun e w' => e = .returned (.pointer (some ⟨w.heap.size, 0, none⟩)) ∧ RefM w' w.heap.size w.heap.size (max i 0) (max t 0) [] none 0 ∧ Below w.heap.size w w' :=
  (ref_new_any i t w hi).mono fun e w' ⟨h1, h2, h3⟩ => ⟨h1, ⟨h2.blk, Nat.le_refl _, Rd.nil _ _, Nat.le_refl _, by unfold maxLen; omega, fun a ha => (by cases ha), h2.i0, h2.i1, by simp, fun k x hx => by simp at hx⟩, h3⟩
theorem rlast_m (w : World) (base g : Nat) (idx trm : Int) (es : List En) (A : Option Addr) (c : Nat) (h : RefM w base g idx trm es A c) :
    Calls Try.prog 8 #[.pointer (some ⟨g, 0, none⟩)] w fun e w' => e = .returned (.int .i64 (idx + es.length)) ∧ Qt w w' := by
  have c0 := h.blk.cell 0
  have c2 := h.blk.cell 2
  have h0 := h.i0
  have h1 := h.i1
  have h2 := h.n1
  simp at c0 c2
  clear h
  go_enter Try.func8, Try.ntmps8
  go_wp2
  go_quiet (fail)
  go_wp2
  go_ret
  exact ⟨rfl, Qt.drewN _ _⟩
set_option maxHeartbeats 1000000 in
theorem rat_no (w : World) (base g : Nat) (idx trm : Int) (es : List En) (A : Option Addr) (c : Nat) (i : Int) (h : RefM w base g idx trm es A c) (hi : i < idx ∨ idx + es.length < i) :
    Calls Try.prog 9 #[.pointer (some ⟨g, 0, none⟩), .int .i64 i] w fun e w' => e = .returned (.tuple #[.int .i64 0, .bool false]) ∧ Qt w w' := by
  have HH := Lib.hid h
  have c0 := h.blk.cell 0
  simp at c0
  clear h
  have hne : (i == idx) = false := by simp; omega
  by_cases h1 : i < idx
  · clear hi
    go_enter Try.func9, Try.ntmps9
    go_wp2
    go_ret2
    exact ⟨rfl, Qt.refl _⟩
  · have h2 : idx + es.length < i := by omega
    clear hi
    go_enter Try.func9, Try.ntmps9
    go_wp2_with (go_at_call 8; refine (rlast_m _ _ _ _ _ _ _ _ HH.out).mono ?_; rintro e w1 ⟨rfl, hq⟩)
    go_ret2
    exact ⟨rfl, hq⟩
set_option maxHeartbeats 1000000 in
theorem rat_base (w : World) (base g : Nat) (idx trm : Int) (es : List En) (A : Option Addr) (c : Nat) (h : RefM w base g idx trm es A c) :
    Calls Try.prog 9 #[.pointer (some ⟨g, 0, none⟩), .int .i64 idx] w fun e w' => e = .returned (.tuple #[.int .i64 trm, .bool true]) ∧ Qt w w' := by
  have c0 := h.blk.cell 0
  have c1 := h.blk.cell 1
  simp at c0 c1
  clear h
  go_enter Try.func9, Try.ntmps9
  go_wp2
  go_ret2
  exact ⟨rfl, Qt.refl _⟩
set_option maxHeartbeats 1000000 in
theorem rat_at (w : World) (base g : Nat) (idx trm : Int) (es : List En) (A : Option Addr) (c : Nat) (k : Nat) (h : RefM w base g idx trm es A c) (hk : k < es.length) :
    Calls Try.prog 9 #[.pointer (some ⟨g, 0, none⟩), .int .i64 (idx + k + 1)] w fun e' w' => (∃ x, es[k]? = some x ∧ e' = .returned (.tuple #[.int .i64 x.term, .bool true])) ∧ Qt w w' := by
  have HH := Lib.hid h
  have c0 := h.blk.cell 0
  have hi0 := h.i0
  have hi1 := h.i1
  have hn1 := h.n1
  obtain ⟨b, o, x, rfl, _, hx, d0, d1, d2, d3, d4⟩ := h.rd.en hk
  simp at c0
  have HX := Lib.hid hx
  clear h hx d0 d2 d3 d4
  have hne : (idx + (k : Int) + 1 == idx) = false := by simp; omega
  go_enter Try.func9, Try.ntmps9
  go_wp2_with (go_at_call 8; refine (rlast_m _ _ _ _ _ _ _ _ HH.out).mono ?_; rintro e w1 ⟨rfl, n, rfl⟩; have c0 := (HH.out.drewN n).blk.cell 0; have c2 := (HH.out.drewN n).blk.cell 2; simp at c0 c2)
  have e1 : IntKind.i64.wrap (idx + k + 1 - idx) = (k : Int) + 1 := by rw [show idx + k + 1 - idx = (k : Int) + 1 by omega]; exact IntWalk.i64_in _ (by omega)
  have e2 : IntKind.i64.wrap (k : Int) = (k : Int) := IntWalk.i64_in _ (by omega)
  have e3 : IntKind.i64.wrap ((k : Int) + 1 - 1) = (k : Int) := by rw [show (k : Int) + 1 - 1 = (k : Int) by omega]; exact e2
  have hki : (k : Int) < (es.length : Int) := by omega
  go_quiet (fail)
  go_wp2
  go_ret2
  exact ⟨⟨x, HX.out, rfl⟩, (Qt.drewN w n).trans (Qt.drewN _ _)⟩
theorem rat_m (w : World) (base g : Nat) (idx trm : Int) (es : List En) (A : Option Addr) (c : Nat) (i : Int) (h : RefM w base g idx trm es A c) :
    Calls Try.prog 9 #[.pointer (some ⟨g, 0, none⟩), .int .i64 i] w fun e' w' => e' = .returned (.tuple #[.int .i64 ((termE idx trm (ents es) i).getD 0), .bool (termE idx trm (ents es) i).isSome]) ∧ Qt w w' := by
  have hel := ents_len es
  by_cases h1 : i < idx ∨ idx + es.length < i
  · have : termE idx trm (ents es) i = none := by unfold termE; rw [hel, if_pos h1]
    rw [this]
    exact rat_no w base g idx trm es A c i h h1
  · by_cases h2 : i = idx
    · subst h2
      rw [termE_base]
      exact rat_base w base g i trm es A c h
    · obtain ⟨k, hk⟩ : ∃ k : Nat, i = idx + k + 1 := ⟨(i - idx - 1).toNat, by omega⟩
      have hkl : k < es.length := by omega
      subst hk
      refine (rat_at w base g idx trm es A c k h hkl).mono fun e w' ⟨⟨x, hx, he⟩, q⟩ => ⟨?_, q⟩
      have : termE idx trm (ents es) (idx + k + 1) = some x.term := by
        rw [termE_in _ _ _ _ (by omega) (by rw [hel]; omega), show (idx + (k : Int) + 1 - idx - 1).toNat = k by omega, ents_at hx]; rfl
      rw [this]; exact he
theorem rlastterm_m (w : World) (base g : Nat) (idx trm : Int) (es : List En) (A : Option Addr) (c : Nat) (h : RefM w base g idx trm es A c) :
    Calls Try.prog 10 #[.pointer (some ⟨g, 0, none⟩)] w fun e' w' => e' = .returned (.int .i64 (lastT trm (ents es))) ∧ Qt w w' := by
  have hE := termE_last idx trm (ents es) h.i0
  rw [ents_len] at hE
  have E := Lib.hid hE
  have HH := Lib.hid h
  clear h hE
  go_enter Try.func10, Try.ntmps10
  go_wp2_with (first
    | (go_at_call 8; refine (rlast_m _ _ _ _ _ _ _ _ HH.out).mono ?_; rintro e w1 ⟨rfl, q1⟩)
    | (go_at_call 9; refine (rat_m _ _ _ _ _ _ _ _ _ (HH.out.qt q1)).mono ?_; rw [E.out]; rintro e w2 ⟨rfl, q2⟩))
  go_ret
  exact ⟨rfl, q1.trans q2⟩
set_option maxHeartbeats 1000000 in
theorem rhas_m (w : World) (base g : Nat) (idx trm : Int) (es : List En) (A : Option Addr) (c : Nat) (i t : Int) (h : RefM w base g idx trm es A c) :
    Calls Try.prog 29 #[.pointer (some ⟨g, 0, none⟩), .int .i64 i, .int .i64 t] w fun e w' => e = .returned (.bool (hasB idx trm (ents es) i t)) ∧ Qt w w' := by
  have HT := Lib.hid (rat_m w base g idx trm es A c i h)
  have c0 := h.blk.cell 0
  simp at c0
  obtain ⟨r, hr⟩ : ∃ r, r = hasB idx trm (ents es) i t := ⟨_, rfl⟩
  rw [← hr]
  unfold hasB at hr
  by_cases hi : i < idx
  · have HR : Hid (r = true) := by unfold Hid; rw [hr]; simp [hi]
    clear hr h
    go_enter Try.func29, Try.ntmps29
    go_wp2
    go_ret
    exact ⟨ret_bool HR.out.symm, Qt.refl _⟩
  · cases hT : termE idx trm (ents es) i with
    | none =>
      have HR : Hid (r = false) := by unfold Hid; rw [hr, hT]; simp [hi]
      rw [hT] at HT
      have HT2 : Hid (Calls Try.prog 9 #[.pointer (some ⟨g, 0, none⟩), .int .i64 i] w fun e' w' => e' = .returned (.tuple #[.int .i64 0, .bool false]) ∧ Qt w w') := HT
      clear hr h hT HT
      go_enter Try.func29, Try.ntmps29
      go_wp2_with (go_at_call 9; refine HT2.out.mono ?_; rintro e w1 ⟨rfl, q1⟩)
      go_ret
      exact ⟨ret_bool HR.out.symm, q1⟩
    | some u =>
      have HR : Hid (r = (u == t)) := by unfold Hid; rw [hr, hT]; by_cases hut : u = t <;> simp [hi, hut]
      rw [hT] at HT
      have HT2 : Hid (Calls Try.prog 9 #[.pointer (some ⟨g, 0, none⟩), .int .i64 i] w fun e' w' => e' = .returned (.tuple #[.int .i64 u, .bool true]) ∧ Qt w w') := HT
      clear hr h hT HT
      go_enter Try.func29, Try.ntmps29
      go_wp2_with (go_at_call 9; refine HT2.out.mono ?_; rintro e w1 ⟨rfl, q1⟩)
      go_ret
      exact ⟨ret_bool HR.out.symm, q1⟩
set_option maxHeartbeats 1000000 in
theorem rnewer_m (w : World) (base g : Nat) (idx trm : Int) (es : List En) (A : Option Addr) (c : Nat) (i t : Int) (h : RefM w base g idx trm es A c) :
    Calls Try.prog 33 #[.pointer (some ⟨g, 0, none⟩), .int .i64 i, .int .i64 t] w fun e' w' => e' = .returned (.bool (newerB idx trm (ents es) i t)) ∧ Qt w w' := by
  have HH := Lib.hid h
  clear h
  obtain ⟨r, hr⟩ : ∃ r, r = newerB idx trm (ents es) i t := ⟨_, rfl⟩
  rw [← hr]
  unfold newerB at hr
  rw [ents_len] at hr
  obtain ⟨l, hl⟩ : ∃ l, l = lastT trm (ents es) := ⟨_, rfl⟩
  rw [← hl] at hr
  have hlt : ∀ w, RefM w base g idx trm es A c → Calls Try.prog 10 #[.pointer (some ⟨g, 0, none⟩)] w fun e' w' => e' = .returned (.int .i64 l) ∧ Qt w w' := by
    rw [hl]; exact fun w h => rlastterm_m w base g idx trm es A c h
  have HL := Lib.hid hlt
  clear hl hlt
  by_cases h1 : l < t
  · have HR : Hid (r = true) := by unfold Hid; rw [hr]; simp [h1]
    clear hr
    go_enter Try.func33, Try.ntmps33
    go_wp2_with (go_at_call 10; refine (HL.out _ HH.out).mono ?_; rintro e w1 ⟨rfl, q1⟩)
    go_ret
    exact ⟨ret_bool HR.out.symm, q1⟩
  · by_cases h2 : t = l
    · have h2' : (t == l) = true := by simpa using h2
      have HR : Hid (r = decide (idx + es.length ≤ i)) := by unfold Hid; rw [hr]; simp [h2]
      clear hr h2
      go_enter Try.func33, Try.ntmps33
      go_wp2_with fail
      refine (HL.out _ HH.out).mono ?_; rintro e w1 ⟨rfl, q1⟩
      go_wp2_with fail
      refine (HL.out _ (HH.out.qt q1)).mono ?_; rintro e w2 ⟨rfl, q2⟩
      go_wp2_with fail
      refine (rlast_m _ _ _ _ _ _ _ _ ((HH.out.qt q1).qt q2)).mono ?_; rintro e w3 ⟨rfl, q3⟩
      go_wp2_with fail
      go_ret
      exact ⟨ret_bool (by rw [HR.out, show decide (l < t) = false by simp; omega]; rfl), (q1.trans q2).trans q3⟩
    · have h2' : (t == l) = false := by simpa using h2
      have HR : Hid (r = false) := by unfold Hid; rw [hr]; simp [h1, h2]
      clear hr h2
      go_enter Try.func33, Try.ntmps33
      go_wp2_with fail
      refine (HL.out _ HH.out).mono ?_; rintro e w1 ⟨rfl, q1⟩
      go_wp2_with fail
      refine (HL.out _ (HH.out.qt q1)).mono ?_; rintro e w2 ⟨rfl, q2⟩
      go_wp2_with fail
      go_ret
      exact ⟨ret_bool (by rw [HR.out]; simp; omega), q1.trans q2⟩
set_option maxRecDepth 100000 in
set_option maxHeartbeats 2000000 in
theorem rback_m (w : World) (base g : Nat) (idx trm : Int) (es : List En) (A : Option Addr) (c : Nat) (i t : Int) (h : RefM w base g idx trm es A c) :
    Calls Try.prog 31 #[.pointer (some ⟨g, 0, none⟩), .int .i64 i, .int .i64 t] w fun e w' => e = .returned (.int .i64 (backV idx trm (ents es) i t)) ∧ Qt w w' := by
  obtain ⟨r, hr⟩ : ∃ r, r = backV idx trm (ents es) i t := ⟨_, rfl⟩
  rw [← hr]
  unfold backV at hr
  rw [ents_len] at hr
  have HR := Lib.hid hr
  have HH := Lib.hid h
  have c0 := h.blk.cell 0
  have c2 := h.blk.cell 2
  have i0 := h.i0
  have i1 := h.i1
  have n1 := h.n1
  have HEL := Lib.hid (ents_len es)
  simp at c0 c2
  clear hr h
  go_enter Try.func31, Try.ntmps31
  go_wp2
  go_loopw [7] (fun u7 wr => ∃ k : Int, u7 = .int .i64 k ∧ -1 ≤ k ∧ k < es.length ∧ Hid (r = backE (fun j => (termE idx trm (ents es) j).getD 0) idx t (min i (idx + k + 1) - idx).toNat) ∧ Qt w wr) (fun u7 _ => (intOf u7 + 1).toNat)
  case atStart => exact ⟨(es.length : Int) - 1, by go_num, by omega, by omega, by unfold Hid; rw [HR.out, show idx + ((es.length : Int) - 1) + 1 = idx + es.length by omega], Qt.refl _⟩
  case round =>
    obtain ⟨k, rfl, hk0, hk1, HB, hq⟩ := hrel
    obtain ⟨nq, rfl⟩ := hq
    have c0 : (w.drewN nq).cell? ⟨g, 0, none⟩ = some (.int .i64 idx) := by rw [World.cell?_drewN]; exact HH.out.blk.cell 0
    have c2 : (w.drewN nq).cell? ⟨g, 2, none⟩ = some (.slice A es.length c) := by rw [World.cell?_drewN]; exact HH.out.blk.cell 2
    by_cases hlt : 0 ≤ k
    · obtain ⟨m, rfl⟩ : ∃ m : Nat, k = m := ⟨k.toNat, by omega⟩
      obtain ⟨b, o, x, rfl, _, hx, d0, d1, d2, d3, d4⟩ := (HH.out.drewN nq).rd.en (k := m) (by omega)
      have hix := HH.out.ix m x hx
      have htm : termE idx trm (ents es) (idx + m + 1) = some x.term := by
        rw [termE_in _ _ _ _ (by omega) (by rw [HEL.out]; omega), show (idx + (m : Int) + 1 - idx - 1).toNat = m by omega, ents_at hx]; rfl
      rw [hix] at d0
      have HTM := Lib.hid htm
      clear hx hix htm d2 d3 d4
      by_cases h1 : idx + m + 1 ≤ i
      · have hst : r = if x.term ≤ t then idx + m + 1 else backE (fun j => (termE idx trm (ents es) j).getD 0) idx t (min i (idx + ((m : Int) - 1) + 1) - idx).toNat := by
          rw [HB.out, show (min i (idx + (m : Int) + 1) - idx).toNat = m + 1 by omega, show (min i (idx + ((m : Int) - 1) + 1) - idx).toNat = m by omega, backE, HTM.out]
          rfl
        have HST := Lib.hid hst
        have t1 : decide (idx + (m : Int) + 1 ≤ i) = true := decide_eq_true h1
        clear hst
        by_cases h2 : x.term ≤ t
        · have t2 : decide (x.term ≤ t) = true := decide_eq_true h2
          go_wp2
          go_ret
          exact ⟨ret_int (by rw [HST.out, if_pos h2]), Qt.drewN _ _⟩
        · have t2 : decide (x.term ≤ t) = false := decide_eq_false h2
          go_wp2
          go_roundw
          case rel => exact ⟨(m : Int) - 1, by go_num, by omega, by omega, by unfold Hid; rw [HST.out, if_neg h2], Qt.drewN _ _⟩
          case measure => first | (simp [intOf]; done) | (simp [intOf]; omega)
      · have t1 : decide (idx + (m : Int) + 1 ≤ i) = false := decide_eq_false h1
        have hst : r = backE (fun j => (termE idx trm (ents es) j).getD 0) idx t (min i (idx + ((m : Int) - 1) + 1) - idx).toNat := by
          rw [HB.out, show min i (idx + (m : Int) + 1) = i by omega, show min i (idx + ((m : Int) - 1) + 1) = i by omega]
        have HST := Lib.hid hst
        clear hst
        go_wp2
        go_roundw
        case rel => exact ⟨(m : Int) - 1, by go_num, by omega, by omega, HST.out, Qt.drewN _ _⟩
        case measure => first | (simp [intOf]; done) | (simp [intOf]; omega)
    · obtain rfl : k = -1 := by omega
      have hst : r = idx := by rw [HB.out, show (min i (idx + (-1) + 1) - idx).toNat = 0 by omega]; rfl
      have HST := Lib.hid hst
      clear hst
      go_wp2
      go_ret
      exact ⟨ret_int HST.out.symm, Qt.drewN _ _⟩
end Go.Proofs.Ytdhohaeopfgbmaa
