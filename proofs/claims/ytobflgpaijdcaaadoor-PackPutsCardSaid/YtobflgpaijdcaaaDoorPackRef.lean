/-
  The document's own reader, its Fit and Text; the acts of the pack laws in memory. Conditions: no more bytes than memory holds.
-/
import Derived.Test.YtobflgpaijdcaaaDoorPackBackW
import Derived.Test.YtobflgpaijdcaaaDoorRefNum
namespace Go.Proofs.YtobflgpaijdcaaaDoor
open Go Go.RowKit
attribute [local go_sem] cell_set_if

theorem low_as {w : World} {v n : Nat} {T : ByteArray} (hv : v < 18446744073709551616) (hn : n ≤ 1000000) (e : lowB v n = bts T) : Calls Tryd.prog 37 #[.int .u64 v, .int .i64 n] w fun e w' => e = .returned (.string T) ∧ Below w.heap.size w w' := by
  have := low_any v n w hv hn
  rw [e, show str (bts T) = .string T by rw [show str (bts T) = .string (bs (bts T)) from rfl, bs_bts]] at this
  exact this

theorem fit_no (v : Int) (n : Nat) (w : World) (hn : n = 1 ∨ n = 2 ∨ n = 4) (h0 : v ≤ 9223372036854775807) (h : v < 0 ∨ (256 : Int) ^ n ≤ v) :
    Calls Tryd.prog 35 #[.int .i64 v, .int .i64 n] w fun e w' => e = .returned (.tuple #[.string ⟨#[]⟩, .bool false]) ∧ Below w.heap.size w w' := by
  have h' : v < 0 ∨ (0 ≤ v ∧ (256 : Int) ^ n ≤ v) := by
    rcases h with h | h
    · exact .inl h
    · by_cases h1 : v < 0
      · exact .inl h1
      · exact .inr ⟨by omega, h⟩
  clear h
  rcases hn with rfl | rfl | rfl
  all_goals
    rcases h' with h | ⟨h1, h⟩
    · go_enter Tryd.func35, Tryd.ntmps35
      go_wp2
      go_ret2
      exact ⟨rfl, Below.refl _ _⟩
    · simp at h
      go_enter Tryd.func35, Tryd.ntmps35
      go_wp2
      go_ret2
      exact ⟨rfl, Below.refl _ _⟩
set_option maxRecDepth 100000 in
theorem fit_yes1 (v : Int) (w : World) (T : ByteArray) (h0 : 0 ≤ v) (h : v < 256) (hT : lowB v.toNat 1 = bts T) :
    Calls Tryd.prog 35 #[.int .i64 v, .int .i64 1] w fun e w' => e = .returned (.tuple #[.string T, .bool true]) ∧ Below w.heap.size w w' := by
  have HL : Hid (∀ w, Calls Tryd.prog 37 #[.int .u64 v, .int .i64 1] w fun e w' => e = .returned (.string T) ∧ Below w.heap.size w w') := by
    intro w
    have := low_as (w := w) (v := v.toNat) (n := 1) (by omega) (by omega) hT
    rwa [Int.toNat_of_nonneg h0] at this
  clear hT
  go_enter Tryd.func35, Tryd.ntmps35
  go_wp2_with (go_at_call 37; refine (HL.out _).mono ?_; rintro e w1 ⟨rfl, b1⟩)
  go_ret2
  exact ⟨rfl, b1⟩
set_option maxRecDepth 100000 in
theorem fit_yes2 (v : Int) (w : World) (T : ByteArray) (h0 : 0 ≤ v) (h : v < 65536) (hT : lowB v.toNat 2 = bts T) :
    Calls Tryd.prog 35 #[.int .i64 v, .int .i64 2] w fun e w' => e = .returned (.tuple #[.string T, .bool true]) ∧ Below w.heap.size w w' := by
  have HL : Hid (∀ w, Calls Tryd.prog 37 #[.int .u64 v, .int .i64 2] w fun e w' => e = .returned (.string T) ∧ Below w.heap.size w w') := by
    intro w
    have := low_as (w := w) (v := v.toNat) (n := 2) (by omega) (by omega) hT
    rwa [Int.toNat_of_nonneg h0] at this
  clear hT
  go_enter Tryd.func35, Tryd.ntmps35
  go_wp2_with (go_at_call 37; refine (HL.out _).mono ?_; rintro e w1 ⟨rfl, b1⟩)
  go_ret2
  exact ⟨rfl, b1⟩
set_option maxRecDepth 100000 in
theorem fit_yes4 (v : Int) (w : World) (T : ByteArray) (h0 : 0 ≤ v) (h : v < 4294967296) (hT : lowB v.toNat 4 = bts T) :
    Calls Tryd.prog 35 #[.int .i64 v, .int .i64 4] w fun e w' => e = .returned (.tuple #[.string T, .bool true]) ∧ Below w.heap.size w w' := by
  have HL : Hid (∀ w, Calls Tryd.prog 37 #[.int .u64 v, .int .i64 4] w fun e w' => e = .returned (.string T) ∧ Below w.heap.size w w') := by
    intro w
    have := low_as (w := w) (v := v.toNat) (n := 4) (by omega) (by omega) hT
    rwa [Int.toNat_of_nonneg h0] at this
  clear hT
  go_enter Tryd.func35, Tryd.ntmps35
  go_wp2_with (go_at_call 37; refine (HL.out _).mono ?_; rintro e w1 ⟨rfl, b1⟩)
  go_ret2
  exact ⟨rfl, b1⟩
theorem fit_yes (v : Int) (n : Nat) (w : World) (T : ByteArray) (hn : n = 1 ∨ n = 2 ∨ n = 4) (h0 : 0 ≤ v) (h : v < (256 : Int) ^ n) (hT : lowB v.toNat n = bts T) :
    Calls Tryd.prog 35 #[.int .i64 v, .int .i64 n] w fun e w' => e = .returned (.tuple #[.string T, .bool true]) ∧ Below w.heap.size w w' := by
  rcases hn with rfl | rfl | rfl
  · exact fit_yes1 v w T h0 (by omega) hT
  · exact fit_yes2 v w T h0 (by omega) hT
  · exact fit_yes4 v w T h0 (by omega) hT
theorem rtext_no (t : ByteArray) (w : World) (h : 65535 < t.size) :
    Calls Tryd.prog 38 #[.string t] w fun e w' => e = .returned (.tuple #[.string ⟨#[]⟩, .bool false]) ∧ Below w.heap.size w w' := by
  have h' : (65535 : Int) < (t.size : Int) := by omega
  clear h
  go_enter Tryd.func38, Tryd.ntmps38
  go_wp2
  go_ret2
  exact ⟨rfl, Below.refl _ _⟩
set_option maxRecDepth 100000 in
theorem rtext_yes (t : ByteArray) (w : World) (h : t.size ≤ 65535) :
    Calls Tryd.prog 38 #[.string t] w fun e w' => (∃ T : ByteArray, bts T = lowB t.size 2 ++ bts t ∧ e = .returned (.tuple #[.string T, .bool true])) ∧ Below w.heap.size w w' := by
  have h' : (t.size : Int) ≤ 65535 := by omega
  obtain ⟨L, hL⟩ : ∃ L, L = bs (lowB t.size 2) := ⟨_, rfl⟩
  have hLb : lowB t.size 2 = bts L := by rw [hL]; rfl
  have hLs : L.size = 2 := by rw [← bts_len, ← hLb, lowB_len]
  have hmax : ¬ (9223372036854775807 < L.size + t.size) := by omega
  have HL := Lib.hid hLb
  clear hL hLb hLs h
  go_enter Tryd.func38, Tryd.ntmps38
  go_wp2_with (go_at_call 37; refine (low_as (by omega) (by omega) HL.out).mono ?_; rintro e w1 ⟨rfl, b1⟩)
  go_ret2
  exact ⟨⟨_, by rw [bts_append, HL.out], rfl⟩, b1⟩

/-- The document's reader: what is left, and its error. -/
def RefS (w : World) (g : Nat) (s : PS) : Prop := Blk w g 30 #[str s.1, .int .i64 s.2]
theorem RefS.lt {w : World} {g : Nat} {s : PS} (h : RefS w g s) : g < w.heap.size := Blk.lt h
theorem RefS.below {g : Nat} {w w' : World} {s : PS} (h : RefS w g s) (hb : Below w.heap.size w w') : RefS w' g s := Blk.below h hb
theorem RefS.frm {g : Nat} {w w' : World} {s : PS} {S : Nat → Prop} (h : RefS w g s) (hb : Frm S w w') (hs : ¬ S g) : RefS w' g s := Blk.frm h hb hs
theorem RefS.cell0 {g : Nat} {w : World} {s : PS} (h : RefS w g s) : w.cell? ⟨g, 0, none⟩ = some (str s.1) := by
  have hB : Blk w g 30 #[str s.1, .int .i64 s.2] := h
  rw [hB.cell 0]; rfl
theorem RefS.cell1 {g : Nat} {w : World} {s : PS} (h : RefS w g s) : w.cell? ⟨g, 1, none⟩ = some (.int .i64 s.2) := by
  have hB : Blk w g 30 #[str s.1, .int .i64 s.2] := h
  rw [hB.cell 1]; rfl

set_option maxRecDepth 100000 in
theorem rraw_s (g : Nat) (s : PS) (n : Int) (w : World) (h : RefS w g s) :
    Calls Tryd.prog 23 #[ptr g, .int .i64 n] w fun e w' => e = .returned (str (getRaw n s).1) ∧ RefS w' g (getRaw n s).2 ∧ Frm (at1 g) w w' := by
  obtain ⟨l, x⟩ := s
  have hB : Blk w g 30 #[str l, .int .i64 x] := h
  have c1 : w.cell? ⟨g, 1, none⟩ = some (.int .i64 x) := by rw [hB.cell 1]; rfl
  have c0 : w.cell? ⟨g, 0, none⟩ = some (str l) := by rw [hB.cell 0]; rfl
  have f1 := hB.free 1
  have f0 := hB.free 0
  by_cases hx : x = 0
  · subst hx
    obtain ⟨q, hq⟩ : ∃ q, q = bs l := ⟨_, rfl⟩
    have hqs : q.size = l.length := by rw [hq, bs_size]
    have hstr : str l = .string q := by rw [hq]
    have hql : bts q = l := by rw [hq]; rfl
    rw [hstr] at c0 hB
    clear hstr h hq
    by_cases hn : n < 0
    · have hE : getRaw n (l, 0) = ([], (l, 1)) := by simp [getRaw, hn]
      rw [hE]
      have HB := Lib.hid hB
      have HQ := Lib.hid hql
      clear hE hB hqs hql
      go_enter Tryd.func23, Tryd.ntmps23
      go_wp2
      go_ret
      refine ⟨rfl, ?_, (Frm.refl (at1 g) w).setCell (p := ⟨g, 1, none⟩) (fun _ => rfl) _⟩
      have := HB.out.set_ 1 (.int .i64 1)
      rw [show (.string q : Value) = str l by rw [← HQ.out]; rw [show str (bts q) = .string (bs (bts q)) from rfl, bs_bts]] at this
      exact this
    · by_cases hn2 : (l.length : Int) < n
      · have hE : getRaw n (l, 0) = ([], (l, 5)) := by simp [getRaw, hn, hn2]
        rw [hE]
        have hn3 : (q.size : Int) < n := by omega
        have HB := Lib.hid hB
        have HQ := Lib.hid hql
        clear hE hB hqs hql hn2
        go_enter Tryd.func23, Tryd.ntmps23
        go_wp2
        go_ret
        refine ⟨rfl, ?_, (Frm.refl (at1 g) w).setCell (p := ⟨g, 1, none⟩) (fun _ => rfl) _⟩
        have := HB.out.set_ 1 (.int .i64 5)
        rw [show (.string q : Value) = str l by rw [← HQ.out]; rw [show str (bts q) = .string (bs (bts q)) from rfl, bs_bts]] at this
        exact this
      · obtain ⟨m, rfl⟩ := Int.eq_ofNat_of_zero_le (by omega : 0 ≤ n)
        have hE : getRaw (m : Int) (l, 0) = (l.take m, (l.drop m, 0)) := by
          have : ¬ ((l.length : Int) < (m : Int)) := hn2
          simp only [getRaw, if_true, if_neg hn, if_neg this, Int.toNat_natCast]
        rw [hE]
        have hm : (m : Int) ≤ (q.size : Int) := by omega
        have HB := Lib.hid hB
        have HQ := Lib.hid hql
        clear hE hB hqs hql hn2 hn
        go_enter Tryd.func23, Tryd.ntmps23
        go_wp2
        go_ret
        have e1 : q.extract 0 m = bs (l.take m) := bts_inj (by rw [bts_extract, HQ.out]; rfl)
        have e2 : q.extract m q.size = bs (l.drop m) := bts_inj (by rw [bts_extract, ← bts_len, List.take_length, HQ.out]; rfl)
        refine ⟨by show Ending.returned (.string (q.extract 0 m)) = _; rw [e1], ?_, (Frm.refl (at1 g) w).setCell (p := ⟨g, 0, none⟩) (fun _ => rfl) _⟩
        have := HB.out.set_ 0 (.string (q.extract m q.size))
        rw [e2] at this ⊢
        exact this
  · have hE : getRaw n (l, x) = ([], (l, x)) := by simp [getRaw, hx]
    rw [hE]
    have e2 : (x != 0) = true := by simpa using hx
    clear hE
    go_enter Tryd.func23, Tryd.ntmps23
    go_wp2
    go_ret
    exact ⟨rfl, hB, Frm.refl _ _⟩

theorem rnum_s (g n : Nat) (s : PS) (w : World) (h : RefS w g s) (hn : n ≤ 8) :
    Calls Tryd.prog 16 #[ptr g, .int .i64 n] w fun e w' => e = .returned (.int .i64 (getNum n s).1) ∧ RefS w' g (getNum n s).2 ∧ Frm (at1 g) w w' := by
  have HG := Lib.hid (rraw_s g s n w h)
  have hlen := getRaw_len n s
  have hlt := num_lt8 hlen hn
  have hs := sgn64_of hlt
  unfold getNum
  dsimp only
  generalize getRaw (n : Int) s = r at HG hlt hs hlen ⊢
  obtain ⟨a, r⟩ := r
  obtain ⟨q, hq⟩ : ∃ q, q = bs a := ⟨_, rfl⟩
  have hqa : bts q = a := by rw [hq]; rfl
  have hqs : q.size ≤ 8 := by rw [← bts_len, hqa]; exact Nat.le_trans hlen hn
  have HG2 : Hid (Calls Tryd.prog 23 #[ptr g, .int .i64 n] w fun e w' => e = .returned (.string q) ∧ RefS w' g r ∧ Frm (at1 g) w w') := by rw [hq]; exact HG
  have hN : ∀ w, Calls Tryd.prog 55 #[.string q] w fun e w' => e = .returned (.int .u64 (numL a)) ∧ w' = w := fun w => by have := refnum_any q w hqs; rwa [hqa] at this
  have HN := Lib.hid hN
  clear hN HG hq hqa hqs hlen hn
  generalize sgn64 (numL a) = z at hs ⊢
  go_enter Tryd.func16, Tryd.ntmps16
  go_wp2_with (first
    | (go_at_call 23; refine HG2.out.mono ?_; rintro e w1 ⟨rfl, q1⟩)
    | (go_at_call 55; refine (HN.out _).mono ?_; rintro e w2 ⟨rfl, hw⟩; subst hw))
  go_ret
  exact ⟨rfl, q1⟩
theorem rtext_s (g : Nat) (s : PS) (w : World) (h : RefS w g s) :
    Calls Tryd.prog 21 #[ptr g] w fun e w' => e = .returned (str (getText s).1) ∧ RefS w' g (getText s).2 ∧ Frm (at1 g) w w' := by
  have HG := Lib.hid (rnum_s g 2 s w h (by omega))
  unfold getText
  generalize getNum 2 s = r at HG ⊢
  obtain ⟨n, r⟩ := r
  have hraw : ∀ w, RefS w g r → Calls Tryd.prog 23 #[ptr g, .int .i64 n] w fun e w' => e = .returned (str (getRaw n r).1) ∧ RefS w' g (getRaw n r).2 ∧ Frm (at1 g) w w' := fun w h => rraw_s g r n w h
  have HRW := Lib.hid hraw
  clear hraw
  obtain ⟨S, hS⟩ : ∃ S, S = str (getRaw n r).1 := ⟨_, rfl⟩
  rw [← hS] at HRW ⊢
  clear hS
  go_enter Tryd.func21, Tryd.ntmps21
  go_wp2_with (first
    | (go_at_call 16; refine HG.out.mono ?_; rintro e w1 ⟨rfl, q1, f1⟩)
    | (go_at_call 23; refine (HRW.out _ q1).mono ?_; rintro e w2 ⟨rfl, q2, f2⟩))
  go_ret
  exact ⟨rfl, q2, f1.then_ f2⟩
theorem rleft_s (g : Nat) (s : PS) (w : World) (h : RefS w g s) : Calls Tryd.prog 25 #[ptr g] w fun e w' => e = .returned (.int .i64 (leftP s)) ∧ w' = w := by
  obtain ⟨l, x⟩ := s
  have c0 : w.cell? ⟨g, 0, none⟩ = some (str l) := h.cell0
  have c1 : w.cell? ⟨g, 1, none⟩ = some (.int .i64 x) := h.cell1
  have hz := bs_size l
  clear h
  by_cases hx : x = 0
  · subst hx
    have HE : Hid (leftP (l, 0) = l.length) := by unfold Hid; simp [leftP]
    obtain ⟨q, hq⟩ : ∃ q, q = bs l := ⟨_, rfl⟩
    have hstr : str l = .string q := by rw [hq]
    rw [hstr] at c0
    rw [← hq] at hz
    have HZ := Lib.hid hz
    clear hq hstr hz
    go_enter Tryd.func25, Tryd.ntmps25
    go_wp2
    go_ret
    exact ⟨ret_int (by rw [HE.out, HZ.out]), rfl⟩
  · have HE : Hid (leftP (l, x) = 0) := by unfold Hid; simp [leftP, hx]
    have e2 : (x != 0) = true := by simpa using hx
    clear hz c0
    go_enter Tryd.func25, Tryd.ntmps25
    go_wp2
    go_ret
    exact ⟨ret_int HE.out.symm, rfl⟩
theorem rend_s (g : Nat) (s : PS) (w : World) (h : RefS w g s) : Calls Tryd.prog 28 #[ptr g] w fun e w' => e = .returned (.int .i64 (endG s).2) ∧ RefS w' g (endG s) ∧ Frm (at1 g) w w' := by
  obtain ⟨l, x⟩ := s
  have hB : Blk w g 30 #[str l, .int .i64 x] := h
  have c0 : w.cell? ⟨g, 0, none⟩ = some (str l) := h.cell0
  have c1 : w.cell? ⟨g, 1, none⟩ = some (.int .i64 x) := h.cell1
  have f1 := hB.free 1
  have hz := bs_size l
  have HB := Lib.hid hB
  clear hB h
  obtain ⟨q, hq⟩ : ∃ q, q = bs l := ⟨_, rfl⟩
  have hstr : str l = .string q := by rw [hq]
  rw [hstr] at c0
  rw [← hq] at hz
  clear hq hstr
  by_cases hx : x = 0
  · subst hx
    by_cases hl : 0 < l.length
    · have hE : endG (l, 0) = (l, 6) := by simp [endG, hl]
      rw [hE]
      have hq0 : (0 : Int) < (q.size : Int) := by omega
      clear hE hz hl
      go_enter Tryd.func28, Tryd.ntmps28
      go_wp2
      go_ret
      exact ⟨rfl, HB.out.set_ 1 _, (Frm.refl (at1 g) w).setCell (p := ⟨g, 1, none⟩) (fun _ => rfl) _⟩
    · have hE : endG (l, 0) = (l, 0) := by unfold endG; rw [if_neg (by simp only [true_and]; exact hl)]
      rw [hE]
      have hq0 : (q.size : Int) ≤ 0 := by omega
      clear hE hz hl
      go_enter Tryd.func28, Tryd.ntmps28
      go_wp2
      go_ret
      exact ⟨rfl, HB.out, Frm.refl _ _⟩
  · have hE : endG (l, x) = (l, x) := by unfold endG; rw [if_neg (fun h => hx h.1)]
    rw [hE]
    have e1 : (x == 0) = false := by simpa using hx
    clear hE hz
    go_enter Tryd.func28, Tryd.ntmps28
    go_wp2
    go_ret
    exact ⟨rfl, HB.out, Frm.refl _ _⟩
end Go.Proofs.YtobflgpaijdcaaaDoor
