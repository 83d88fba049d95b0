/-
  The document's own reader, and its Text. Conditions: no more bytes than memory holds.
-/
import Derived.Test.YtgigkekajdgngaaGreatMtOne
import Derived.Test.YtgigkekajdgngaaGreatRefNum
namespace Go.Proofs.YtgigkekajdgngaaGreat
open Go Go.RowKit
attribute [local go_sem] cell_set_if

theorem low_as {w : World} {v n : Nat} {T : ByteArray} (hv : v < 18446744073709551616) (hn : n ≤ 1000000) (e : lowB v n = bts T) : Calls Tryz.prog 23 #[.int .u64 v, .int .i64 n] w fun e w' => e = .returned (.string T) ∧ Below w.heap.size w w' := by
  have := low_any v n w hv hn
  rw [e, show str (bts T) = .string T by rw [show str (bts T) = .string (bs (bts T)) from rfl, bs_bts]] at this
  exact this

theorem rtext_no (t : ByteArray) (w : World) (h : 65535 < t.size) :
    Calls Tryz.prog 34 #[.string t] w fun e w' => e = .returned (.tuple #[.string ⟨#[]⟩, .bool false]) ∧ Below w.heap.size w w' := by
  have h' : (65535 : Int) < (t.size : Int) := by omega
  clear h
  go_enter Tryz.func34, Tryz.ntmps34
  go_wp2
  go_ret2
  exact ⟨rfl, Below.refl _ _⟩
set_option maxRecDepth 100000 in
theorem rtext_yes (t : ByteArray) (w : World) (h : t.size ≤ 65535) :
    Calls Tryz.prog 34 #[.string t] w fun e w' => (∃ T : ByteArray, bts T = lowB t.size 2 ++ bts t ∧ e = .returned (.tuple #[.string T, .bool true])) ∧ Below w.heap.size w w' := by
  have h' : (t.size : Int) ≤ 65535 := by omega
  obtain ⟨L, hL⟩ : ∃ L, L = bs (lowB t.size 2) := ⟨_, rfl⟩
  have hLb : lowB t.size 2 = bts L := by rw [hL]; rfl
  have hLs : L.size = 2 := by rw [← bts_len, ← hLb, lowB_len]
  have hmax : ¬ (9223372036854775807 < L.size + t.size) := by omega
  have HL := Lib.hid hLb
  clear hL hLb hLs h
  go_enter Tryz.func34, Tryz.ntmps34
  go_wp2_with (go_at_call 23; refine (low_as (by omega) (by omega) HL.out).mono ?_; rintro e w1 ⟨rfl, b1⟩)
  go_ret2
  exact ⟨⟨_, by rw [bts_append, HL.out], rfl⟩, b1⟩

/-- The document's reader: what is left, and its error. -/
def RefS (w : World) (g : Nat) (s : PS) : Prop := Blk w g 94 #[str s.1, .int .i64 s.2]
theorem RefS.lt {w : World} {g : Nat} {s : PS} (h : RefS w g s) : g < w.heap.size := Blk.lt h
theorem RefS.below {g : Nat} {w w' : World} {s : PS} (h : RefS w g s) (hb : Below w.heap.size w w') : RefS w' g s := Blk.below h hb
theorem RefS.frm {g : Nat} {w w' : World} {s : PS} {S : Nat → Prop} (h : RefS w g s) (hb : Frm S w w') (hs : ¬ S g) : RefS w' g s := Blk.frm h hb hs
theorem RefS.cell0 {g : Nat} {w : World} {s : PS} (h : RefS w g s) : w.cell? ⟨g, 0, none⟩ = some (str s.1) := by
  have hB : Blk w g 94 #[str s.1, .int .i64 s.2] := h
  rw [hB.cell 0]; rfl
theorem RefS.cell1 {g : Nat} {w : World} {s : PS} (h : RefS w g s) : w.cell? ⟨g, 1, none⟩ = some (.int .i64 s.2) := by
  have hB : Blk w g 94 #[str s.1, .int .i64 s.2] := h
  rw [hB.cell 1]; rfl

set_option maxRecDepth 100000 in
theorem rraw_s (g : Nat) (s : PS) (n : Int) (w : World) (h : RefS w g s) :
    Calls Tryz.prog 106 #[ptr g, .int .i64 n] w fun e w' => e = .returned (str (getRaw n s).1) ∧ RefS w' g (getRaw n s).2 ∧ Frm (at1 g) w w' := by
  obtain ⟨l, x⟩ := s
  have hB : Blk w g 94 #[str l, .int .i64 x] := h
  have c1 : w.cell? ⟨g, 1, none⟩ = some (.int .i64 x) := by rw [hB.cell 1]; rfl
  have c0 : w.cell? ⟨g, 0, none⟩ = some (str l) := by rw [hB.cell 0]; rfl
  have f1 := hB.free 1
  have f0 := hB.free 0
  by_cases hx : x = 0
  · subst hx
    obtain ⟨q, hq⟩ : ∃ q, q = bs l := ⟨_, rfl⟩
    have hqs : q.size = l.length := by rw [hq, bs_size]
    have hstr : str l = .string q := by rw [hq]
    have hql : bts q = l := by rw [hq]; rfl
    rw [hstr] at c0 hB
    clear hstr h hq
    by_cases hn : n < 0
    · have hE : getRaw n (l, 0) = ([], (l, 1)) := by simp [getRaw, hn]
      rw [hE]
      have HB := Lib.hid hB
      have HQ := Lib.hid hql
      clear hE hB hqs hql
      go_enter Tryz.func106, Tryz.ntmps106
      go_wp2
      go_ret
      refine ⟨rfl, ?_, (Frm.refl (at1 g) w).setCell (p := ⟨g, 1, none⟩) (fun _ => rfl) _⟩
      have := HB.out.set_ 1 (.int .i64 1)
      rw [show (.string q : Value) = str l by rw [← HQ.out]; rw [show str (bts q) = .string (bs (bts q)) from rfl, bs_bts]] at this
      exact this
    · by_cases hn2 : (l.length : Int) < n
      · have hE : getRaw n (l, 0) = ([], (l, 5)) := by simp [getRaw, hn, hn2]
        rw [hE]
        have hn3 : (q.size : Int) < n := by omega
        have HB := Lib.hid hB
        have HQ := Lib.hid hql
        clear hE hB hqs hql hn2
        go_enter Tryz.func106, Tryz.ntmps106
        go_wp2
        go_ret
        refine ⟨rfl, ?_, (Frm.refl (at1 g) w).setCell (p := ⟨g, 1, none⟩) (fun _ => rfl) _⟩
        have := HB.out.set_ 1 (.int .i64 5)
        rw [show (.string q : Value) = str l by rw [← HQ.out]; rw [show str (bts q) = .string (bs (bts q)) from rfl, bs_bts]] at this
        exact this
      · obtain ⟨m, rfl⟩ := Int.eq_ofNat_of_zero_le (by omega : 0 ≤ n)
        have hE : getRaw (m : Int) (l, 0) = (l.take m, (l.drop m, 0)) := by
          have : ¬ ((l.length : Int) < (m : Int)) := hn2
          simp only [getRaw, if_true, if_neg hn, if_neg this, Int.toNat_natCast]
        rw [hE]
        have hm : (m : Int) ≤ (q.size : Int) := by omega
        have HB := Lib.hid hB
        have HQ := Lib.hid hql
        clear hE hB hqs hql hn2 hn
        go_enter Tryz.func106, Tryz.ntmps106
        go_wp2
        go_ret
        have e1 : q.extract 0 m = bs (l.take m) := bts_inj (by rw [bts_extract, HQ.out]; rfl)
        have e2 : q.extract m q.size = bs (l.drop m) := bts_inj (by rw [bts_extract, ← bts_len, List.take_length, HQ.out]; rfl)
        refine ⟨by show Ending.returned (.string (q.extract 0 m)) = _; rw [e1], ?_, (Frm.refl (at1 g) w).setCell (p := ⟨g, 0, none⟩) (fun _ => rfl) _⟩
        have := HB.out.set_ 0 (.string (q.extract m q.size))
        rw [e2] at this ⊢
        exact this
  · have hE : getRaw n (l, x) = ([], (l, x)) := by simp [getRaw, hx]
    rw [hE]
    have e2 : (x != 0) = true := by simpa using hx
    clear hE
    go_enter Tryz.func106, Tryz.ntmps106
    go_wp2
    go_ret
    exact ⟨rfl, hB, Frm.refl _ _⟩

theorem rnum_s (g n : Nat) (s : PS) (w : World) (h : RefS w g s) (hn : n ≤ 8) :
    Calls Tryz.prog 43 #[ptr g, .int .i64 n] w fun e w' => e = .returned (.int .i64 (getNum n s).1) ∧ RefS w' g (getNum n s).2 ∧ Frm (at1 g) w w' := by
  have HG := Lib.hid (rraw_s g s n w h)
  have hlen := getRaw_len n s
  have hlt := num_lt8 hlen hn
  have hs := sgn64_of hlt
  unfold getNum
  dsimp only
  generalize getRaw (n : Int) s = r at HG hlt hs hlen ⊢
  obtain ⟨a, r⟩ := r
  obtain ⟨q, hq⟩ : ∃ q, q = bs a := ⟨_, rfl⟩
  have hqa : bts q = a := by rw [hq]; rfl
  have hqs : q.size ≤ 8 := by rw [← bts_len, hqa]; exact Nat.le_trans hlen hn
  have HG2 : Hid (Calls Tryz.prog 106 #[ptr g, .int .i64 n] w fun e w' => e = .returned (.string q) ∧ RefS w' g r ∧ Frm (at1 g) w w') := by rw [hq]; exact HG
  have hN : ∀ w, Calls Tryz.prog 105 #[.string q] w fun e w' => e = .returned (.int .u64 (numL a)) ∧ w' = w := fun w => by have := refnum_any q w hqs; rwa [hqa] at this
  have HN := Lib.hid hN
  clear hN HG hq hqa hqs hlen hn
  generalize sgn64 (numL a) = z at hs ⊢
  go_enter Tryz.func43, Tryz.ntmps43
  go_wp2_with (first
    | (go_at_call 106; refine HG2.out.mono ?_; rintro e w1 ⟨rfl, q1⟩)
    | (go_at_call 105; refine (HN.out _).mono ?_; rintro e w2 ⟨rfl, hw⟩; subst hw))
  go_ret
  exact ⟨rfl, q1⟩
theorem rtext_s (g : Nat) (s : PS) (w : World) (h : RefS w g s) :
    Calls Tryz.prog 44 #[ptr g] w fun e w' => e = .returned (str (getText s).1) ∧ RefS w' g (getText s).2 ∧ Frm (at1 g) w w' := by
  have HG := Lib.hid (rnum_s g 2 s w h (by omega))
  unfold getText
  generalize getNum 2 s = r at HG ⊢
  obtain ⟨n, r⟩ := r
  have hraw : ∀ w, RefS w g r → Calls Tryz.prog 106 #[ptr g, .int .i64 n] w fun e w' => e = .returned (str (getRaw n r).1) ∧ RefS w' g (getRaw n r).2 ∧ Frm (at1 g) w w' := fun w h => rraw_s g r n w h
  have HRW := Lib.hid hraw
  clear hraw
  obtain ⟨S, hS⟩ : ∃ S, S = str (getRaw n r).1 := ⟨_, rfl⟩
  rw [← hS] at HRW ⊢
  clear hS
  go_enter Tryz.func44, Tryz.ntmps44
  go_wp2_with (first
    | (go_at_call 43; refine HG.out.mono ?_; rintro e w1 ⟨rfl, q1, f1⟩)
    | (go_at_call 106; refine (HRW.out _ q1).mono ?_; rintro e w2 ⟨rfl, q2, f2⟩))
  go_ret
  exact ⟨rfl, q2, f1.then_ f2⟩
theorem rend_s (g : Nat) (s : PS) (w : World) (h : RefS w g s) : Calls Tryz.prog 46 #[ptr g] w fun e w' => e = .returned (.int .i64 (endG s).2) ∧ RefS w' g (endG s) ∧ Frm (at1 g) w w' := by
  obtain ⟨l, x⟩ := s
  have hB : Blk w g 94 #[str l, .int .i64 x] := h
  have c0 : w.cell? ⟨g, 0, none⟩ = some (str l) := h.cell0
  have c1 : w.cell? ⟨g, 1, none⟩ = some (.int .i64 x) := h.cell1
  have f1 := hB.free 1
  have hz := bs_size l
  have HB := Lib.hid hB
  clear hB h
  obtain ⟨q, hq⟩ : ∃ q, q = bs l := ⟨_, rfl⟩
  have hstr : str l = .string q := by rw [hq]
  rw [hstr] at c0
  rw [← hq] at hz
  clear hq hstr
  by_cases hx : x = 0
  · subst hx
    by_cases hl : 0 < l.length
    · have hE : endG (l, 0) = (l, 6) := by simp [endG, hl]
      rw [hE]
      have hq0 : (0 : Int) < (q.size : Int) := by omega
      clear hE hz hl
      go_enter Tryz.func46, Tryz.ntmps46
      go_wp2
      go_ret
      exact ⟨rfl, HB.out.set_ 1 _, (Frm.refl (at1 g) w).setCell (p := ⟨g, 1, none⟩) (fun _ => rfl) _⟩
    · have hE : endG (l, 0) = (l, 0) := by unfold endG; rw [if_neg (by simp only [true_and]; exact hl)]
      rw [hE]
      have hq0 : (q.size : Int) ≤ 0 := by omega
      clear hE hz hl
      go_enter Tryz.func46, Tryz.ntmps46
      go_wp2
      go_ret
      exact ⟨rfl, HB.out, Frm.refl _ _⟩
  · have hE : endG (l, x) = (l, x) := by unfold endG; rw [if_neg (fun h => hx h.1)]
    rw [hE]
    have e1 : (x == 0) = false := by simpa using hx
    clear hE hz
    go_enter Tryz.func46, Tryz.ntmps46
    go_wp2
    go_ret
    exact ⟨rfl, HB.out, Frm.refl _ _⟩
end Go.Proofs.YtgigkekajdgngaaGreat
