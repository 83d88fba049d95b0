/-
  What the methods of pack.Put and pack.Get do, whatever they bear: the first error, numbers that do not fit, too few bytes. Conditions: no more bytes than memory holds.
-/
import Derived.Test.YtgigkekajdgngaaPackGet
namespace Go.Proofs.Ytgigkekajdgngaa
open Go Go.RowKit
attribute [local go_sem] cell_set_if

/-- A number's 64 bits. -/
def u64 (v : Int) : Nat := (v % 18446744073709551616).toNat
theorem u64_lt (v : Int) : u64 v < 18446744073709551616 := by unfold u64; omega
theorem u64_wrap (v : Int) : IntKind.u64.wrap v = ((u64 v : Nat) : Int) := by
  unfold u64; simp [IntKind.wrap, IntKind.bits, IntKind.signed]; omega
theorem u64_small (v : Nat) (h : v < 18446744073709551616) : u64 (v : Int) = v := by unfold u64; omega

/-- What a Put bears: bytes, and its first error. -/
abbrev PS := List UInt8 × Int
def putSmall (n : Nat) (v : Int) (s : PS) : PS := if s.2 = 0 then (if v < 0 ∨ (256 : Int) ^ n ≤ v then (s.1, 1) else (s.1 ++ lowB v.toNat n, 0)) else s
def putInt (v : Int) (s : PS) : PS := if s.2 = 0 then (s.1 ++ lowB (u64 v) 8, 0) else s
def putRaw (t : List UInt8) (s : PS) : PS := if s.2 = 0 then (s.1 ++ t, 0) else s
def putText (t : List UInt8) (s : PS) : PS := if s.2 = 0 then (if 65535 < t.length then (s.1, 2) else (s.1 ++ lowB t.length 2 ++ t, 0)) else s

/-- A Put of the call's own. -/
structure PutS (base : Nat) (w : World) (g : Nat) (s : PS) : Prop where
  lo : base ≤ g
  at_ : ∃ v, Blk w g 53 #[v, .int .i64 s.2] ∧ w.ownsRow base 5 1 v s.1.length (u8s s.1)
theorem PutS.lt {base g : Nat} {w : World} {s : PS} (h : PutS base w g s) : g < w.heap.size := by
  obtain ⟨_, v, hB, _⟩ := h; exact hB.lt
theorem PutS.below {base g : Nat} {w w' : World} {s : PS} (h : PutS base w g s) (hb : Below w.heap.size w w') : PutS base w' g s := by
  obtain ⟨h1, v, hB, hO⟩ := h
  exact ⟨h1, v, hB.below hb, own_frm hO (Frm.of_below hb (S := no)) fun _ _ h => h⟩
theorem PutS.at0 {base g : Nat} {w : World} {l : List UInt8} (h : PutS base w g (l, 0)) : PutAt base w g l := ⟨h.lo, h.at_⟩
theorem PutAt.s {base g : Nat} {w : World} {l : List UInt8} (h : PutAt base w g l) : PutS base w g (l, 0) := ⟨h.lo, h.at_⟩
theorem PutS.fail {base g : Nat} {w : World} {s : PS} (h : PutS base w g s) (x : Int) : PutS base (w.setCell ⟨g, 1, none⟩ (.int .i64 x)) g (s.1, x) := by
  obtain ⟨h1, v, hB, hO⟩ := h
  exact ⟨h1, v, hB.set_ 1 _, own_set hB hO (by decide) _⟩
theorem PutS.cell1 {base g : Nat} {w : World} {s : PS} (h : PutS base w g s) : w.cell? ⟨g, 1, none⟩ = some (.int .i64 s.2) := by
  obtain ⟨h1, v, hB, hO⟩ := h; rw [hB.cell 1]; rfl
theorem PutS.free1 {base g : Nat} {w : World} {s : PS} (h : PutS base w g s) : w.frozen? ⟨g, 1, none⟩ = false := by
  obtain ⟨h1, v, hB, hO⟩ := h; exact hB.free 1

theorem fail_no (base g : Nat) (s : PS) (w : World) (x : Int) (h : PutS base w g s) (h0 : s.2 = 0) :
    Calls Try.prog 34 #[ptr g, .bool false, .int .i64 x] w fun e w' => e = .returned (.bool false) ∧ w' = w := by
  have c1 := h.cell1
  rw [h0] at c1
  clear h0 h
  go_enter Try.func34, Try.ntmps34
  go_wp2
  go_ret
  exact ⟨rfl, rfl⟩
theorem fail_newk (base g : Nat) (s : PS) (w : World) (x : Int) (h : PutS base w g s) (h0 : s.2 = 0) (hx : (x != 0) = true) :
    Calls Try.prog 34 #[ptr g, .bool true, .int .i64 x] w fun e w' => e = .returned (.bool true) ∧ PutS base w' g (s.1, x) ∧ BK base w w' := by
  have c1 := h.cell1
  have f1 := h.free1
  have H := Lib.hid h
  rw [h0] at c1
  have hlo := h.lo
  clear h0 h
  go_enter Try.func34, Try.ntmps34
  go_wp2
  go_ret
  obtain ⟨_, v0, hB, _⟩ := H.out
  exact ⟨rfl, H.out.fail x, (Below.refl _ _).setCell hlo _, fun q t cs hq t1 _ => hq.far (by show q ≠ g; exact Blk.ne_ hq hB t1) _⟩
theorem fail_old (base g : Nat) (s : PS) (w : World) (b : Bool) (x : Int) (h : PutS base w g s) (h0 : s.2 ≠ 0) :
    Calls Try.prog 34 #[ptr g, .bool b, .int .i64 x] w fun e w' => e = .returned (.bool true) ∧ w' = w := by
  have c1 := h.cell1
  have e1 : (s.2 == 0) = false := by simpa using h0
  have e2 : (s.2 != 0) = true := by simpa using h0
  clear h0 h
  go_enter Try.func34, Try.ntmps34
  go_wp2
  go_ret
  exact ⟨rfl, rfl⟩

set_option maxRecDepth 100000 in
theorem small_anyk (base g n : Nat) (s : PS) (v : Int) (w : World) (h : PutS base w g s) (hn : 1 ≤ n ∧ n ≤ 4) (hl : s.1.length + n ≤ 140737488351232) :
    Calls Try.prog 33 #[ptr g, .int .i64 v, .int .i64 n] w fun e w' => e = .returned (ptr g) ∧ PutS base w' g (putSmall n v s) ∧ BK base w w' := by
  obtain ⟨l, x⟩ := s
  have hw : IntKind.i64.wrap (8 * (n : Int)) = 8 * (n : Int) := IntWalk.i64_in _ (by omega)
  have hw0 : (0 : Int) ≤ 8 * (n : Int) := by omega
  have h256 : (0 : Int) < 256 ^ n := Int.pow_pos (by decide)
  by_cases hx : x = 0
  · subst hx
    by_cases hv : v < 0
    · have hE : putSmall n v (l, 0) = (l, 1) := by simp [putSmall, hv]
      rw [hE]
      have H := Lib.hid h
      clear h hE
      go_enter Try.func33, Try.ntmps33
      go_wp2_with (go_at_call 34; refine (fail_newk base g (l, 0) _ 1 H.out rfl rfl).mono ?_; rintro e w1 ⟨rfl, q1⟩)
      go_ret
      exact ⟨rfl, q1⟩
    · by_cases hv2 : (256 : Int) ^ n ≤ v
      · have hE : putSmall n v (l, 0) = (l, 1) := by simp [putSmall, hv2]
        rw [hE]
        have hq : (v / 2 ^ (8 * n) != 0) = true := by
          rw [Int.pow_mul, show (2 : Int) ^ 8 = 256 by decide]
          have : 1 ≤ v / 256 ^ n := Int.le_ediv_of_mul_le h256 (by omega)
          simp; omega
        have H := Lib.hid h
        have hv0 : 0 ≤ v := by omega
        clear h hE
        go_enter Try.func33, Try.ntmps33
        go_wp2_with (go_at_call 34; refine (fail_newk base g (l, 0) _ 1 H.out rfl rfl).mono ?_; rintro e w1 ⟨rfl, q1⟩)
        go_ret
        exact ⟨rfl, q1⟩
      · obtain ⟨m, rfl⟩ := Int.eq_ofNat_of_zero_le (by omega : 0 ≤ v)
        have hm : m < 256 ^ n := by have : ((256 ^ n : Nat) : Int) = 256 ^ n := by simp
                                    omega
        have hE : putSmall n (m : Int) (l, 0) = (l ++ lowB m n, 0) := by simp [putSmall, hv2]
        rw [hE]
        exact (small_keep base g l m n w h.at0 hn hm hl).mono fun _ _ ⟨h1, h2, h3⟩ => ⟨h1, h2.s, h3⟩
  · have hE : putSmall n v (l, x) = (l, x) := by simp [putSmall, hx]
    rw [hE]
    have H := Lib.hid h
    clear h hE
    by_cases hv : v < 0
    · go_enter Try.func33, Try.ntmps33
      go_wp2_with (go_at_call 34; refine (fail_old base g (l, x) _ _ _ H.out hx).mono ?_; rintro e w1 ⟨rfl, rfl⟩)
      go_ret
      exact ⟨rfl, H.out, BK.refl _ _⟩
    · go_enter Try.func33, Try.ntmps33
      go_wp2_with (go_at_call 34; refine (fail_old base g (l, x) _ _ _ H.out hx).mono ?_; rintro e w1 ⟨rfl, rfl⟩)
      all_goals go_ret
      all_goals exact ⟨rfl, H.out, BK.refl _ _⟩
theorem small_any' (base g n : Nat) (s : PS) (v : Int) (w : World) (h : PutS base w g s) (hn : 1 ≤ n ∧ n ≤ 4) (hl : s.1.length + n ≤ 140737488351232) :
    Calls Try.prog 33 #[ptr g, .int .i64 v, .int .i64 n] w fun e w' => e = .returned (ptr g) ∧ PutS base w' g (putSmall n v s) ∧ Below base w w' :=
  (small_anyk base g n s v w h hn hl).mono fun _ _ ⟨h1, h2, h3⟩ => ⟨h1, h2, h3.1⟩
theorem pbyte_k (base g : Nat) (s : PS) (v : Int) (w : World) (h : PutS base w g s) (hl : s.1.length ≤ 140737488351000) :
    Calls Try.prog 16 #[ptr g, .int .i64 v] w fun e w' => e = .returned (ptr g) ∧ PutS base w' g (putSmall 1 v s) ∧ BK base w w' := by
  go_enter Try.func16, Try.ntmps16
  go_wp2_with (go_at_call 33; refine (small_anyk base g 1 s v _ h (by omega) (by omega)).mono ?_; rintro e w1 ⟨rfl, q1⟩)
  go_ret
  exact ⟨rfl, q1⟩
theorem pbyte_s (base g : Nat) (s : PS) (v : Int) (w : World) (h : PutS base w g s) (hl : s.1.length ≤ 140737488351000) :
    Calls Try.prog 16 #[ptr g, .int .i64 v] w fun e w' => e = .returned (ptr g) ∧ PutS base w' g (putSmall 1 v s) ∧ Below base w w' :=
  (pbyte_k base g s v w h hl).mono fun _ _ ⟨h1, h2, h3⟩ => ⟨h1, h2, h3.1⟩
theorem phalf_k (base g : Nat) (s : PS) (v : Int) (w : World) (h : PutS base w g s) (hl : s.1.length ≤ 140737488351000) :
    Calls Try.prog 35 #[ptr g, .int .i64 v] w fun e w' => e = .returned (ptr g) ∧ PutS base w' g (putSmall 2 v s) ∧ BK base w w' := by
  go_enter Try.func35, Try.ntmps35
  go_wp2_with (go_at_call 33; refine (small_anyk base g 2 s v _ h (by omega) (by omega)).mono ?_; rintro e w1 ⟨rfl, q1⟩)
  go_ret
  exact ⟨rfl, q1⟩
theorem phalf_s (base g : Nat) (s : PS) (v : Int) (w : World) (h : PutS base w g s) (hl : s.1.length ≤ 140737488351000) :
    Calls Try.prog 35 #[ptr g, .int .i64 v] w fun e w' => e = .returned (ptr g) ∧ PutS base w' g (putSmall 2 v s) ∧ Below base w w' :=
  (phalf_k base g s v w h hl).mono fun _ _ ⟨h1, h2, h3⟩ => ⟨h1, h2, h3.1⟩
theorem pword_k (base g : Nat) (s : PS) (v : Int) (w : World) (h : PutS base w g s) (hl : s.1.length ≤ 140737488351000) :
    Calls Try.prog 17 #[ptr g, .int .i64 v] w fun e w' => e = .returned (ptr g) ∧ PutS base w' g (putSmall 4 v s) ∧ BK base w w' := by
  go_enter Try.func17, Try.ntmps17
  go_wp2_with (go_at_call 33; refine (small_anyk base g 4 s v _ h (by omega) (by omega)).mono ?_; rintro e w1 ⟨rfl, q1⟩)
  go_ret
  exact ⟨rfl, q1⟩
theorem pword_s (base g : Nat) (s : PS) (v : Int) (w : World) (h : PutS base w g s) (hl : s.1.length ≤ 140737488351000) :
    Calls Try.prog 17 #[ptr g, .int .i64 v] w fun e w' => e = .returned (ptr g) ∧ PutS base w' g (putSmall 4 v s) ∧ Below base w w' :=
  (pword_k base g s v w h hl).mono fun _ _ ⟨h1, h2, h3⟩ => ⟨h1, h2, h3.1⟩
theorem pint_k (base g : Nat) (s : PS) (v : Int) (w : World) (h : PutS base w g s) (hl : s.1.length ≤ 140737488351000) :
    Calls Try.prog 58 #[ptr g, .int .i64 v] w fun e w' => e = .returned (ptr g) ∧ PutS base w' g (putInt v s) ∧ BK base w w' := by
  obtain ⟨l, x⟩ := s
  by_cases hx : x = 0
  · subst hx
    have hE : putInt v (l, 0) = (l ++ lowB (u64 v) 8, 0) := by simp [putInt]
    rw [hE]
    have H := Lib.hid h
    have hu := u64_wrap v
    have hlt := u64_lt v
    generalize u64 v = m at hu hlt ⊢
    clear h hE
    go_enter Try.func58, Try.ntmps58
    go_wp2_with (first
      | (go_at_call 34; refine (fail_no base g (l, 0) _ _ H.out rfl).mono ?_; rintro e w1 ⟨rfl, rfl⟩)
      | (go_at_call 49; refine (putlow_keep base g l m 8 _ H.out.at0 hlt (by omega) (by have : l.length ≤ _ := hl; omega)).mono ?_; rintro e w1 ⟨rfl, q1, b1⟩))
    go_ret
    exact ⟨rfl, q1.s, b1⟩
  · have hE : putInt v (l, x) = (l, x) := by simp [putInt, hx]
    rw [hE]
    have H := Lib.hid h
    clear h hE
    go_enter Try.func58, Try.ntmps58
    go_wp2_with (go_at_call 34; refine (fail_old base g (l, x) _ _ _ H.out hx).mono ?_; rintro e w1 ⟨rfl, rfl⟩)
    go_ret
    exact ⟨rfl, H.out, BK.refl _ _⟩
theorem pint_s (base g : Nat) (s : PS) (v : Int) (w : World) (h : PutS base w g s) (hl : s.1.length ≤ 140737488351000) :
    Calls Try.prog 58 #[ptr g, .int .i64 v] w fun e w' => e = .returned (ptr g) ∧ PutS base w' g (putInt v s) ∧ Below base w w' :=
  (pint_k base g s v w h hl).mono fun _ _ ⟨h1, h2, h3⟩ => ⟨h1, h2, h3.1⟩
theorem praw_k (base g : Nat) (s : PS) (t : ByteArray) (w : World) (h : PutS base w g s) (hl : s.1.length + t.size ≤ 140737488351000) :
    Calls Try.prog 36 #[ptr g, .string t] w fun e w' => e = .returned (ptr g) ∧ PutS base w' g (putRaw (bts t) s) ∧ BK base w w' := by
  obtain ⟨l, x⟩ := s
  by_cases hx : x = 0
  · subst hx
    have hE : putRaw (bts t) (l, 0) = (l ++ bts t, 0) := by simp [putRaw]
    rw [hE]
    exact (praw_keep base g l t w h.at0 hl).mono fun _ _ ⟨h1, h2, h3⟩ => ⟨h1, h2.s, h3⟩
  · have hE : putRaw (bts t) (l, x) = (l, x) := by simp [putRaw, hx]
    rw [hE]
    have H := Lib.hid h
    clear h hE
    go_enter Try.func36, Try.ntmps36
    go_wp2_with (go_at_call 34; refine (fail_old base g (l, x) _ _ _ H.out hx).mono ?_; rintro e w1 ⟨rfl, rfl⟩)
    go_ret
    exact ⟨rfl, H.out, BK.refl _ _⟩
theorem praw_s (base g : Nat) (s : PS) (t : ByteArray) (w : World) (h : PutS base w g s) (hl : s.1.length + t.size ≤ 140737488351000) :
    Calls Try.prog 36 #[ptr g, .string t] w fun e w' => e = .returned (ptr g) ∧ PutS base w' g (putRaw (bts t) s) ∧ Below base w w' :=
  (praw_k base g s t w h hl).mono fun _ _ ⟨h1, h2, h3⟩ => ⟨h1, h2, h3.1⟩
theorem ptext_k (base g : Nat) (s : PS) (t : ByteArray) (w : World) (h : PutS base w g s) (hl : s.1.length + t.size ≤ 140737488350000) :
    Calls Try.prog 18 #[ptr g, .string t] w fun e w' => e = .returned (ptr g) ∧ PutS base w' g (putText (bts t) s) ∧ BK base w w' := by
  obtain ⟨l, x⟩ := s
  have hbl := bts_len t
  by_cases hx : x = 0
  · subst hx
    by_cases ht : 65535 < t.size
    · have hE : putText (bts t) (l, 0) = (l, 2) := by simp [putText, hbl, ht]
      rw [hE]
      have H := Lib.hid h
      have hd : decide ((65535 : Int) < (t.size : Int)) = true := by simp; omega
      clear h hE hbl
      go_enter Try.func18, Try.ntmps18
      go_wp2_with (go_at_call 34; refine (fail_newk base g (l, 0) _ 2 H.out rfl rfl).mono ?_; rintro e w1 ⟨rfl, q1⟩)
      go_ret
      exact ⟨rfl, q1⟩
    · have hE : putText (bts t) (l, 0) = putRaw (bts t) (putSmall 2 (t.size : Int) (l, 0)) := by
        have : ¬ ((t.size : Int) < 0 ∨ (256 : Int) ^ 2 ≤ (t.size : Int)) := by omega
        unfold putText putRaw putSmall
        simp only [if_true, if_neg this, hbl, if_neg ht, Int.toNat_natCast, List.append_assoc]
      rw [hE]
      have hl2 : (putSmall 2 (t.size : Int) (l, 0)).1.length ≤ l.length + 2 := by
        unfold putSmall
        simp only [if_true]
        split
        · simp
        · simp [lowB_len]
      have H := Lib.hid h
      have hd : decide ((65535 : Int) < (t.size : Int)) = false := by simp; omega
      have hl3 : l.length + t.size ≤ 140737488350000 := hl
      clear h hE hbl hl
      generalize hq : putSmall 2 (t.size : Int) (l, 0) = q at hl2 ⊢
      have HQ := Lib.hid hq
      clear hq
      go_enter Try.func18, Try.ntmps18
      go_wp2_with (first
        | (go_at_call 34; refine (fail_no base g (l, 0) _ _ H.out rfl).mono ?_; rintro e w1 ⟨rfl, rfl⟩)
        | (go_at_call 35; refine (phalf_k base g (l, 0) _ _ H.out (by show l.length ≤ _; omega)).mono ?_; rw [HQ.out]; rintro e w1 ⟨rfl, q1, b1⟩)
        | (go_at_call 36; refine (praw_k base g q t _ q1 (by omega)).mono ?_; rintro e w2 ⟨rfl, q2, b2⟩))
      go_ret
      exact ⟨rfl, q2, b1.trans b2⟩
  · have hE : putText (bts t) (l, x) = (l, x) := by simp [putText, hx]
    rw [hE]
    have H := Lib.hid h
    clear h hE hbl
    go_enter Try.func18, Try.ntmps18
    go_wp2_with (go_at_call 34; refine (fail_old base g (l, x) _ _ _ H.out hx).mono ?_; rintro e w1 ⟨rfl, rfl⟩)
    all_goals go_ret
    all_goals exact ⟨rfl, H.out, BK.refl _ _⟩
theorem ptext_s (base g : Nat) (s : PS) (t : ByteArray) (w : World) (h : PutS base w g s) (hl : s.1.length + t.size ≤ 140737488350000) :
    Calls Try.prog 18 #[ptr g, .string t] w fun e w' => e = .returned (ptr g) ∧ PutS base w' g (putText (bts t) s) ∧ Below base w w' :=
  (ptext_k base g s t w h hl).mono fun _ _ ⟨h1, h2, h3⟩ => ⟨h1, h2, h3.1⟩
/-- What End tells. -/
def endP (s : PS) : List UInt8 × Int := if s.2 = 0 then (s.1, 0) else ([], s.2)
theorem pend_s (base g : Nat) (s : PS) (w : World) (h : PutS base w g s) :
    Calls Try.prog 20 #[ptr g] w fun e w' => e = .returned (.tuple #[str (endP s).1, .int .i64 (endP s).2]) ∧ ∃ n, w' = w.drewN n := by
  obtain ⟨l, x⟩ := s
  by_cases hx : x = 0
  · subst hx
    exact (pend_any base g l w h.at0).mono fun e w' ⟨h1, h2⟩ => ⟨h1, 0, h2⟩
  · have hE : endP (l, x) = ([], x) := by simp [endP, hx]
    rw [hE]
    have c1 : w.cell? ⟨g, 1, none⟩ = some (.int .i64 x) := h.cell1
    have e2 : (x != 0) = true := by simpa using hx
    clear h hE
    go_enter Try.func20, Try.ntmps20
    go_wp2
    go_quiet (fail)
    go_wp2
    go_ret2
    exact ⟨rfl, _, rfl⟩

/-- A Get that has these bytes left, and bears this error. -/
def GetS (w : World) (g : Nat) (s : PS) : Prop := Blk w g 82 #[str s.1, .int .i64 s.2]
theorem GetS.lt {w : World} {g : Nat} {s : PS} (h : GetS w g s) : g < w.heap.size := Blk.lt h
theorem GetS.below {g : Nat} {w w' : World} {s : PS} (h : GetS w g s) (hb : Below w.heap.size w w') : GetS w' g s := Blk.below h hb
theorem GetS.alloc {g : Nat} {w : World} {s : PS} (h : GetS w g s) (o : Obj) : GetS (w.alloc o) g s := Blk.alloc h o
theorem GetS.frm {g : Nat} {w w' : World} {s : PS} {S : Nat → Prop} (h : GetS w g s) (hb : Frm S w w') (hs : ¬ S g) : GetS w' g s := Blk.frm h hb hs
theorem GetS.at0 {g : Nat} {w : World} {l : List UInt8} (h : GetS w g (l, 0)) : GetAt w g (bs l) := h
theorem GetAt.s {g : Nat} {w : World} {t : ByteArray} (h : GetAt w g t) : GetS w g (bts t, 0) := by
  show Blk w g _ #[.string (bs (bts t)), _]; rw [bs_bts]; exact h
def getRaw (n : Int) (s : PS) : List UInt8 × PS := if s.2 = 0 then (if n < 0 then ([], (s.1, 1)) else if (s.1.length : Int) < n then ([], (s.1, 5)) else (s.1.take n.toNat, (s.1.drop n.toNat, 0))) else ([], s)
def sgn64 (v : Nat) : Int := if v < 9223372036854775808 then v else (v : Int) - 18446744073709551616
def getNum (n : Nat) (s : PS) : Int × PS := (sgn64 (numL (getRaw n s).1), (getRaw n s).2)
def getText (s : PS) : List UInt8 × PS := getRaw (getNum 2 s).1 (getNum 2 s).2
def leftP (s : PS) : Int := if s.2 = 0 then s.1.length else 0
def endG (s : PS) : PS := if s.2 = 0 ∧ 0 < s.1.length then (s.1, 6) else s

theorem bs_extract_take (l : List UInt8) (n : Nat) : (bs l).extract 0 n = bs (l.take n) := bts_inj (by rw [bts_extract]; rfl)
theorem bs_extract_drop (l : List UInt8) (n : Nat) : (bs l).extract n (bs l).size = bs (l.drop n) := bts_inj (by rw [bts_extract, bs_size, bts_bs, List.take_length]; rfl)

set_option maxRecDepth 100000 in
theorem graw_s (g : Nat) (s : PS) (n : Int) (w : World) (h : GetS w g s) (hl : s.1.length ≤ 140737488355328) :
    Calls Try.prog 41 #[ptr g, .int .i64 n] w fun e w' => e = .returned (str (getRaw n s).1) ∧ GetS w' g (getRaw n s).2 ∧ Frm (at1 g) w w' := by
  obtain ⟨l, x⟩ := s
  have hB : Blk w g 82 #[str l, .int .i64 x] := h
  have c1 : w.cell? ⟨g, 1, none⟩ = some (.int .i64 x) := by rw [hB.cell 1]; rfl
  have c0 : w.cell? ⟨g, 0, none⟩ = some (str l) := by rw [hB.cell 0]; rfl
  have f1 := hB.free 1
  by_cases hx : x = 0
  · subst hx
    by_cases hn : n < 0
    · have hE : getRaw n (l, 0) = ([], (l, 1)) := by simp [getRaw, hn]
      rw [hE]
      clear hE
      go_enter Try.func41, Try.ntmps41
      go_wp2
      go_ret
      exact ⟨rfl, hB.set_ 1 _, (Frm.refl (at1 g) w).setCell (p := ⟨g, 1, none⟩) (fun _ => rfl) _⟩
    · by_cases hn2 : (l.length : Int) < n
      · have hE : getRaw n (l, 0) = ([], (l, 5)) := by simp [getRaw, hn, hn2]
        rw [hE]
        have hn3 : ((bs l).size : Int) < n := by rw [bs_size]; exact hn2
        clear hE
        obtain ⟨q, hq⟩ : ∃ q, q = bs l := ⟨_, rfl⟩
        have hstr : str l = .string q := by rw [hq]
        rw [hstr] at c0 hB
        rw [← hq] at hn3
        have HB := Lib.hid hB
        have HQ := Lib.hid hq
        clear hB h hq hstr
        go_enter Try.func41, Try.ntmps41
        go_wp2
        go_ret
        refine ⟨rfl, ?_, (Frm.refl (at1 g) w).setCell (p := ⟨g, 1, none⟩) (fun _ => rfl) _⟩
        have := HB.out.set_ 1 (.int .i64 5)
        rw [HQ.out] at this
        exact this
      · obtain ⟨m, rfl⟩ := Int.eq_ofNat_of_zero_le (by omega : 0 ≤ n)
        have hE : getRaw (m : Int) (l, 0) = (l.take m, (l.drop m, 0)) := by
          have : ¬ ((l.length : Int) < (m : Int)) := hn2
          simp only [getRaw, if_true, if_neg hn, if_neg this, Int.toNat_natCast]
        rw [hE]
        have hb0 : Blk w g 82 #[.string (bs l), .int .i64 0] := hB
        exact (graw_any g (bs l) m w hb0 (by rw [bs_size]; omega) (by rw [bs_size]; exact hl)).mono fun _ _ ⟨h1, h2, h3⟩ => ⟨by rw [h1, bs_extract_take], by rw [bs_extract_drop] at h2; exact h2, h3⟩
  · have hE : getRaw n (l, x) = ([], (l, x)) := by simp [getRaw, hx]
    rw [hE]
    have e2 : (x != 0) = true := by simpa using hx
    clear hE
    go_enter Try.func41, Try.ntmps41
    go_wp2
    go_ret
    exact ⟨rfl, hB, Frm.refl _ _⟩

theorem getRaw_len (n : Nat) (s : PS) : (getRaw n s).1.length ≤ n := by
  unfold getRaw
  split
  · split
    · simp
    · split
      · simp
      · simp; omega
  · simp
set_option maxHeartbeats 1000000 in
theorem glow_s (g : Nat) (s : PS) (n : Nat) (w : World) (h : GetS w g s) (hl : s.1.length ≤ 140737488355328) (hn8 : n ≤ 8) :
    Calls Try.prog 40 #[ptr g, .int .i64 n] w fun e w' => e = .returned (.int .u64 (numL (getRaw n s).1)) ∧ GetS w' g (getRaw n s).2 ∧ Frm (at1 g) w w' := by
  have hlen := getRaw_len n s
  have hraw := graw_s g s n w h hl
  generalize getRaw n s = r at hlen hraw ⊢
  obtain ⟨m, r⟩ := r
  obtain ⟨q, hq⟩ : ∃ q, q = bs m := ⟨_, rfl⟩
  have hT : bts q = m := by rw [hq]; rfl
  have hz : q.size ≤ n := by rw [← bts_len, hT]; exact hlen
  have hraw' : Calls Try.prog 41 #[ptr g, .int .i64 n] w fun e w' => e = .returned (.string q) ∧ GetS w' g r ∧ Frm (at1 g) w w' := by rw [hq]; exact hraw
  have HT := Lib.hid hT
  have HR := Lib.hid hraw'
  clear hT hraw hraw' hq h hlen
  go_enter Try.func40, Try.ntmps40
  go_wp2_with (go_at_call 41; refine HR.out.mono ?_; rintro e w1 ⟨rfl, q1⟩)
  go_loop [5, 7, 13] (fun u5 u7 u13 => ∃ k : Nat, k ≤ q.size ∧ u13 = .int .i64 k ∧ u5 = .int .u64 (numL ((bts q).take k))) (fun _ _ u13 => q.size - (intOf u13).toNat)
  case atStart => exact ⟨0, by omega, rfl, by simp [numL]⟩
  case round =>
    obtain ⟨k, hk, rfl, rfl⟩ := hrel
    by_cases hlt : k < q.size
    · have hw : IntKind.i64.wrap (8 * (k : Int)) = 8 * (k : Int) := IntWalk.i64_in _ (by omega)
      have hw0 : (0 : Int) ≤ 8 * (k : Int) := by omega
      have hby : (q[k].toNat : Int) < 256 := by have := q[k].toNat_lt; omega
      have HO := Lib.hid (or_step ((bts q).take k) q[k] k (by omega) (by rw [List.length_take, bts_len]; omega))
      have HTS := Lib.hid (take_snoc q k (by omega))
      go_wp2
      go_round
      case rel => exact ⟨k + 1, by omega, by go_num, by rw [HO.out]; exact congrArg (fun l => Value.int .u64 ((numL l : Nat) : Int)) HTS.out.symm⟩
      case measure => simp [intOf]; omega
    · obtain rfl : k = q.size := by omega
      have HA := Lib.hid (take_all q)
      go_wp2
      go_ret
      exact ⟨congrArg (fun l => Ending.returned (.int .u64 ((numL l : Nat) : Int))) (HA.out.trans HT.out), q1⟩
theorem sgn64_of {v : Nat} (h : v < 18446744073709551616) : IntKind.i64.wrap (v : Int) = sgn64 v := by
  unfold sgn64; simp [IntKind.wrap, IntKind.bits, IntKind.signed]; split <;> omega
theorem num_lt8 {l : List UInt8} {n : Nat} (h : l.length ≤ n) (hn : n ≤ 8) : numL l < 18446744073709551616 := by
  have h1 := numL_lt l
  have h2 : 256 ^ l.length ≤ 256 ^ 8 := Nat.pow_le_pow_right (by omega) (by omega)
  omega
theorem gbyte_s (g : Nat) (s : PS) (w : World) (h : GetS w g s) (hl : s.1.length ≤ 140737488355328) :
    Calls Try.prog 24 #[ptr g] w fun e w' => e = .returned (.int .i64 (getNum 1 s).1) ∧ GetS w' g (getNum 1 s).2 ∧ Frm (at1 g) w w' := by
  have HG := Lib.hid (glow_s g s 1 w h hl (by omega))
  have hlt := num_lt8 (getRaw_len 1 s) (by omega)
  have hs := sgn64_of hlt
  unfold getNum
  show Calls _ _ _ _ fun e w' => e = .returned (.int .i64 (sgn64 (numL (getRaw (1 : Nat) s).1))) ∧ GetS w' g (getRaw (1 : Nat) s).2 ∧ Frm (at1 g) w w'
  generalize getRaw (1 : Nat) s = r at HG hlt hs ⊢
  obtain ⟨a, r⟩ := r
  generalize sgn64 (numL a) = z at hs ⊢
  go_enter Try.func24, Try.ntmps24
  go_wp2_with (go_at_call 40; refine HG.out.mono ?_; rintro e w1 ⟨rfl, q1⟩)
  go_ret
  exact ⟨rfl, q1⟩
theorem ghalf_s (g : Nat) (s : PS) (w : World) (h : GetS w g s) (hl : s.1.length ≤ 140737488355328) :
    Calls Try.prog 42 #[ptr g] w fun e w' => e = .returned (.int .i64 (getNum 2 s).1) ∧ GetS w' g (getNum 2 s).2 ∧ Frm (at1 g) w w' := by
  have HG := Lib.hid (glow_s g s 2 w h hl (by omega))
  have hlt := num_lt8 (getRaw_len 2 s) (by omega)
  have hs := sgn64_of hlt
  unfold getNum
  show Calls _ _ _ _ fun e w' => e = .returned (.int .i64 (sgn64 (numL (getRaw (2 : Nat) s).1))) ∧ GetS w' g (getRaw (2 : Nat) s).2 ∧ Frm (at1 g) w w'
  generalize getRaw (2 : Nat) s = r at HG hlt hs ⊢
  obtain ⟨a, r⟩ := r
  generalize sgn64 (numL a) = z at hs ⊢
  go_enter Try.func42, Try.ntmps42
  go_wp2_with (go_at_call 40; refine HG.out.mono ?_; rintro e w1 ⟨rfl, q1⟩)
  go_ret
  exact ⟨rfl, q1⟩
theorem gword_s (g : Nat) (s : PS) (w : World) (h : GetS w g s) (hl : s.1.length ≤ 140737488355328) :
    Calls Try.prog 25 #[ptr g] w fun e w' => e = .returned (.int .i64 (getNum 4 s).1) ∧ GetS w' g (getNum 4 s).2 ∧ Frm (at1 g) w w' := by
  have HG := Lib.hid (glow_s g s 4 w h hl (by omega))
  have hlt := num_lt8 (getRaw_len 4 s) (by omega)
  have hs := sgn64_of hlt
  unfold getNum
  show Calls _ _ _ _ fun e w' => e = .returned (.int .i64 (sgn64 (numL (getRaw (4 : Nat) s).1))) ∧ GetS w' g (getRaw (4 : Nat) s).2 ∧ Frm (at1 g) w w'
  generalize getRaw (4 : Nat) s = r at HG hlt hs ⊢
  obtain ⟨a, r⟩ := r
  generalize sgn64 (numL a) = z at hs ⊢
  go_enter Try.func25, Try.ntmps25
  go_wp2_with (go_at_call 40; refine HG.out.mono ?_; rintro e w1 ⟨rfl, q1⟩)
  go_ret
  exact ⟨rfl, q1⟩
theorem gint_s (g : Nat) (s : PS) (w : World) (h : GetS w g s) (hl : s.1.length ≤ 140737488355328) :
    Calls Try.prog 53 #[ptr g] w fun e w' => e = .returned (.int .i64 (getNum 8 s).1) ∧ GetS w' g (getNum 8 s).2 ∧ Frm (at1 g) w w' := by
  have HG := Lib.hid (glow_s g s 8 w h hl (by omega))
  have hlt := num_lt8 (getRaw_len 8 s) (by omega)
  have hs := sgn64_of hlt
  unfold getNum
  show Calls _ _ _ _ fun e w' => e = .returned (.int .i64 (sgn64 (numL (getRaw (8 : Nat) s).1))) ∧ GetS w' g (getRaw (8 : Nat) s).2 ∧ Frm (at1 g) w w'
  generalize getRaw (8 : Nat) s = r at HG hlt hs ⊢
  obtain ⟨a, r⟩ := r
  generalize sgn64 (numL a) = z at hs ⊢
  go_enter Try.func53, Try.ntmps53
  go_wp2_with (go_at_call 40; refine HG.out.mono ?_; rintro e w1 ⟨rfl, q1⟩)
  go_ret
  exact ⟨rfl, q1⟩
theorem gtext_s (g : Nat) (s : PS) (w : World) (h : GetS w g s) (hl : s.1.length ≤ 140737488355328) :
    Calls Try.prog 26 #[ptr g] w fun e w' => e = .returned (str (getText s).1) ∧ GetS w' g (getText s).2 ∧ Frm (at1 g) w w' := by
  have HG := Lib.hid (ghalf_s g s w h hl)
  have hl2 : (getNum 2 s).2.1.length ≤ s.1.length := by
    unfold getNum getRaw
    simp only
    split
    · split
      · simp
      · split
        · simp
        · simp
    · simp
  unfold getText
  generalize getNum 2 s = r at HG hl2 ⊢
  obtain ⟨n, r⟩ := r
  have hraw : ∀ w, GetS w g r → Calls Try.prog 41 #[ptr g, .int .i64 n] w fun e w' => e = .returned (str (getRaw n r).1) ∧ GetS w' g (getRaw n r).2 ∧ Frm (at1 g) w w' := fun w h => graw_s g r n w h (Nat.le_trans hl2 hl)
  have HRW := Lib.hid hraw
  clear hraw
  obtain ⟨S, hS⟩ : ∃ S, S = str (getRaw n r).1 := ⟨_, rfl⟩
  rw [← hS] at HRW ⊢
  clear hS
  go_enter Try.func26, Try.ntmps26
  go_wp2_with (first
    | (go_at_call 42; refine HG.out.mono ?_; rintro e w1 ⟨rfl, q1, f1⟩)
    | (go_at_call 41; refine (HRW.out _ q1).mono ?_; rintro e w2 ⟨rfl, q2, f2⟩))
  go_ret
  exact ⟨rfl, q2, f1.then_ f2⟩
theorem gbad_s (g : Nat) (s : PS) (w : World) (h : GetS w g s) : Calls Try.prog 43 #[ptr g] w fun e w' => e = .returned (.int .i64 s.2) ∧ w' = w := by
  have hB : Blk w g 82 #[str s.1, .int .i64 s.2] := h
  have c1 : w.cell? ⟨g, 1, none⟩ = some (.int .i64 s.2) := by rw [hB.cell 1]; rfl
  clear h hB
  go_enter Try.func43, Try.ntmps43
  go_wp2
  go_ret
  exact ⟨rfl, rfl⟩
theorem gleft_s (g : Nat) (s : PS) (w : World) (h : GetS w g s) : Calls Try.prog 45 #[ptr g] w fun e w' => e = .returned (.int .i64 (leftP s)) ∧ w' = w := by
  obtain ⟨l, x⟩ := s
  have hB : Blk w g 82 #[str l, .int .i64 x] := h
  have c0 : w.cell? ⟨g, 0, none⟩ = some (str l) := by rw [hB.cell 0]; rfl
  have H := Lib.hid h
  clear h hB
  have hz := bs_size l
  by_cases hx : x = 0
  · subst hx
    have HE : Hid (leftP (l, 0) = l.length) := by unfold Hid; simp [leftP]
    have HZ := Lib.hid hz
    obtain ⟨q, hq⟩ : ∃ q, q = bs l := ⟨_, rfl⟩
    have hstr : str l = .string q := by rw [hq]
    rw [hstr] at c0
    rw [← hq] at HZ
    clear hq hstr hz
    go_enter Try.func45, Try.ntmps45
    go_wp2_with (go_at_call 43; refine (gbad_s g (l, 0) _ H.out).mono ?_; rintro e w1 ⟨rfl, rfl⟩)
    go_ret
    exact ⟨ret_int (by rw [HE.out, HZ.out]), rfl⟩
  · have HE : Hid (leftP (l, x) = 0) := by unfold Hid; simp [leftP, hx]
    have e2 : (x != 0) = true := by simpa using hx
    clear hz c0
    go_enter Try.func45, Try.ntmps45
    go_wp2_with (go_at_call 43; refine (gbad_s g (l, x) _ H.out).mono ?_; rintro e w1 ⟨rfl, rfl⟩)
    go_ret
    exact ⟨ret_int HE.out.symm, rfl⟩
theorem gend_s (g : Nat) (s : PS) (w : World) (h : GetS w g s) : Calls Try.prog 54 #[ptr g] w fun e w' => e = .returned (.int .i64 (endG s).2) ∧ GetS w' g (endG s) ∧ Frm (at1 g) w w' := by
  obtain ⟨l, x⟩ := s
  have hB : Blk w g 82 #[str l, .int .i64 x] := h
  have f1 := hB.free 1
  have c1 : w.cell? ⟨g, 1, none⟩ = some (.int .i64 x) := by rw [hB.cell 1]; rfl
  have H := Lib.hid h
  have HB := Lib.hid hB
  by_cases hx : x = 0 ∧ 0 < l.length
  · obtain ⟨h0, hl⟩ := hx
    subst h0
    have hE : endG (l, 0) = (l, 6) := by simp [endG, hl]
    have hF : leftP (l, 0) = (l.length : Int) := by simp [leftP]
    have HL : Hid (∀ w, GetS w g (l, 0) → Calls Try.prog 45 #[ptr g] w fun e w' => e = .returned (.int .i64 l.length) ∧ w' = w) := by
      unfold Hid; rw [← hF]; exact fun w h => gleft_s g _ w h
    rw [hE]
    clear hE hF h hB
    go_enter Try.func54, Try.ntmps54
    go_wp2_with (first
      | (go_at_call 45; refine (HL.out _ H.out).mono ?_; rintro e w1 ⟨rfl, rfl⟩)
      | (go_at_call 43; refine (gbad_s g (l, 6) _ (HB.out.set_ 1 _)).mono ?_; rintro e w1 ⟨rfl, rfl⟩))
    go_ret
    exact ⟨rfl, HB.out.set_ 1 _, (Frm.refl (at1 g) _).setCell (p := ⟨g, 1, none⟩) (fun _ => rfl) _⟩
  · have hE : endG (l, x) = (l, x) := by unfold endG; rw [if_neg hx]
    have hF : leftP (l, x) = 0 := by
      unfold leftP
      by_cases h0 : x = 0
      · have : l.length = 0 := by
          rcases Nat.eq_zero_or_pos l.length with h1 | h1
          · exact h1
          · exact absurd ⟨h0, h1⟩ hx
        simp [h0, this]
      · simp [h0]
    have HL : Hid (∀ w, GetS w g (l, x) → Calls Try.prog 45 #[ptr g] w fun e w' => e = .returned (.int .i64 0) ∧ w' = w) := by
      unfold Hid; rw [← hF]; exact fun w h => gleft_s g _ w h
    rw [hE]
    clear hE hF h hB hx
    go_enter Try.func54, Try.ntmps54
    go_wp2_with (first
      | (go_at_call 45; refine (HL.out _ H.out).mono ?_; rintro e w1 ⟨rfl, rfl⟩)
      | (go_at_call 43; refine (gbad_s g (l, x) _ H.out).mono ?_; rintro e w1 ⟨rfl, rfl⟩))
    go_ret
    exact ⟨rfl, H.out, Frm.refl _ _⟩
theorem from_s (s : ByteArray) (w : World) :
    Calls Try.prog 23 #[.string s] w fun e w' => e = .returned (ptr w.heap.size) ∧ GetS w' w.heap.size (bts s, 0) ∧ Below w.heap.size w w' :=
  (from_any s w).mono fun _ _ ⟨h1, h2, h3⟩ => ⟨h1, h2.s, h3⟩
theorem as_put {f : FuncId} {args : Array Value} {w : World} {base g : Nat} {r : Ending} {s s' : PS} (h : Calls Try.prog f args w fun e w' => e = r ∧ PutS base w' g s ∧ Below base w w') (e : s = s') :
    Calls Try.prog f args w fun e w' => e = r ∧ PutS base w' g s' ∧ Below base w w' := e ▸ h
theorem as_num {f : FuncId} {args : Array Value} {w : World} {g : Nat} {x : Int × PS} {n : Int} {s' : PS} (h : Calls Try.prog f args w fun e w' => e = .returned (.int .i64 x.1) ∧ GetS w' g x.2 ∧ Frm (at1 g) w w') (e : x = (n, s')) :
    Calls Try.prog f args w fun e w' => e = .returned (.int .i64 n) ∧ GetS w' g s' ∧ Frm (at1 g) w w' := by subst e; exact h
theorem str_bts (T : ByteArray) : str (bts T) = .string T := by rw [show str (bts T) = .string (bs (bts T)) from rfl, bs_bts]
theorem as_txt {f : FuncId} {args : Array Value} {w : World} {g : Nat} {x : List UInt8 × PS} {T : ByteArray} {s' : PS} (h : Calls Try.prog f args w fun e w' => e = .returned (str x.1) ∧ GetS w' g x.2 ∧ Frm (at1 g) w w') (e : x = (bts T, s')) :
    Calls Try.prog f args w fun e w' => e = .returned (.string T) ∧ GetS w' g s' ∧ Frm (at1 g) w w' := by
  subst e; rw [← str_bts]; exact h
theorem as_end {f : FuncId} {args : Array Value} {w : World} {s : PS} {T : ByteArray} {x : Int} (h : Calls Try.prog f args w fun e w' => e = .returned (.tuple #[str (endP s).1, .int .i64 (endP s).2]) ∧ ∃ n, w' = w.drewN n) (e : endP s = (bts T, x)) :
    Calls Try.prog f args w fun e w' => e = .returned (.tuple #[.string T, .int .i64 x]) ∧ ∃ n, w' = w.drewN n := by
  rw [e] at h; rw [← str_bts]; exact h
end Go.Proofs.Ytgigkekajdgngaa
