/-
  The walk of the law PageChanged: for every input it returns true and changes nothing that was there. Condition: a body no longer than memory holds.
-/
import Derived.Test.YtejmpfmkaiaklaaPageLaws
namespace Go.Proofs.Ytejmpfmkaiaklaa
open Go Go.RowKit
attribute [local go_sem] cell_set_if

set_option maxRecDepth 100000 in
set_option maxHeartbeats 2000000 in
theorem changed_out (k i t : Int) (bd : ByteArray) (at_ d : Int) (w : World) (h : 300 < bd.size ∨ at_ < 0 ∨ d % 256 = 0) (hz : bd.size ≤ 9223372036854775807) :
    Calls Try.prog 7 #[pageV k i t bd, .int .i64 at_, .int .i64 d] w fun e w' => e = .returned (.bool true) ∧ Below w.heap.size w w' := by
  have hc : (300 : Int) < bd.size ∨ ((bd.size : Int) ≤ 300 ∧ at_ < 0) ∨ ((bd.size : Int) ≤ 300 ∧ 0 ≤ at_ ∧ (d % 256 == 0) = true) := by simp; omega
  rcases hc with h1 | ⟨h1, h2⟩ | ⟨h1, h2, h3⟩
  all_goals
    clear h
    go_enter Try.func7, Try.ntmps7
    go_wp2_with (first
      | (go_at_call 25; refine (alive5_any _).mono ?_; rintro e w1 ⟨rfl, b1⟩))
    go_ret
    exact ⟨rfl, below_of b1 ((Below.refl _ _).alloc (Nat.le_refl _) _) (by simp)⟩

set_option maxRecDepth 100000 in
set_option maxHeartbeats 2000000 in
theorem changed_no (k i t : Int) (bd : ByteArray) (at_ d : Int) (w : World) (h1 : bd.size ≤ 300) (h2 : 0 ≤ at_) (h3 : d % 256 ≠ 0) (h : ¬ okP k i t bd.size) :
    Calls Try.prog 7 #[pageV k i t bd, .int .i64 at_, .int .i64 d] w fun e w' => e = .returned (.bool true) ∧ Below w.heap.size w w' := by
  have h1' : (bd.size : Int) ≤ 300 := by omega
  have h3' : (d % 256 == 0) = false := by simpa using h3
  clear h3
  have hL := fun w => lay_no k i t bd w (by omega) h
  clear h
  go_enter Try.func7, Try.ntmps7
  go_wp2_with (first
    | (go_at_call 25; refine (alive5_any _).mono ?_; rintro e w1 ⟨rfl, b1⟩; have M1 := (Pc.new _ _ _ _ _ _).step b1; have B1 := below_of b1 ((Below.refl _ _).alloc (Nat.le_refl _) _) (by simp); have UM1 := M1; unfold Pc at UM1)
    | (go_at_call 28; refine (hL _).mono ?_; rintro e w2 ⟨rfl, b2⟩))
  go_ret
  exact ⟨rfl, below_of b2 B1 B1.size⟩

set_option maxRecDepth 100000 in
set_option maxHeartbeats 4000000 in
theorem changed_yes (k i t : Nat) (bd : ByteArray) (n : Nat) (d : Int) (w : World) (h : (⟨k, i, t, bts bd⟩ : Pg).ok) (hn : (n : Int) ≤ 9223372036854775807) (h3 : d % 256 ≠ 0) :
    Calls Try.prog 7 #[pageV k i t bd, .int .i64 n, .int .i64 d] w fun e w' => e = .returned (.bool true) ∧ Below w.heap.size w w' := by
  have q1 := h.2.2.2.2
  simp only [bts_len] at q1
  have h1' : (bd.size : Int) ≤ 300 := by omega
  have h3' : (d % 256 == 0) = false := by simpa using h3
  obtain ⟨S, hS⟩ : ∃ S, S = bs (layL ⟨k, i, t, bts bd⟩) := ⟨_, rfl⟩
  have hL : ∀ w, Calls Try.prog 28 #[pageV k i t bd] w fun e w' => e = .returned (.tuple #[.string S, .int .i64 0]) ∧ Below w.heap.size w w' := fun w => by rw [hS]; exact lay_ok k i t bd w h
  have hz : S.size = 256 := by rw [hS]; exact lay_size h
  have hbS : bts S = layL ⟨k, i, t, bts bd⟩ := by rw [hS, bts_bs]
  obtain ⟨p, hp⟩ : ∃ p, p = n % 256 := ⟨_, rfl⟩
  have hpl : p < 256 := by omega
  have hpi : ((n : Int) % 256) = (p : Int) := by omega
  obtain ⟨b, hb⟩ : ∃ b, (bts S)[p]? = some b := ⟨(bts S)[p]'(by rw [bts_len]; omega), List.getElem?_eq_getElem _⟩
  obtain ⟨v, hv⟩ : ∃ v : UInt8, v = b ^^^ UInt8.ofNat (d % 256).toNat := ⟨_, rfl⟩
  have hvb : v ≠ b := by
    intro h
    rw [h] at hv
    have h5 := congrArg UInt8.toNat hv
    rw [UInt8.toNat_xor] at h5
    have h6 : (UInt8.ofNat (d % 256).toNat).toNat = 0 := by
      have : b.toNat ^^^ 0 = b.toNat ^^^ (UInt8.ofNat (d % 256).toNat).toNat := by rw [Nat.xor_zero]; exact h5
      exact (xor_left_inj this).symm
    simp at h6; omega
  have hx : bits BinOp.xor IntKind.u8 (b.toNat : Int) (d % 256) = (v.toNat : Int) := by
    rw [u8_xor _ _ (by omega) (by have := b.toNat_lt; omega) (by omega) (by omega), hv, UInt8.toNat_xor, show (UInt8.ofNat (d % 256).toNat).toNat = (d % 256).toNat from by simp; omega]
    rfl
  have hE := errB_flip h (at_ := p) (v := v) (b := b) (by rw [← hbS]; exact hb) hvb
  rw [← hbS] at hE
  obtain ⟨E, hEq, hE2⟩ : ∃ E : Nat, errB ((bts S).set p v) = E ∧ (E = 6 ∨ E = 7) := ⟨_, rfl, hE⟩
  have hR1 : ∀ w, Calls Try.prog 29 #[.string (bs ((bts S).set p v))] w fun e w' => e = .returned (.tuple #[noPage, .int .i64 E]) ∧ Below w.heap.size w w' := fun w => by
    have := read_any (bs ((bts S).set p v)) w (by rw [bs_size, List.length_set, bts_len]; exact hz)
    unfold readV at this
    rw [bts_bs, hEq, if_neg (by omega)] at this
    exact this
  have hR2 : ∀ w, Calls Try.prog 29 #[.string (S.extract 0 p)] w fun e w' => e = .returned (.tuple #[noPage, .int .i64 5]) ∧ Below w.heap.size w w' := fun w =>
    read_len _ w (by rw [ByteArray.size_extract]; omega) (by rw [ByteArray.size_extract]; omega)
  have HB := Lib.hid hb
  have HX := Lib.hid hx
  have HP := Lib.hid hpi
  have HZ := Lib.hid hz
  have hz3 : ((S.size : Int) != 256) = false := by simp; omega
  have hpz : (p : Int) ≤ (S.size : Int) := by omega
  have hp0 : (0 : Int) ≤ (p : Int) := by omega
  have hn0 : (0 : Int) ≤ (n : Int) := by omega
  clear hb hx hv hp hvb hE hEq h h3 hS hbS hz
  rcases hE2 with rfl | rfl
  all_goals
    go_enter Try.func7, Try.ntmps7
    go_wp2_with (first
      | (go_at_call 25; refine (alive5_any _).mono ?_; rintro e w1 ⟨rfl, b1⟩; have M1 := (Pc.new _ _ _ _ _ _).step b1; have B1 := below_of b1 ((Below.refl _ _).alloc (Nat.le_refl _) _) (by simp); have UM1 := M1; unfold Pc at UM1)
      | (go_at_call 28; refine (hL _).mono ?_; rintro e w2 ⟨rfl, b2⟩; have B2 := below_of b2 B1 B1.size)
      | (refine wpList_str_bytes rfl 9 55 (.tmp 44) rfl 5 Try.underlying9 Try.underlying55 Try.underlying5 S rfl ?_
         intro c w3 hc3 b3 hs3 hr3 hf3
         have HR3 := Lib.hid hr3
         have B3 := below_of b3 B2 B2.size
         have hcell := cell_u8 hr3 HB.out
         have hfro := hf3 p (by have := HZ.out; omega)
         have hx := HX.out
         have hpl' : (p : Int) < (S.size : Int) := by have := HZ.out; omega
         clear hr3 hs3 hf3)
      | (refine wpList_bytes_str rfl 55 9 (.tmp 56) rfl 5 Try.underlying55 Try.underlying5 Try.underlying9 _ S.size _ ((bts S).set p v) rfl (by have h := HR3.out.set (p := p) (v := .int .u8 (v.toNat : Int)) (by rw [u8s_len, bts_len]; have := HZ.out; omega); rw [u8s_set] at h; simpa using h) (by rw [List.length_set, bts_len]) ?_
         clear hcell hfro hx
         have B4 := B3.setCell (p := ⟨w2.heap.size, p, none⟩) B2.size (.int .u8 (v.toNat : Int)))
      | (go_at_call 29; with_reducible refine (hR1 _).mono ?_; rintro e w5 ⟨rfl, b5⟩; have B5 := below_of b5 B4 B4.size; have B6 := B5.alloc B5.size (.cells #[.int .i64 0, .int .i64 0, .int .i64 0, .string ⟨#[]⟩] 29))
      | (go_at_call 29; with_reducible refine (hR2 _).mono ?_; rintro e w7 ⟨rfl, b7⟩; have M7 := ((Pc.new w5 0 0 0 ⟨#[]⟩ 29).step b7).alloc (.cells #[.int .i64 0, .int .i64 0, .int .i64 0, .string ⟨#[]⟩] 29); have UM7 := M7; unfold Pc at UM7; have B7 := below_of b7 B6 B6.size))
    go_ret
    exact ⟨rfl, B7.alloc B7.size _⟩

/-- PageChanged, every input. -/
theorem changed_walk (k i t : Int) (bd : ByteArray) (at_ d : Int) (w : World) (hz : bd.size ≤ maxLen) (ha : at_ ≤ 9223372036854775807) :
    Calls Try.prog 7 #[pageV k i t bd, .int .i64 at_, .int .i64 d] w fun e w' => e = .returned (.bool true) ∧ Below w.heap.size w w' := by
  unfold maxLen at hz
  by_cases h : 300 < bd.size ∨ at_ < 0 ∨ d % 256 = 0
  · exact changed_out k i t bd at_ d w h hz
  · by_cases a : okP k i t bd.size
    · obtain ⟨k, rfl⟩ := Int.eq_ofNat_of_zero_le (show 0 ≤ k by have := a.1; omega)
      obtain ⟨i, rfl⟩ := Int.eq_ofNat_of_zero_le (show 0 ≤ i from a.2.2.1)
      obtain ⟨t, rfl⟩ := Int.eq_ofNat_of_zero_le (show 0 ≤ t from a.2.2.2.2.1)
      obtain ⟨n, rfl⟩ := Int.eq_ofNat_of_zero_le (show 0 ≤ at_ by omega)
      exact changed_yes k i t bd n d w (okP_ok.1 a) ha (by omega)
    · exact changed_no k i t bd at_ d w (by omega) (by omega) (by omega) a
end Go.Proofs.Ytejmpfmkaiaklaa
