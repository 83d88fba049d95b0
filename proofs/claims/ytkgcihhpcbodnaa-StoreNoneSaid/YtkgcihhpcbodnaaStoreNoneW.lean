/-
  StoreNone, walked: a nil store, no disk, and one without power. No condition.
-/
import Derived.Test.YtkgcihhpcbodnaaStoreAlive
import Derived.Test.YtkgcihhpcbodnaaDiskAlive
namespace Go.Proofs.Ytkgcihhpcbodnaa
open Go Go.RowKit
attribute [local go_sem] cell_set_if

theorem sget_nil (id : Int) (w : World) : Calls Try.prog 6 #[.pointer none, .int .i64 id] w fun e w' => e = .returned (.tuple #[pageV 0 0 0 ⟨#[]⟩, .int .i64 1]) ∧ Below w.heap.size w w' := by
  go_enter Try.func6, Try.ntmps6
  go_wp2
  refine bodyPost_ret (v := .tuple #[pageV 0 0 0 ⟨#[]⟩, .int .i64 1]) (by rw [results_cell_tmp rfl]; go_simp) rfl ⟨rfl, ?_⟩
  exact (Below.refl _ _).alloc (Nat.le_refl _) _
theorem smeta_nil (w : World) : Calls Try.prog 7 #[.pointer none] w fun e w' => e = .returned (.tuple #[.agg #[.int .i64 0, .int .i64 0, .int .i64 0, .int .i64 0], .int .i64 1]) ∧ Below w.heap.size w w' := by
  go_enter Try.func7, Try.ntmps7
  go_wp2
  refine bodyPost_ret (v := .tuple #[.agg #[.int .i64 0, .int .i64 0, .int .i64 0, .int .i64 0], .int .i64 1]) (by rw [results_cell_tmp rfl]; go_simp) rfl ⟨rfl, ?_⟩
  exact (Below.refl _ _).alloc (Nat.le_refl _) _
theorem sput_nil (v : Value) (w : World) : Calls Try.prog 11 #[.pointer none, v] w fun e w' => e = .returned (.int .i64 1) ∧ w' = w := by
  go_enter Try.func11, Try.ntmps11
  go_wp2
  go_ret
  exact ⟨rfl, rfl⟩
theorem ssetmeta_nil (a b c d : Int) (w : World) : Calls Try.prog 12 #[.pointer none, .agg #[.int .i64 a, .int .i64 b, .int .i64 c, .int .i64 d]] w fun e w' => e = .returned (.int .i64 1) ∧ Below w.heap.size w w' := by
  go_enter Try.func12, Try.ntmps12
  go_wp2
  go_ret
  exact ⟨rfl, (Below.refl _ _).alloc (Nat.le_refl _) _⟩
theorem mfirst_any (w : World) : Calls Try.prog 13 #[] w fun e w' => e = .returned (.agg #[.int .i64 1, .int .i64 0, .int .i64 0, .int .i64 2]) ∧ Below w.heap.size w w' := by
  go_enter Try.func13, Try.ntmps13
  go_wp2
  refine bodyPost_ret (v := .agg #[.int .i64 1, .int .i64 0, .int .i64 0, .int .i64 2]) (by simp only [results, show Try.f13.results = _ from rfl]; go_simp) rfl ⟨rfl, ?_⟩
  repeat (refine Below.setCell ?_ (by exact Nat.le_refl _) _)
  exact (Below.refl _ _).alloc (Nat.le_refl _) _
theorem ssync_nil (w : World) : Calls Try.prog 14 #[.pointer none] w fun e w' => e = .returned (.int .i64 1) ∧ w' = w := by
  go_enter Try.func14, Try.ntmps14
  go_wp2
  go_ret
  exact ⟨rfl, rfl⟩
theorem ssize_nil (w : World) : Calls Try.prog 15 #[.pointer none] w fun e w' => e = .returned (.int .i64 0) ∧ w' = w := by
  go_enter Try.func15, Try.ntmps15
  go_wp2
  go_ret
  exact ⟨rfl, rfl⟩
theorem sreads_nil (w : World) : Calls Try.prog 16 #[.pointer none] w fun e w' => e = .returned (.int .i64 0) ∧ w' = w := by
  go_enter Try.func16, Try.ntmps16
  go_wp2
  go_ret
  exact ⟨rfl, rfl⟩
theorem sname_nil (w : World) : Calls Try.prog 17 #[.pointer none] w fun e w' => e = .returned (.string ⟨#[]⟩) ∧ w' = w := by
  go_enter Try.func17, Try.ntmps17
  go_wp2
  go_ret
  exact ⟨rfl, rfl⟩
/-- A new disk, fallen. -/
def offD : Ds := ⟨[], [], true, 0, false, 0, [], 0⟩
theorem new_crash : crashD (newD 0) [] = (0, offD) := rfl
theorem off_open : openE offD stN = 14 := rfl
theorem alive8_off {base g : Nat} (w : World) (L : LiveAt w base offD g) : Calls Try.prog 8 #[.pointer (some ⟨g, 0, none⟩), .string ⟨#[97]⟩] w fun e w' => e = .returned (.tuple #[.pointer none, .int .i64 14]) ∧ Below w.heap.size w w' := by
  have h := stopen_no (s := stN) w L (by rw [off_open]; decide)
  rw [off_open] at h
  exact h
set_option maxRecDepth 100000 in
set_option maxHeartbeats 8000000 in
theorem storenone_walk (s : ByteArray) (id k i t : Int) (bd : ByteArray) (w : World) :
    Calls Try.prog 3 #[.string s, .int .i64 id, pageV k i t bd] w fun e w' => e = .returned (.bool true) ∧ Below w.heap.size w w' := by
  have ba : Below w.heap.size w (w.alloc (.cells #[.int .i64 k, .int .i64 i, .int .i64 t, .string bd] 23)) := (Below.refl _ _).alloc (Nat.le_refl _) _
  have HBA := Lib.hid ba
  have HK := Lib.hid (Blk.new w 23 #[.int .i64 k, .int .i64 i, .int .i64 t, .string bd])
  clear ba
  have hc : 60 < (s.size : Int) ∨ ((s.size : Int) ≤ 60 ∧ 300 < (bd.size : Int)) ∨ ((s.size : Int) ≤ 60 ∧ (bd.size : Int) ≤ 300) := by omega
  rcases hc with h | ⟨h, h2⟩ | ⟨h, h2⟩
  · go_enter Try.func3, Try.ntmps3
    go_wp2_with (go_at_call 5; refine (alive8_any _).mono ?_; rintro e w1 ⟨rfl, b1⟩)
    go_ret
    exact ⟨rfl, below_of b1 HBA.out HBA.out.size⟩
  · go_enter Try.func3, Try.ntmps3
    go_wp2_with (go_at_call 5; refine (alive8_any _).mono ?_; rintro e w1 ⟨rfl, b1⟩)
    go_ret
    exact ⟨rfl, below_of b1 HBA.out HBA.out.size⟩
  · go_enter Try.func3, Try.ntmps3
    go_wp2_with (first
      | (go_at_call 5; (with_reducible refine (alive8_any _).mono ?_); rintro e w1 ⟨rfl, b1⟩; have HB1 := Lib.hid (HBA.out.trans (b1.mono HBA.out.size)); have HK1 := Lib.hid (HK.out.below b1))
      | (go_at_call 6; (with_reducible refine (sget_nil _ _).mono ?_); rintro e w2 ⟨rfl, b2⟩; have bx := (Below.refl w2.heap.size w2).alloc (Nat.le_refl _) (.cells #[.int .i64 0, .int .i64 0, .int .i64 0, .string ⟨#[]⟩] 23); have HB2 := Lib.hid ((HB1.out.trans (b2.mono HB1.out.size)).trans (bx.mono (Nat.le_trans HB1.out.size b2.size))); have HK2 := Lib.hid ((HK1.out.below b2).below bx); clear bx)
      | (go_at_call 7; (with_reducible refine (smeta_nil _).mono ?_); rintro e w3 ⟨rfl, b3⟩; have bx := (Below.refl w3.heap.size w3).alloc (Nat.le_refl _) (.cells #[.int .i64 0, .int .i64 0, .int .i64 0, .int .i64 0] 30); have HB3 := Lib.hid ((HB2.out.trans (b3.mono HB2.out.size)).trans (bx.mono (Nat.le_trans HB2.out.size b3.size))); have HK3 := Lib.hid ((HK2.out.below b3).below bx); clear bx)
      | (go_at_call 9; (with_reducible refine (lnew 0 _).mono ?_); rintro e w4 ⟨g, rfl, L4, b4⟩; have HB4 := Lib.hid (HB3.out.trans (b4.mono HB3.out.size)); have HK4 := Lib.hid (HK3.out.below b4); have HC4 := Lib.hid (kcrash (keep := []) (A := none) (n := 0) (c := 0) L4 fine_new (Rd.nil _ _) rfl (by omega) (fun h => by omega) new_crash))
      | (go_at_call 10; (with_reducible refine HC4.out.mono ?_); rintro e w5 ⟨rfl, L5, b5, k5⟩; have HB5 := Lib.hid (HB4.out.trans (b5.mono HB3.out.size)); have HK5 := Lib.hid (Blk.kp HK4.out k5 (by decide)); have HO5 := Lib.hid (alive8_off w5 L5))
      | (go_at_call 8; (with_reducible refine HO5.out.mono ?_); rintro e w6 ⟨rfl, b6⟩; have HB6 := Lib.hid (HB5.out.trans (b6.mono HB5.out.size)); obtain ⟨⟨p0, p1, p2, p3⟩, _⟩ := (HK5.out.below b6).four; have hgl := (HK5.out.below b6).lt)
      | (go_at_call 8; (with_reducible refine (stopen_nil _ _).mono ?_); rintro e wn ⟨rfl, hw⟩; subst hw)
      | (go_at_call 11; (with_reducible refine (sput_nil _ _).mono ?_); rintro e wn ⟨rfl, hw⟩; subst hw)
      | (go_at_call 13; (with_reducible refine (mfirst_any _).mono ?_); rintro e w7 ⟨rfl, b7⟩)
      | (go_at_call 12; (with_reducible refine (ssetmeta_nil _ _ _ _ _).mono ?_); rintro e w8 ⟨rfl, b8⟩)
      | (go_at_call 14; (with_reducible refine (ssync_nil _).mono ?_); rintro e wn ⟨rfl, hw⟩; subst hw)
      | (go_at_call 15; (with_reducible refine (ssize_nil _).mono ?_); rintro e wn ⟨rfl, hw⟩; subst hw)
      | (go_at_call 16; (with_reducible refine (sreads_nil _).mono ?_); rintro e wn ⟨rfl, hw⟩; subst hw)
      | (go_at_call 17; (with_reducible refine (sname_nil _).mono ?_); rintro e wn ⟨rfl, hw⟩; subst hw))
    go_ret
    have B7 := below_of b7 (HB6.out.alloc HB6.out.size _) (HB6.out.alloc HB6.out.size _).size
    exact ⟨rfl, below_of b8 B7 B7.size⟩
end Go.Proofs.Ytkgcihhpcbodnaa
