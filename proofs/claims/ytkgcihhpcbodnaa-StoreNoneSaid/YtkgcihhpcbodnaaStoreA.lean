/-
  A file of pages in memory: Open, Size, Reads, Name, Sync, and the number of reads. Conditions: as the disk's own calls have them.
-/
import Derived.Test.YtkgcihhpcbodnaaStoreP
import Derived.Test.YtkgcihhpcbodnaaKp
import Derived.Laws.LoneSync
namespace Go.Proofs.Ytkgcihhpcbodnaa
open Go Go.RowKit
attribute [local go_sem] cell_set_if

/-- A file of pages in memory. -/
def SBlk (w : World) (gs g : Nat) (s : ByteArray) (n : Nat) : Prop := Blk w gs 58 #[.pointer (some ⟨g, 0, none⟩), .string s, .int .i64 n]
section
variable {w w' : World} {base gs g n : Nat} {s : ByteArray} {d d' : Ds}
theorem SBlk.kp (h : SBlk w gs g s n) (k : Kp dTys w w') : SBlk w' gs g s n := Blk.kp h k (by decide)
theorem SBlk.below (h : SBlk w gs g s n) (k : Below w.heap.size w w') : SBlk w' gs g s n := Blk.below h k
theorem SBlk.c0 (h : SBlk w gs g s n) : w.cell? ⟨gs, 0, none⟩ = some (.pointer (some ⟨g, 0, none⟩)) := h.cell 0
theorem SBlk.c1 (h : SBlk w gs g s n) : w.cell? ⟨gs, 1, none⟩ = some (.string s) := h.cell 1
theorem Try.addEntry : Extern.find Try.f64 = some (Extern.Atomic.update (Op.intArith .add) .i64 true) := by kernel_rfl
theorem Try.loadEntry : Extern.find Try.f78 = some (Extern.Atomic.loadT (.int .i64)) := by kernel_rfl
theorem run_add (b o : Nat) (x y : Int) (w : World) (hc : w.cell? ⟨b, o, none⟩ = some (.int .i64 x)) (hz : w.frozen? ⟨b, o, none⟩ = false) (h0 : -9223372036854775808 ≤ x + y) (h1 : x + y ≤ 9223372036854775807) :
    (callFunc 64 #[.pointer (some ⟨b, o, none⟩), .int .i64 y]).run Try.prog w = .ok (.value (.int .i64 (x + y))) (w.setCell ⟨b, o, none⟩ (.int .i64 (x + y))) :=
  run_call_add (f := 64) (fn := Try.f64) Try.func64 (by kernel_rfl) (by kernel_rfl) (by kernel_rfl) .i64 Try.addEntry hc hz (by
    have : IntKind.i64.wrap (x + y) = x + y := IntWalk.i64_in _ ⟨h0, h1⟩
    simp [Op.intArith, this])
theorem run_load (b o : Nat) (x : Int) (w : World) (hc : w.cell? ⟨b, o, none⟩ = some (.int .i64 x)) :
    (callFunc 78 #[.pointer (some ⟨b, o, none⟩)]).run Try.prog w = .ok (.value (.int .i64 x)) w :=
  run_call_load (f := 78) (fn := Try.f78) Try.func78 (by kernel_rfl) (by kernel_rfl) (by kernel_rfl) .i64 Try.loadEntry hc
theorem count_now (b o : Nat) (x : Int) (w : World) (hc : w.cell? ⟨b, o, none⟩ = some (.int .i64 x)) (h0 : -9223372036854775808 ≤ x) (h1 : x ≤ 9223372036854775807) :
    Calls Try.prog 36 #[.pointer (some ⟨b, o, none⟩)] w fun e w' => e = .returned (.int .i64 x) ∧ w' = w := by
  have hr := run_load b o x w hc
  go_enter Try.func36, Try.ntmps36
  go_wp2
  go_ret
  exact ⟨rfl, rfl⟩
theorem count_add (b o : Nat) (x : Nat) (w : World) (hc : w.cell? ⟨b, o, none⟩ = some (.int .i64 x)) (hz : w.frozen? ⟨b, o, none⟩ = false) (h1 : x ≤ 1000000000) :
    Calls Try.prog 22 #[.pointer (some ⟨b, o, none⟩), .int .i64 1] w fun e w' => e = .returned (.int .i64 ((x : Int) + 1)) ∧ w' = w.setCell ⟨b, o, none⟩ (.int .i64 ((x : Int) + 1)) := by
  have hr := run_add b o x 1 w hc hz (by omega) (by omega)
  have hx : (x : Int) ≤ 1000000000 := by omega
  have hx0 : (0 : Int) ≤ (x : Int) := by omega
  go_enter Try.func22, Try.ntmps22
  go_wp2
  go_ret
  exact ⟨rfl, rfl⟩
theorem streads_any (w : World) (h : SBlk w gs g s n) (hn : n ≤ 1000000000) : Calls Try.prog 16 #[.pointer (some ⟨gs, 0, none⟩)] w fun e w' => e = .returned (.int .i64 n) ∧ w' = w := by
  have hc : w.cell? ⟨gs, 2, none⟩ = some (.int .i64 n) := h.cell 2
  have HN := count_now gs 2 n w hc (by omega) (by omega)
  go_enter Try.func16, Try.ntmps16
  go_wp2_with (go_at_call 36; with_reducible refine HN.mono ?_; rintro e w1 ⟨rfl, hw⟩; subst hw)
  go_ret
  exact ⟨rfl, rfl⟩
theorem stname_any (w : World) (h : SBlk w gs g s n) : Calls Try.prog 17 #[.pointer (some ⟨gs, 0, none⟩)] w fun e w' => e = .returned (.string s) ∧ w' = w := by
  have hc : w.cell? ⟨gs, 1, none⟩ = some (.string s) := h.cell 1
  go_enter Try.func17, Try.ntmps17
  go_wp2
  go_ret
  exact ⟨rfl, rfl⟩
theorem stsize_any (w : World) (h : SBlk w gs g s n) (L : LiveAt w base d g) : Calls Try.prog 15 #[.pointer (some ⟨gs, 0, none⟩)] w fun e w' => e = .returned (.int .i64 (szD d s)) ∧ Below w.heap.size w w' := by
  have c0 : w.cell? ⟨gs, 0, none⟩ = some (.pointer (some ⟨g, 0, none⟩)) := h.cell 0
  have c1 : w.cell? ⟨gs, 1, none⟩ = some (.string s) := h.cell 1
  obtain ⟨k, e0, hk⟩ : ∃ k e0, sizeD d s = (k, e0) := ⟨_, _, rfl⟩
  have hsz := sizeD_sz d s
  rw [hk] at hsz
  have hsz : k = (szD d s : Int) := hsz
  have HS : Hid (∀ r : NewM w, Calls Try.prog 25 #[.pointer (some ⟨g, 0, none⟩), .string s] r.w' fun e w'' => e = .returned (.tuple #[.int .i64 k, .int .i64 e0]) ∧ Below r.w'.heap.size r.w' w'') := fun r => lsize (L.below r.h) hk
  have HZ := Lib.hid hsz
  have n0 := NewM.cell c0
  have n1 := NewM.cell c1
  clear hk hsz h L
  go_enter Try.func15, Try.ntmps15
  go_wp2
  refine wp_region_quiet_new (by kernel_rfl) (by kernel_rfl) ?_
  repeat (go_big_quiet_step (first
    | (go_at_call 25; with_reducible exact NewM.call (HS.out _))))
  refine wpQuiet_nil ?_
  rintro _ ⟨rr, rfl⟩
  go_wp2
  go_ret
  exact ⟨rfl, rr.h⟩
theorem stsync_any (w : World) (h : SBlk w gs g s n) (L : LiveAt w base d g) (hf : d.fine) : Calls Try.prog 14 #[.pointer (some ⟨gs, 0, none⟩)] w fun e w' => e = .returned (.int .i64 (if (syncD d s).1 = 8 then 0 else (syncD d s).1)) ∧ LiveAt w' base (syncD d s).2 g ∧ Below base w w' ∧ Kp dTys w w' := by
  have c0 : w.cell? ⟨gs, 0, none⟩ = some (.pointer (some ⟨g, 0, none⟩)) := h.cell 0
  have c1 : w.cell? ⟨gs, 1, none⟩ = some (.string s) := h.cell 1
  obtain ⟨e0, d', hk⟩ : ∃ e0 d', syncD d s = (e0, d') := ⟨_, _, rfl⟩
  rw [hk]
  simp only
  have HS : Hid (∀ w' : World, Qt w w' → Calls Try.prog 35 #[.pointer (some ⟨g, 0, none⟩), .string s] w' fun e w'' => e = .returned (.int .i64 e0) ∧ LiveAt w'' base d' g ∧ Below base w w'' ∧ Kp dTys w w'' ∧ w''.cell? ⟨gs, 0, none⟩ = some (.pointer (some ⟨g, 0, none⟩)) ∧ w''.cell? ⟨gs, 1, none⟩ = some (.string s)) := fun w' hq =>
    (ksync (L.below (hq.below _)) hf hk).mono fun e w'' ⟨h1, h2, h3, h4⟩ => ⟨h1, h2, below_of h3 (hq.below base) (Nat.le_refl _), (Kp.of_below (hq.below _)).trans h4, (h.kp ((Kp.of_below (hq.below _)).trans h4)).cell 0, (h.kp ((Kp.of_below (hq.below _)).trans h4)).cell 1⟩
  clear hk h L hf
  go_enter Try.func14, Try.ntmps14
  go_wp2
  have q1 := HS.out w.drew ⟨1, rfl⟩
  have c0d : w.drew.cell? ⟨gs, 0, none⟩ = some (.pointer (some ⟨g, 0, none⟩)) := c0
  have c1d : w.drew.cell? ⟨gs, 1, none⟩ = some (.string s) := c1
  go_region_held3 (fun w' => w'.cell? ⟨gs, 0, none⟩ = some (.pointer (some ⟨g, 0, none⟩)) ∧ w'.cell? ⟨gs, 1, none⟩ = some (.string s))
    (first | with_reducible exact ⟨c0d, c1d⟩ | with_reducible exact ⟨f0, f1⟩)
    ((go_at_call 35; (with_reducible refine q1.mono ?_); rintro e w1 ⟨rfl, L1, B1, K1, f0, f1⟩))
  by_cases h8 : e0 = 8
  · subst h8
    go_wp2
    go_ret
    exact ⟨rfl, L1, B1, K1⟩
  · go_wp2
    go_ret
    exact ⟨rfl, L1, B1, K1⟩
end
end Go.Proofs.Ytkgcihhpcbodnaa
