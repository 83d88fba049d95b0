/-
  The net's small calls. No condition but those of the arguments' form.
-/
import Derived.Test.YtpkbfdgfdgkbkaaNetM
import Derived.Test.YtpkbfdgfdgkbkaaPackGet
import Derived.Test.YtpkbfdgfdgkbkaaQuietNew
import Derived.Laws.ResultCell
namespace Go.Proofs.Ytpkbfdgfdgkbkaa
open Go Go.RowKit
attribute [local go_sem] cell_set_if

theorem nnew_any (w : World) : Calls Try.prog 6 #[] w fun e w' => e = .returned (.pointer (some ⟨w.heap.size, 0, none⟩)) ∧ NetAt w' w.heap.size w.heap.size [] [] (.slice none 0 0) (.slice none 0 0) ∧ Below w.heap.size w w' := by
  go_enter Try.func6, Try.ntmps6
  go_wp2
  go_ret
  exact ⟨rfl, ⟨Blk.new _ _ _, Nat.le_refl _, World.ownsRow_nil _ _ _ _, World.ownsRow_nil _ _ _ _⟩, (Below.refl _ _).alloc (Nat.le_refl _) _⟩
theorem ntwo_any (a b : Int) (w : World) : Calls Try.prog 17 #[.int .i64 a, .int .i64 b] w fun e w' => e = .returned (.agg #[.int .i64 (min a b), .int .i64 (max a b)]) ∧ Below w.heap.size w w' := by
  by_cases h : a ≤ b
  · have h1 : min a b = a := by omega
    have h2 : max a b = b := by omega
    rw [h1, h2]
    go_enter Try.func17, Try.ntmps17
    go_wp2
    refine bodyPost_ret (v := .agg #[.int .i64 a, .int .i64 b]) (by simp only [results, show Try.f17.results = #[.cell 4 39] from rfl]; go_simp) rfl ⟨rfl, ?_⟩
    exact (Below.refl _ _).alloc (Nat.le_refl _) _
  · have h1 : min a b = b := by omega
    have h2 : max a b = a := by omega
    rw [h1, h2]
    go_enter Try.func17, Try.ntmps17
    go_wp2
    refine bodyPost_ret (v := .agg #[.int .i64 b, .int .i64 a]) (by simp only [results, show Try.f17.results = #[.cell 4 39] from rfl]; go_simp) rfl ⟨rfl, ?_⟩
    exact (Below.refl _ _).alloc (Nat.le_refl _) _
section
variable {w : World} {base g : Nat} {l : List Pk} {c : List Ct} {v1 v2 : Value}
theorem nlen_any (h : NetAt w base g l c v1 v2) : Calls Try.prog 10 #[.pointer (some ⟨g, 0, none⟩)] w fun e w' => e = .returned (.int .i64 (l.length : Nat)) ∧ w' = w := by
  obtain ⟨⟨A, n, rfl, _⟩, _⟩ := h.form
  have c0 : w.cell? ⟨g, 0, none⟩ = some (.slice A l.length n) := h.blk.cell 0
  clear h
  go_enter Try.func10, Try.ntmps10
  go_wp2
  go_ret
  exact ⟨rfl, rfl⟩
theorem nhas_any (k : Int) (h : NetAt w base g l c v1 v2) : Calls Try.prog 23 #[.pointer (some ⟨g, 0, none⟩), .int .i64 k] w fun e w' => e = .returned (.bool (decide (0 ≤ k) && decide (k < (l.length : Int)))) ∧ w' = w := by
  obtain ⟨⟨A, n, rfl, _⟩, _⟩ := h.form
  obtain ⟨m, hm⟩ : ∃ m, l.length = m := ⟨_, rfl⟩
  have c0 : w.cell? ⟨g, 0, none⟩ = some (.slice A m n) := by rw [← hm]; exact h.blk.cell 0
  rw [hm]
  clear h hm
  go_enter Try.func23, Try.ntmps23
  by_cases h1 : 0 ≤ k
  · have d1 : decide (0 ≤ k) = true := decide_eq_true h1
    go_wp2
    go_ret
    exact ⟨by simp [h1], rfl⟩
  · have d1 : decide (0 ≤ k) = false := decide_eq_false h1
    go_wp2
    go_ret
    exact ⟨by simp [h1], rfl⟩
/-- A packet as a value. -/
def pkV (x : Pk) : Value := .agg #[.int .i64 x.src, .int .i64 x.dst, .string x.data]
def noPk : Pk := ⟨0, 0, ⟨#[]⟩⟩
def isAt (l : List Pk) (k : Int) : Bool := decide (0 ≤ k) && decide (k < (l.length : Int))
/-- The packet at a place, or none. -/
def peekK (l : List Pk) (k : Int) : Pk := if isAt l k then l.getD k.toNat noPk else noPk
theorem npeek_any (k : Int) (h : NetAt w base g l c v1 v2) : Calls Try.prog 14 #[.pointer (some ⟨g, 0, none⟩), .int .i64 k] w fun e w' => e = .returned (.tuple #[pkV (peekK l k), .bool (isAt l k)]) ∧ Below w.heap.size w w' := by
  have ba : Below w.heap.size w (w.alloc (.cells #[.int .i64 0, .int .i64 0, .string ByteArray.empty] 29)) := (Below.refl _ _).alloc (Nat.le_refl _) _
  have HH := Lib.hid (nhas_any k (h.below ba))
  obtain ⟨⟨A, n, rfl, _⟩, _⟩ := h.form
  by_cases hk : isAt l k = true
  · have hh := HH.out
    rw [show (decide (0 ≤ k) && decide (k < (l.length : Int))) = true from hk] at hh
    have HX := Lib.hid hh
    have h2 := hk
    unfold isAt at h2
    simp only [Bool.and_eq_true, decide_eq_true_eq] at h2
    obtain ⟨i, rfl⟩ : ∃ i : Nat, k = (i : Int) := ⟨k.toNat, by omega⟩
    have hr : Rd w A (flatK l) := Rd.of_own h.o1
    obtain ⟨b, o, x, rfl, hb, hx, d0, d1, d2⟩ := hr.pk (k := i) (by omega)
    have hp : Hid (peekK l (i : Int) = x) := by unfold Hid peekK; rw [if_pos hk, Int.toNat_natCast, List.getD_eq_getElem?_getD, hx]; rfl
    have c0 : w.cell? ⟨g, 0, none⟩ = some (.slice (some ⟨b, o, none⟩) l.length n) := h.blk.cell 0
    have hlt : (i : Int) < (l.length : Int) := by omega
    have hgl := h.blk.lt
    rw [hk, hp.out]
    clear h hr hk h2 hh HH hx hp
    go_enter Try.func14, Try.ntmps14
    go_wp2_with (go_at_call 23; refine HX.out.mono ?_; rintro e w2 ⟨rfl, hw⟩; subst hw)
    refine bodyPost_ret (v := .tuple #[pkV x, .bool true]) (by rw [results_cell_tmp rfl]; go_simp <;> rfl) rfl ⟨rfl, ?_⟩
    exact (Below.refl _ _).alloc (Nat.le_refl _) _
  · have hk' : isAt l k = false := by simpa using hk
    have hh := HH.out
    rw [show (decide (0 ≤ k) && decide (k < (l.length : Int))) = false from hk'] at hh
    have HX := Lib.hid hh
    have hp : Hid (peekK l k = noPk) := by unfold Hid peekK; rw [if_neg hk]
    rw [hk', hp.out]
    clear h hk hk' hh HH hp
    go_enter Try.func14, Try.ntmps14
    go_wp2_with (go_at_call 23; refine HX.out.mono ?_; rintro e w2 ⟨rfl, hw⟩; subst hw)
    refine bodyPost_ret (v := .tuple #[pkV noPk, .bool false]) (by rw [results_cell_tmp rfl]; go_simp <;> rfl) rfl ⟨rfl, ?_⟩
    exact (Below.refl _ _).alloc (Nat.le_refl _) _
theorem nclear_any (h : NetAt w base g l c v1 v2) : Calls Try.prog 13 #[.pointer (some ⟨g, 0, none⟩)] w fun e w' => e = .returned (.int .i64 (l.length : Nat)) ∧ NetAt w' base g [] c (.slice none 0 0) v2 ∧ TurnN g v1 v2 w (.slice none 0 0) v2 w' := by
  obtain ⟨⟨A, n, rfl, _⟩, _⟩ := h.form
  obtain ⟨m, hm⟩ : ∃ m, l.length = m := ⟨_, rfl⟩
  have c0 : w.cell? ⟨g, 0, none⟩ = some (.slice A m n) := by rw [← hm]; exact h.blk.cell 0
  have f0 := h.blk.free 0
  rw [hm]
  have H := Lib.hid h
  clear h hm
  go_enter Try.func13, Try.ntmps13
  go_wp2
  go_ret
  have FX : Frm (at1 g) w (w.setCell ⟨g, 0, none⟩ (.slice none 0 0)) := (Frm.refl (at1 g) w).setCell (p := ⟨g, 0, none⟩) (fun _ => rfl) _
  refine ⟨rfl, ⟨by simpa using H.out.blk.set_ 0 (.slice none 0 0), H.out.low, World.ownsRow_nil _ _ _ _, own_frm H.out.o2 FX fun q hq e => H.out.blk.own_ne H.out.o2 (by decide) (e ▸ hq)⟩, ⟨FX.mono fun q _ e => .inl e, fun q hq => ?_⟩⟩
  rcases hq with hq | hq | hq
  · exact .inl (.inl hq)
  · simp [Value.ownBlock] at hq
  · exact .inl (.inr (.inr hq))
end
end Go.Proofs.Ytpkbfdgfdgkbkaa
