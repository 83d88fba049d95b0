/-
  The net's small calls. No condition but those of the arguments' form.
-/
import Derived.Test.YtgigkekajdgngaaGreatNetM
import Derived.Test.YtgigkekajdgngaaGreatMtOne
import Derived.Laws.ResultCell
namespace Go.Proofs.YtgigkekajdgngaaGreat
open Go Go.RowKit
attribute [local go_sem] cell_set_if

theorem nnew_any (w : World) : Calls Tryz.prog 19 #[] w fun e w' => e = .returned (.pointer (some ⟨w.heap.size, 0, none⟩)) ∧ NetAt w' w.heap.size w.heap.size [] [] (.slice none 0 0) (.slice none 0 0) ∧ Below w.heap.size w w' := by
  go_enter Tryz.func19, Tryz.ntmps19
  go_wp2
  go_ret
  exact ⟨rfl, ⟨Blk.new _ _ _, Nat.le_refl _, World.ownsRow_nil _ _ _ _, World.ownsRow_nil _ _ _ _⟩, (Below.refl _ _).alloc (Nat.le_refl _) _⟩
theorem ntwo_any (a b : Int) (w : World) : Calls Tryz.prog 86 #[.int .i64 a, .int .i64 b] w fun e w' => e = .returned (.agg #[.int .i64 (min a b), .int .i64 (max a b)]) ∧ Below w.heap.size w w' := by
  by_cases h : a ≤ b
  · have h1 : min a b = a := by omega
    have h2 : max a b = b := by omega
    rw [h1, h2]
    go_enter Tryz.func86, Tryz.ntmps86
    go_wp2
    refine bodyPost_ret (v := .agg #[.int .i64 a, .int .i64 b]) (by simp only [results, show Tryz.f86.results = #[.cell 4 123] from rfl]; go_simp) rfl ⟨rfl, ?_⟩
    exact (Below.refl _ _).alloc (Nat.le_refl _) _
  · have h1 : min a b = b := by omega
    have h2 : max a b = a := by omega
    rw [h1, h2]
    go_enter Tryz.func86, Tryz.ntmps86
    go_wp2
    refine bodyPost_ret (v := .agg #[.int .i64 b, .int .i64 a]) (by simp only [results, show Tryz.f86.results = #[.cell 4 123] from rfl]; go_simp) rfl ⟨rfl, ?_⟩
    exact (Below.refl _ _).alloc (Nat.le_refl _) _
section
variable {w : World} {base g : Nat} {l : List Pk} {c : List Ct} {v1 v2 : Value}
theorem nlen_any (h : NetAt w base g l c v1 v2) : Calls Tryz.prog 22 #[.pointer (some ⟨g, 0, none⟩)] w fun e w' => e = .returned (.int .i64 (l.length : Nat)) ∧ w' = w := by
  obtain ⟨⟨A, n, rfl, _⟩, _⟩ := h.form
  have c0 : w.cell? ⟨g, 0, none⟩ = some (.slice A l.length n) := h.blk.cell 0
  clear h
  go_enter Tryz.func22, Tryz.ntmps22
  go_wp2
  go_ret
  exact ⟨rfl, rfl⟩
theorem nhas_any (k : Int) (h : NetAt w base g l c v1 v2) : Calls Tryz.prog 127 #[.pointer (some ⟨g, 0, none⟩), .int .i64 k] w fun e w' => e = .returned (.bool (decide (0 ≤ k) && decide (k < (l.length : Int)))) ∧ w' = w := by
  obtain ⟨⟨A, n, rfl, _⟩, _⟩ := h.form
  obtain ⟨m, hm⟩ : ∃ m, l.length = m := ⟨_, rfl⟩
  have c0 : w.cell? ⟨g, 0, none⟩ = some (.slice A m n) := by rw [← hm]; exact h.blk.cell 0
  rw [hm]
  clear h hm
  go_enter Tryz.func127, Tryz.ntmps127
  by_cases h1 : 0 ≤ k
  · have d1 : decide (0 ≤ k) = true := decide_eq_true h1
    go_wp2
    go_ret
    exact ⟨by simp [h1], rfl⟩
  · have d1 : decide (0 ≤ k) = false := decide_eq_false h1
    go_wp2
    go_ret
    exact ⟨by simp, rfl⟩
/-- A packet as a value. -/
def pkV (x : Pk) : Value := .agg #[.int .i64 x.src, .int .i64 x.dst, .string x.data]
def noPk : Pk := ⟨0, 0, ⟨#[]⟩⟩
def isAt (l : List Pk) (k : Int) : Bool := decide (0 ≤ k) && decide (k < (l.length : Int))
/-- The packet at a place, or none. -/
def peekK (l : List Pk) (k : Int) : Pk := if isAt l k then l.getD k.toNat noPk else noPk
theorem npeek_any (k : Int) (h : NetAt w base g l c v1 v2) : Calls Tryz.prog 88 #[.pointer (some ⟨g, 0, none⟩), .int .i64 k] w fun e w' => e = .returned (.tuple #[pkV (peekK l k), .bool (isAt l k)]) ∧ Below w.heap.size w w' := by
  have ba : Below w.heap.size w (w.alloc (.cells #[.int .i64 0, .int .i64 0, .string ByteArray.empty] 65)) := (Below.refl _ _).alloc (Nat.le_refl _) _
  have HH := Lib.hid (nhas_any k (h.below ba))
  obtain ⟨⟨A, n, rfl, _⟩, _⟩ := h.form
  by_cases hk : isAt l k = true
  · have hh := HH.out
    rw [show (decide (0 ≤ k) && decide (k < (l.length : Int))) = true from hk] at hh
    have HX := Lib.hid hh
    have h2 := hk
    unfold isAt at h2
    simp only [Bool.and_eq_true, decide_eq_true_eq] at h2
    obtain ⟨i, rfl⟩ : ∃ i : Nat, k = (i : Int) := ⟨k.toNat, by omega⟩
    have hr : Rd w A (flatK l) := Rd.of_own h.o1
    obtain ⟨b, o, x, rfl, hb, hx, d0, d1, d2⟩ := hr.pk (k := i) (by omega)
    have hp : Hid (peekK l (i : Int) = x) := by unfold Hid peekK; rw [if_pos hk, Int.toNat_natCast, List.getD_eq_getElem?_getD, hx]; rfl
    have c0 : w.cell? ⟨g, 0, none⟩ = some (.slice (some ⟨b, o, none⟩) l.length n) := h.blk.cell 0
    have hlt : (i : Int) < (l.length : Int) := by omega
    have hgl := h.blk.lt
    rw [hk, hp.out]
    clear h hr hk h2 hh HH hx hp
    go_enter Tryz.func88, Tryz.ntmps88
    go_wp2_with (go_at_call 127; refine HX.out.mono ?_; rintro e w2 ⟨rfl, hw⟩; subst hw)
    refine bodyPost_ret (v := .tuple #[pkV x, .bool true]) (by rw [results_cell_tmp rfl]; go_simp <;> rfl) rfl ⟨rfl, ?_⟩
    exact (Below.refl _ _).alloc (Nat.le_refl _) _
  · have hk' : isAt l k = false := by simpa using hk
    have hh := HH.out
    rw [show (decide (0 ≤ k) && decide (k < (l.length : Int))) = false from hk'] at hh
    have HX := Lib.hid hh
    have hp : Hid (peekK l k = noPk) := by unfold Hid peekK; rw [if_neg hk]
    rw [hk', hp.out]
    clear h hk hk' hh HH hp
    go_enter Tryz.func88, Tryz.ntmps88
    go_wp2_with (go_at_call 127; refine HX.out.mono ?_; rintro e w2 ⟨rfl, hw⟩; subst hw)
    refine bodyPost_ret (v := .tuple #[pkV noPk, .bool false]) (by rw [results_cell_tmp rfl]; go_simp <;> rfl) rfl ⟨rfl, ?_⟩
    exact (Below.refl _ _).alloc (Nat.le_refl _) _
end
end Go.Proofs.YtgigkekajdgngaaGreat
