/-
  Ballots: what See, Grant, Stand, Would and Patience give. Conditions: those of the log that is asked.
-/
import Derived.Test.YtmnndekpedacmaaHist
namespace Go.Proofs.Ytmnndekpedacmaa
open Go Go.RowKit
attribute [local go_sem] cell_set_if

abbrev bal (t f : Int) : Value := .agg #[.int .i64 t, .int .i64 f]

theorem see_yes (t f u : Int) (w : World) (h : t < u) :
    Calls Try.prog 18 #[bal t f, .int .i64 u] w fun e w' => e = .returned (bal u (-1)) ∧ Below w.heap.size w w' := by
  go_enter Try.func18, Try.ntmps18
  go_wp2
  exact bodyPost_ret (v := bal u (-1)) (by simp [results, Try.results18, go_sem]) rfl ⟨rfl, ((Below.refl _ _).alloc (Nat.le_refl _) _).alloc (by simp) _⟩
theorem see_no (t f u : Int) (w : World) (h : u ≤ t) :
    Calls Try.prog 18 #[bal t f, .int .i64 u] w fun e w' => e = .returned (bal t f) ∧ Below w.heap.size w w' := by
  go_enter Try.func18, Try.ntmps18
  go_wp2
  exact bodyPost_ret (v := bal t f) (by simp [results, Try.results18, go_sem]) rfl ⟨rfl, ((Below.refl _ _).alloc (Nat.le_refl _) _).alloc (by simp) _⟩
/-- What is seen. -/
def seeS (t f u : Int) : Int × Int := if t < u then (u, -1) else (t, f)
theorem see_any (t f u : Int) (w : World) :
    Calls Try.prog 18 #[bal t f, .int .i64 u] w fun e w' => e = .returned (bal (seeS t f u).1 (seeS t f u).2) ∧ Below w.heap.size w w' := by
  unfold seeS
  by_cases h : t < u
  · rw [if_pos h]; exact see_yes t f u w h
  · rw [if_neg h]; exact see_no t f u w (by omega)

/-- What is granted. -/
def grantS (t f u who : Int) (nw : Bool) : (Int × Int) × Bool :=
  let p := seeS t f u
  if u ≠ p.1 ∨ (p.2 ≠ -1 ∧ p.2 ≠ who) ∨ nw = false then (p, false) else ((p.1, who), true)

/-- What a log answers, whatever is made beside it. -/
def Asked (w : World) (l : Value) (i t : Int) (nw : Bool) : Prop :=
  ∀ W, Below w.heap.size w W → Calls Try.prog 35 #[l, .int .i64 i, .int .i64 t] W fun e W' => e = .returned (.bool nw) ∧ Qt W W'
theorem LogT.asked {w : World} {base g : Nat} {idx trm : Int} {es : List Ent} {v : Value} (h : LogAt w base g idx trm es v) (i t : Int) : Asked w (.pointer (some ⟨g, 0, none⟩)) i t (newerB idx trm es i t) :=
  fun W hb => newer_any W base g idx trm es v i t (h.below hb)
theorem Asked.below {w w' : World} {l : Value} {i t : Int} {nw : Bool} (h : Asked w l i t nw) (hb : Below w.heap.size w w') : Asked w' l i t nw := fun W hW => h W (below_of hW hb hb.size)

set_option maxHeartbeats 1000000 in
theorem grant_low (t f u who i lt : Int) (l : Value) (w : World) (h : u < t) :
    Calls Try.prog 16 #[bal t f, .int .i64 u, .int .i64 who, .int .i64 i, .int .i64 lt, l] w fun e w' => e = .returned (.tuple #[bal t f, .bool false]) ∧ Below w.heap.size w w' := by
  have h1 : (u != t) = true := by simp; omega
  have h2 : u ≤ t := by omega
  go_enter Try.func16, Try.ntmps16
  go_wp2_with ((go_at_call 18; refine (see_no _ _ _ _ h2).mono ?_; rintro e w1 ⟨rfl, hb⟩; obtain ⟨hc, hf⟩ := below_cells hb; have bl := below_of hb (((Below.refl _ w).alloc (Nat.le_refl _) _).alloc (by simp) _) (by simp only [World.size_alloc]; omega)))
  exact bodyPost_ret (v := .tuple #[bal t f, .bool false]) (by simp [results, Try.results16, go_sem, cell_set_if, hc]) rfl ⟨rfl, by repeat (first | exact bl | exact below_drewN bl _ | refine Below.setCell ?_ (by simp) _ | refine below_drewN ?_ _)⟩
set_option maxHeartbeats 1000000 in
theorem grant_other (f u who i lt : Int) (l : Value) (w : World) (h3 : (f != -1) = true) (h4 : (f != who) = true) :
    Calls Try.prog 16 #[bal u f, .int .i64 u, .int .i64 who, .int .i64 i, .int .i64 lt, l] w fun e w' => e = .returned (.tuple #[bal u f, .bool false]) ∧ Below w.heap.size w w' := by
  have h1 : (u != u) = false := by simp
  go_enter Try.func16, Try.ntmps16
  go_wp2_with ((go_at_call 18; refine (see_no _ _ _ _ (Int.le_refl _)).mono ?_; rintro e w1 ⟨rfl, hb⟩; obtain ⟨hc, hf⟩ := below_cells hb; have bl := below_of hb (((Below.refl _ w).alloc (Nat.le_refl _) _).alloc (by simp) _) (by simp only [World.size_alloc]; omega)))
  exact bodyPost_ret (v := .tuple #[bal u f, .bool false]) (by simp [results, Try.results16, go_sem, cell_set_if, hc]) rfl ⟨rfl, by repeat (first | exact bl | exact below_drewN bl _ | refine Below.setCell ?_ (by simp) _ | refine below_drewN ?_ _)⟩
set_option maxHeartbeats 1000000 in
theorem grant_none_false (u who i lt : Int) (l : Value) (w : World) (ha : Asked w l i lt false) :
    Calls Try.prog 16 #[bal u (-1), .int .i64 u, .int .i64 who, .int .i64 i, .int .i64 lt, l] w fun e w' => e = .returned (.tuple #[bal u (-1), .bool false]) ∧ Below w.heap.size w w' := by
  have h1 : (u != u) = false := by simp
  go_enter Try.func16, Try.ntmps16
  go_wp2_with (first
    | (go_at_call 18; refine (see_no _ _ _ _ (Int.le_refl _)).mono ?_; rintro e w1 ⟨rfl, hb⟩; obtain ⟨hc, hf⟩ := below_cells hb; have bl := below_of hb (((Below.refl _ w).alloc (Nat.le_refl _) _).alloc (by simp) _) (by simp only [World.size_alloc]; omega))
    | (go_at_call 35; refine (ha _ (by repeat (first | exact bl | refine Below.setCell ?_ (by simp) _))).mono ?_; rintro e w2 ⟨rfl, hq⟩; have hb2 := hq.below w2.heap.size; obtain ⟨n, rfl⟩ := hq))
  exact bodyPost_ret (v := .tuple #[bal u (-1), .bool false]) (by simp [results, Try.results16, go_sem, cell_set_if, hc]) rfl ⟨rfl, by repeat (first | exact bl | exact below_drewN bl _ | refine Below.setCell ?_ (by simp) _ | refine below_drewN ?_ _)⟩
set_option maxHeartbeats 1000000 in
theorem grant_same_false (u who i lt : Int) (l : Value) (w : World) (h3 : (who != -1) = true) (ha : Asked w l i lt false) :
    Calls Try.prog 16 #[bal u who, .int .i64 u, .int .i64 who, .int .i64 i, .int .i64 lt, l] w fun e w' => e = .returned (.tuple #[bal u who, .bool false]) ∧ Below w.heap.size w w' := by
  have h1 : (u != u) = false := by simp
  have h4 : (who != who) = false := by simp
  go_enter Try.func16, Try.ntmps16
  go_wp2_with (first
    | (go_at_call 18; refine (see_no _ _ _ _ (Int.le_refl _)).mono ?_; rintro e w1 ⟨rfl, hb⟩; obtain ⟨hc, hf⟩ := below_cells hb; have bl := below_of hb (((Below.refl _ w).alloc (Nat.le_refl _) _).alloc (by simp) _) (by simp only [World.size_alloc]; omega))
    | (go_at_call 35; refine (ha _ (by repeat (first | exact bl | refine Below.setCell ?_ (by simp) _))).mono ?_; rintro e w2 ⟨rfl, hq⟩; have hb2 := hq.below w2.heap.size; obtain ⟨n, rfl⟩ := hq))
  exact bodyPost_ret (v := .tuple #[bal u who, .bool false]) (by simp [results, Try.results16, go_sem, cell_set_if, hc]) rfl ⟨rfl, by repeat (first | exact bl | exact below_drewN bl _ | refine Below.setCell ?_ (by simp) _ | refine below_drewN ?_ _)⟩
set_option maxHeartbeats 1000000 in
theorem grant_new_false (t f u who i lt : Int) (l : Value) (w : World) (h : t < u) (ha : Asked w l i lt false) :
    Calls Try.prog 16 #[bal t f, .int .i64 u, .int .i64 who, .int .i64 i, .int .i64 lt, l] w fun e w' => e = .returned (.tuple #[bal u (-1), .bool false]) ∧ Below w.heap.size w w' := by
  have h1 : (u != u) = false := by simp
  go_enter Try.func16, Try.ntmps16
  go_wp2_with (first
    | (go_at_call 18; refine (see_yes _ _ _ _ h).mono ?_; rintro e w1 ⟨rfl, hb⟩; obtain ⟨hc, hf⟩ := below_cells hb; have bl := below_of hb (((Below.refl _ w).alloc (Nat.le_refl _) _).alloc (by simp) _) (by simp only [World.size_alloc]; omega))
    | (go_at_call 35; refine (ha _ (by repeat (first | exact bl | refine Below.setCell ?_ (by simp) _))).mono ?_; rintro e w2 ⟨rfl, hq⟩; have hb2 := hq.below w2.heap.size; obtain ⟨n, rfl⟩ := hq))
  exact bodyPost_ret (v := .tuple #[bal u (-1), .bool false]) (by simp [results, Try.results16, go_sem, cell_set_if, hc]) rfl ⟨rfl, by repeat (first | exact bl | exact below_drewN bl _ | refine Below.setCell ?_ (by simp) _ | refine below_drewN ?_ _)⟩
set_option maxHeartbeats 1000000 in
theorem grant_none_true (u who i lt : Int) (l : Value) (w : World) (ha : Asked w l i lt true) :
    Calls Try.prog 16 #[bal u (-1), .int .i64 u, .int .i64 who, .int .i64 i, .int .i64 lt, l] w fun e w' => e = .returned (.tuple #[bal u who, .bool true]) ∧ Below w.heap.size w w' := by
  have h1 : (u != u) = false := by simp
  go_enter Try.func16, Try.ntmps16
  go_wp2_with (first
    | (go_at_call 18; refine (see_no _ _ _ _ (Int.le_refl _)).mono ?_; rintro e w1 ⟨rfl, hb⟩; obtain ⟨hc, hf⟩ := below_cells hb; have bl := below_of hb (((Below.refl _ w).alloc (Nat.le_refl _) _).alloc (by simp) _) (by simp only [World.size_alloc]; omega))
    | (go_at_call 35; refine (ha _ (by repeat (first | exact bl | refine Below.setCell ?_ (by simp) _))).mono ?_; rintro e w2 ⟨rfl, hq⟩; have hb2 := hq.below w2.heap.size; obtain ⟨n, rfl⟩ := hq))
  exact bodyPost_ret (v := .tuple #[bal u who, .bool true]) (by simp [results, Try.results16, go_sem, cell_set_if, hc]) rfl ⟨rfl, by repeat (first | exact bl | exact below_drewN bl _ | refine Below.setCell ?_ (by simp) _ | refine below_drewN ?_ _)⟩
set_option maxHeartbeats 1000000 in
theorem grant_same_true (u who i lt : Int) (l : Value) (w : World) (h3 : (who != -1) = true) (ha : Asked w l i lt true) :
    Calls Try.prog 16 #[bal u who, .int .i64 u, .int .i64 who, .int .i64 i, .int .i64 lt, l] w fun e w' => e = .returned (.tuple #[bal u who, .bool true]) ∧ Below w.heap.size w w' := by
  have h1 : (u != u) = false := by simp
  have h4 : (who != who) = false := by simp
  go_enter Try.func16, Try.ntmps16
  go_wp2_with (first
    | (go_at_call 18; refine (see_no _ _ _ _ (Int.le_refl _)).mono ?_; rintro e w1 ⟨rfl, hb⟩; obtain ⟨hc, hf⟩ := below_cells hb; have bl := below_of hb (((Below.refl _ w).alloc (Nat.le_refl _) _).alloc (by simp) _) (by simp only [World.size_alloc]; omega))
    | (go_at_call 35; refine (ha _ (by repeat (first | exact bl | refine Below.setCell ?_ (by simp) _))).mono ?_; rintro e w2 ⟨rfl, hq⟩; have hb2 := hq.below w2.heap.size; obtain ⟨n, rfl⟩ := hq))
  exact bodyPost_ret (v := .tuple #[bal u who, .bool true]) (by simp [results, Try.results16, go_sem, cell_set_if, hc]) rfl ⟨rfl, by repeat (first | exact bl | exact below_drewN bl _ | refine Below.setCell ?_ (by simp) _ | refine below_drewN ?_ _)⟩
set_option maxHeartbeats 1000000 in
theorem grant_new_true (t f u who i lt : Int) (l : Value) (w : World) (h : t < u) (ha : Asked w l i lt true) :
    Calls Try.prog 16 #[bal t f, .int .i64 u, .int .i64 who, .int .i64 i, .int .i64 lt, l] w fun e w' => e = .returned (.tuple #[bal u who, .bool true]) ∧ Below w.heap.size w w' := by
  have h1 : (u != u) = false := by simp
  go_enter Try.func16, Try.ntmps16
  go_wp2_with (first
    | (go_at_call 18; refine (see_yes _ _ _ _ h).mono ?_; rintro e w1 ⟨rfl, hb⟩; obtain ⟨hc, hf⟩ := below_cells hb; have bl := below_of hb (((Below.refl _ w).alloc (Nat.le_refl _) _).alloc (by simp) _) (by simp only [World.size_alloc]; omega))
    | (go_at_call 35; refine (ha _ (by repeat (first | exact bl | refine Below.setCell ?_ (by simp) _))).mono ?_; rintro e w2 ⟨rfl, hq⟩; have hb2 := hq.below w2.heap.size; obtain ⟨n, rfl⟩ := hq))
  exact bodyPost_ret (v := .tuple #[bal u who, .bool true]) (by simp [results, Try.results16, go_sem, cell_set_if, hc]) rfl ⟨rfl, by repeat (first | exact bl | exact below_drewN bl _ | refine Below.setCell ?_ (by simp) _ | refine below_drewN ?_ _)⟩

theorem grant_any (t f u who i lt : Int) (l : Value) (nw : Bool) (w : World) (ha : Asked w l i lt nw) :
    Calls Try.prog 16 #[bal t f, .int .i64 u, .int .i64 who, .int .i64 i, .int .i64 lt, l] w fun e w' =>
      e = .returned (.tuple #[bal (grantS t f u who nw).1.1 (grantS t f u who nw).1.2, .bool (grantS t f u who nw).2]) ∧ Below w.heap.size w w' := by
  unfold grantS seeS
  rcases Int.lt_trichotomy u t with h | h | h
  · have h' : ¬ t < u := by omega
    simp [h', show ¬ u = t by omega]; exact grant_low t f u who i lt l w h
  · subst h
    have h' : ¬ u < u := by omega
    by_cases hf : f = -1
    · subst hf
      cases nw
      · simpa using grant_none_false u who i lt l w ha
      · simpa using grant_none_true u who i lt l w ha
    · have h3 : (f != -1) = true := by simpa using hf
      by_cases hw : f = who
      · subst hw
        cases nw
        · simpa [hf] using grant_same_false u f i lt l w h3 ha
        · simpa [hf] using grant_same_true u f i lt l w h3 ha
      · simpa [hf, hw] using grant_other f u who i lt l w h3 (by simpa using hw)
  · cases nw
    · simpa [h] using grant_new_false t f u who i lt l w h ha
    · simpa [h] using grant_new_true t f u who i lt l w h ha
end Go.Proofs.Ytmnndekpedacmaa
