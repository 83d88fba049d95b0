/-
  The document's ballots: what See, Grant and Would give; what the document's Newer gives. Conditions: those of the log that is asked.
-/
import Derived.Test.YtmnndekpedacmaaRaftWould
import Derived.Test.YtmnndekpedacmaaHistRef
namespace Go.Proofs.Ytmnndekpedacmaa
open Go Go.RowKit
attribute [local go_sem] cell_set_if

set_option maxHeartbeats 1000000 in
theorem ref_newer_any (w : World) (base g : Nat) (idx trm : Int) (es : List Ent) (v : Value) (i t : Int) (h : RefAt w base g idx trm es v) :
    Calls Try.prog 38 #[.pointer (some ⟨g, 0, none⟩), .int .i64 i, .int .i64 t] w fun e' w' => e' = .returned (.bool (newerB idx trm es i t)) ∧ Qt w w' := by
  have H := Lib.hid h
  clear h
  obtain ⟨r, hr⟩ : ∃ r, r = newerB idx trm es i t := ⟨_, rfl⟩
  rw [← hr]
  unfold newerB at hr
  obtain ⟨l, hl⟩ : ∃ l, l = lastT trm es := ⟨_, rfl⟩
  rw [← hl] at hr
  have hlt : ∀ w, RefAt w base g idx trm es v → Calls Try.prog 13 #[.pointer (some ⟨g, 0, none⟩)] w fun e' w' => e' = .returned (.int .i64 l) ∧ Qt w w' := by
    rw [hl]; exact fun w h => ref_lastterm_any w base g idx trm es v h
  have HL := Lib.hid hlt
  clear hl hlt
  by_cases h1 : l < t
  · have HR : Hid (r = true) := by unfold Hid; rw [hr]; simp [h1]
    clear hr
    go_enter Try.func38, Try.ntmps38
    go_wp2_with (go_at_call 13; refine (HL.out _ H.out).mono ?_; rintro e w1 ⟨rfl, q1⟩)
    go_ret
    exact ⟨ret_bool HR.out.symm, q1⟩
  · by_cases h2 : t = l
    · have h2' : (t == l) = true := by simpa using h2
      have HR : Hid (r = decide (idx + es.length ≤ i)) := by unfold Hid; rw [hr]; simp [h1, h2]
      clear hr h2
      go_enter Try.func38, Try.ntmps38
      go_wp2_with fail
      refine (HL.out _ H.out).mono ?_; rintro e w1 ⟨rfl, q1⟩
      go_wp2_with fail
      refine (HL.out _ (H.out.qt q1)).mono ?_; rintro e w2 ⟨rfl, q2⟩
      go_wp2_with fail
      refine (ref_last_any _ _ _ _ _ _ _ ((H.out.qt q1).qt q2)).mono ?_; rintro e w3 ⟨rfl, q3⟩
      go_wp2_with fail
      go_ret
      exact ⟨ret_bool (by rw [HR.out, show decide (l < t) = false by simp; omega]; rfl), (q1.trans q2).trans q3⟩
    · have h2' : (t == l) = false := by simpa using h2
      have HR : Hid (r = false) := by unfold Hid; rw [hr]; simp [h1, h2]
      clear hr h2
      go_enter Try.func38, Try.ntmps38
      go_wp2_with fail
      refine (HL.out _ H.out).mono ?_; rintro e w1 ⟨rfl, q1⟩
      go_wp2_with fail
      refine (HL.out _ (H.out.qt q1)).mono ?_; rintro e w2 ⟨rfl, q2⟩
      go_wp2_with fail
      go_ret
      exact ⟨ret_bool (by rw [HR.out]; simp; omega), q1.trans q2⟩
theorem rsee_yes (t f u : Int) (w : World) (h : t < u) :
    Calls Try.prog 19 #[bal t f, .int .i64 u] w fun e w' => e = .returned (bal u (-1)) ∧ Below w.heap.size w w' := by
  go_enter Try.func19, Try.ntmps19
  go_wp2
  exact bodyPost_ret (v := bal u (-1)) (by simp [results, Try.results19, go_sem]) rfl ⟨rfl, ((Below.refl _ _).alloc (Nat.le_refl _) _).alloc (by simp) _⟩
theorem rsee_no (t f u : Int) (w : World) (h : u ≤ t) :
    Calls Try.prog 19 #[bal t f, .int .i64 u] w fun e w' => e = .returned (bal t f) ∧ Below w.heap.size w w' := by
  go_enter Try.func19, Try.ntmps19
  go_wp2
  exact bodyPost_ret (v := bal t f) (by simp [results, Try.results19, go_sem]) rfl ⟨rfl, ((Below.refl _ _).alloc (Nat.le_refl _) _).alloc (by simp) _⟩
theorem rsee_any (t f u : Int) (w : World) :
    Calls Try.prog 19 #[bal t f, .int .i64 u] w fun e w' => e = .returned (bal (seeS t f u).1 (seeS t f u).2) ∧ Below w.heap.size w w' := by
  unfold seeS
  by_cases h : t < u
  · rw [if_pos h]; exact rsee_yes t f u w h
  · rw [if_neg h]; exact rsee_no t f u w (by omega)

/-- What the document's log answers, whatever is made beside it. -/
def RAsked (w : World) (l : Value) (i t : Int) (nw : Bool) : Prop :=
  ∀ W, Below w.heap.size w W → Calls Try.prog 38 #[l, .int .i64 i, .int .i64 t] W fun e W' => e = .returned (.bool nw) ∧ Qt W W'
theorem LogT.rasked {w : World} {base g : Nat} {idx trm : Int} {es : List Ent} {v : Value} (h : RefAt w base g idx trm es v) (i t : Int) : RAsked w (.pointer (some ⟨g, 0, none⟩)) i t (newerB idx trm es i t) :=
  fun W hb => ref_newer_any W base g idx trm es v i t (h.below hb)
theorem RAsked.below {w w' : World} {l : Value} {i t : Int} {nw : Bool} (h : RAsked w l i t nw) (hb : Below w.heap.size w w') : RAsked w' l i t nw := fun W hW => h W (below_of hW hb hb.size)
set_option maxHeartbeats 1000000 in
theorem rgrant_low (t f u who i lt : Int) (l : Value) (w : World) (h : u < t) :
    Calls Try.prog 17 #[bal t f, .int .i64 u, .int .i64 who, .int .i64 i, .int .i64 lt, l] w fun e w' => e = .returned (.tuple #[bal t f, .bool false]) ∧ Below w.heap.size w w' := by
  have h1 : (u != t) = true := by simp; omega
  have h2 : u ≤ t := by omega
  go_enter Try.func17, Try.ntmps17
  go_wp2_with ((go_at_call 19; refine (rsee_no _ _ _ _ h2).mono ?_; rintro e w1 ⟨rfl, hb⟩; obtain ⟨hc, hf⟩ := below_cells hb; have bl := below_of hb (((Below.refl _ w).alloc (Nat.le_refl _) _).alloc (by simp) _) (by simp only [World.size_alloc]; omega)))
  exact bodyPost_ret (v := .tuple #[bal t f, .bool false]) (by simp [results, Try.results17, go_sem, cell_set_if, hc]) rfl ⟨rfl, by repeat (first | exact bl | exact below_drewN bl _ | refine Below.setCell ?_ (by simp) _ | refine below_drewN ?_ _)⟩
set_option maxHeartbeats 1000000 in
theorem rgrant_other (f u who i lt : Int) (l : Value) (w : World) (h3 : (f != -1) = true) (h4 : (f != who) = true) :
    Calls Try.prog 17 #[bal u f, .int .i64 u, .int .i64 who, .int .i64 i, .int .i64 lt, l] w fun e w' => e = .returned (.tuple #[bal u f, .bool false]) ∧ Below w.heap.size w w' := by
  have h1 : (u != u) = false := by simp
  go_enter Try.func17, Try.ntmps17
  go_wp2_with ((go_at_call 19; refine (rsee_no _ _ _ _ (Int.le_refl _)).mono ?_; rintro e w1 ⟨rfl, hb⟩; obtain ⟨hc, hf⟩ := below_cells hb; have bl := below_of hb (((Below.refl _ w).alloc (Nat.le_refl _) _).alloc (by simp) _) (by simp only [World.size_alloc]; omega)))
  exact bodyPost_ret (v := .tuple #[bal u f, .bool false]) (by simp [results, Try.results17, go_sem, cell_set_if, hc]) rfl ⟨rfl, by repeat (first | exact bl | exact below_drewN bl _ | refine Below.setCell ?_ (by simp) _ | refine below_drewN ?_ _)⟩
set_option maxHeartbeats 1000000 in
theorem rgrant_none_false (u who i lt : Int) (l : Value) (w : World) (ha : RAsked w l i lt false) :
    Calls Try.prog 17 #[bal u (-1), .int .i64 u, .int .i64 who, .int .i64 i, .int .i64 lt, l] w fun e w' => e = .returned (.tuple #[bal u (-1), .bool false]) ∧ Below w.heap.size w w' := by
  have h1 : (u != u) = false := by simp
  go_enter Try.func17, Try.ntmps17
  go_wp2_with (first
    | (go_at_call 19; refine (rsee_no _ _ _ _ (Int.le_refl _)).mono ?_; rintro e w1 ⟨rfl, hb⟩; obtain ⟨hc, hf⟩ := below_cells hb; have bl := below_of hb (((Below.refl _ w).alloc (Nat.le_refl _) _).alloc (by simp) _) (by simp only [World.size_alloc]; omega))
    | (go_at_call 38; refine (ha _ (by repeat (first | exact bl | refine Below.setCell ?_ (by simp) _))).mono ?_; rintro e w2 ⟨rfl, hq⟩; have hb2 := hq.below w2.heap.size; obtain ⟨n, rfl⟩ := hq))
  exact bodyPost_ret (v := .tuple #[bal u (-1), .bool false]) (by simp [results, Try.results17, go_sem, cell_set_if, hc]) rfl ⟨rfl, by repeat (first | exact bl | exact below_drewN bl _ | refine Below.setCell ?_ (by simp) _ | refine below_drewN ?_ _)⟩
set_option maxHeartbeats 1000000 in
theorem rgrant_same_false (u who i lt : Int) (l : Value) (w : World) (h3 : (who != -1) = true) (ha : RAsked w l i lt false) :
    Calls Try.prog 17 #[bal u who, .int .i64 u, .int .i64 who, .int .i64 i, .int .i64 lt, l] w fun e w' => e = .returned (.tuple #[bal u who, .bool false]) ∧ Below w.heap.size w w' := by
  have h1 : (u != u) = false := by simp
  have h4 : (who != who) = false := by simp
  go_enter Try.func17, Try.ntmps17
  go_wp2_with (first
    | (go_at_call 19; refine (rsee_no _ _ _ _ (Int.le_refl _)).mono ?_; rintro e w1 ⟨rfl, hb⟩; obtain ⟨hc, hf⟩ := below_cells hb; have bl := below_of hb (((Below.refl _ w).alloc (Nat.le_refl _) _).alloc (by simp) _) (by simp only [World.size_alloc]; omega))
    | (go_at_call 38; refine (ha _ (by repeat (first | exact bl | refine Below.setCell ?_ (by simp) _))).mono ?_; rintro e w2 ⟨rfl, hq⟩; have hb2 := hq.below w2.heap.size; obtain ⟨n, rfl⟩ := hq))
  exact bodyPost_ret (v := .tuple #[bal u who, .bool false]) (by simp [results, Try.results17, go_sem, cell_set_if, hc]) rfl ⟨rfl, by repeat (first | exact bl | exact below_drewN bl _ | refine Below.setCell ?_ (by simp) _ | refine below_drewN ?_ _)⟩
set_option maxHeartbeats 1000000 in
theorem rgrant_new_false (t f u who i lt : Int) (l : Value) (w : World) (h : t < u) (ha : RAsked w l i lt false) :
    Calls Try.prog 17 #[bal t f, .int .i64 u, .int .i64 who, .int .i64 i, .int .i64 lt, l] w fun e w' => e = .returned (.tuple #[bal u (-1), .bool false]) ∧ Below w.heap.size w w' := by
  have h1 : (u != u) = false := by simp
  go_enter Try.func17, Try.ntmps17
  go_wp2_with (first
    | (go_at_call 19; refine (rsee_yes _ _ _ _ h).mono ?_; rintro e w1 ⟨rfl, hb⟩; obtain ⟨hc, hf⟩ := below_cells hb; have bl := below_of hb (((Below.refl _ w).alloc (Nat.le_refl _) _).alloc (by simp) _) (by simp only [World.size_alloc]; omega))
    | (go_at_call 38; refine (ha _ (by repeat (first | exact bl | refine Below.setCell ?_ (by simp) _))).mono ?_; rintro e w2 ⟨rfl, hq⟩; have hb2 := hq.below w2.heap.size; obtain ⟨n, rfl⟩ := hq))
  exact bodyPost_ret (v := .tuple #[bal u (-1), .bool false]) (by simp [results, Try.results17, go_sem, cell_set_if, hc]) rfl ⟨rfl, by repeat (first | exact bl | exact below_drewN bl _ | refine Below.setCell ?_ (by simp) _ | refine below_drewN ?_ _)⟩
set_option maxHeartbeats 1000000 in
theorem rgrant_none_true (u who i lt : Int) (l : Value) (w : World) (ha : RAsked w l i lt true) :
    Calls Try.prog 17 #[bal u (-1), .int .i64 u, .int .i64 who, .int .i64 i, .int .i64 lt, l] w fun e w' => e = .returned (.tuple #[bal u who, .bool true]) ∧ Below w.heap.size w w' := by
  have h1 : (u != u) = false := by simp
  go_enter Try.func17, Try.ntmps17
  go_wp2_with (first
    | (go_at_call 19; refine (rsee_no _ _ _ _ (Int.le_refl _)).mono ?_; rintro e w1 ⟨rfl, hb⟩; obtain ⟨hc, hf⟩ := below_cells hb; have bl := below_of hb (((Below.refl _ w).alloc (Nat.le_refl _) _).alloc (by simp) _) (by simp only [World.size_alloc]; omega))
    | (go_at_call 38; refine (ha _ (by repeat (first | exact bl | refine Below.setCell ?_ (by simp) _))).mono ?_; rintro e w2 ⟨rfl, hq⟩; have hb2 := hq.below w2.heap.size; obtain ⟨n, rfl⟩ := hq))
  exact bodyPost_ret (v := .tuple #[bal u who, .bool true]) (by simp [results, Try.results17, go_sem, cell_set_if, hc]) rfl ⟨rfl, by repeat (first | exact bl | exact below_drewN bl _ | refine Below.setCell ?_ (by simp) _ | refine below_drewN ?_ _)⟩
set_option maxHeartbeats 1000000 in
theorem rgrant_same_true (u who i lt : Int) (l : Value) (w : World) (h3 : (who != -1) = true) (ha : RAsked w l i lt true) :
    Calls Try.prog 17 #[bal u who, .int .i64 u, .int .i64 who, .int .i64 i, .int .i64 lt, l] w fun e w' => e = .returned (.tuple #[bal u who, .bool true]) ∧ Below w.heap.size w w' := by
  have h1 : (u != u) = false := by simp
  have h4 : (who != who) = false := by simp
  go_enter Try.func17, Try.ntmps17
  go_wp2_with (first
    | (go_at_call 19; refine (rsee_no _ _ _ _ (Int.le_refl _)).mono ?_; rintro e w1 ⟨rfl, hb⟩; obtain ⟨hc, hf⟩ := below_cells hb; have bl := below_of hb (((Below.refl _ w).alloc (Nat.le_refl _) _).alloc (by simp) _) (by simp only [World.size_alloc]; omega))
    | (go_at_call 38; refine (ha _ (by repeat (first | exact bl | refine Below.setCell ?_ (by simp) _))).mono ?_; rintro e w2 ⟨rfl, hq⟩; have hb2 := hq.below w2.heap.size; obtain ⟨n, rfl⟩ := hq))
  exact bodyPost_ret (v := .tuple #[bal u who, .bool true]) (by simp [results, Try.results17, go_sem, cell_set_if, hc]) rfl ⟨rfl, by repeat (first | exact bl | exact below_drewN bl _ | refine Below.setCell ?_ (by simp) _ | refine below_drewN ?_ _)⟩
set_option maxHeartbeats 1000000 in
theorem rgrant_new_true (t f u who i lt : Int) (l : Value) (w : World) (h : t < u) (ha : RAsked w l i lt true) :
    Calls Try.prog 17 #[bal t f, .int .i64 u, .int .i64 who, .int .i64 i, .int .i64 lt, l] w fun e w' => e = .returned (.tuple #[bal u who, .bool true]) ∧ Below w.heap.size w w' := by
  have h1 : (u != u) = false := by simp
  go_enter Try.func17, Try.ntmps17
  go_wp2_with (first
    | (go_at_call 19; refine (rsee_yes _ _ _ _ h).mono ?_; rintro e w1 ⟨rfl, hb⟩; obtain ⟨hc, hf⟩ := below_cells hb; have bl := below_of hb (((Below.refl _ w).alloc (Nat.le_refl _) _).alloc (by simp) _) (by simp only [World.size_alloc]; omega))
    | (go_at_call 38; refine (ha _ (by repeat (first | exact bl | refine Below.setCell ?_ (by simp) _))).mono ?_; rintro e w2 ⟨rfl, hq⟩; have hb2 := hq.below w2.heap.size; obtain ⟨n, rfl⟩ := hq))
  exact bodyPost_ret (v := .tuple #[bal u who, .bool true]) (by simp [results, Try.results17, go_sem, cell_set_if, hc]) rfl ⟨rfl, by repeat (first | exact bl | exact below_drewN bl _ | refine Below.setCell ?_ (by simp) _ | refine below_drewN ?_ _)⟩

theorem rgrant_any (t f u who i lt : Int) (l : Value) (nw : Bool) (w : World) (ha : RAsked w l i lt nw) :
    Calls Try.prog 17 #[bal t f, .int .i64 u, .int .i64 who, .int .i64 i, .int .i64 lt, l] w fun e w' =>
      e = .returned (.tuple #[bal (grantS t f u who nw).1.1 (grantS t f u who nw).1.2, .bool (grantS t f u who nw).2]) ∧ Below w.heap.size w w' := by
  unfold grantS seeS
  rcases Int.lt_trichotomy u t with h | h | h
  · have h' : ¬ t < u := by omega
    simp [h', show ¬ u = t by omega]; exact rgrant_low t f u who i lt l w h
  · subst h
    have h' : ¬ u < u := by omega
    by_cases hf : f = -1
    · subst hf
      cases nw
      · simpa using rgrant_none_false u who i lt l w ha
      · simpa using rgrant_none_true u who i lt l w ha
    · have h3 : (f != -1) = true := by simpa using hf
      by_cases hw : f = who
      · subst hw
        cases nw
        · simpa [hf] using rgrant_same_false u f i lt l w h3 ha
        · simpa [hf] using rgrant_same_true u f i lt l w h3 ha
      · simpa [hf, hw] using rgrant_other f u who i lt l w h3 (by simpa using hw)
  · cases nw
    · simpa [h] using rgrant_new_false t f u who i lt l w h ha
    · simpa [h] using rgrant_new_true t f u who i lt l w h ha
theorem rwould_any (t f u i lt : Int) (l : Value) (heard nw : Bool) (w : World) (ha : RAsked w l i lt nw) :
    Calls Try.prog 22 #[bal t f, .int .i64 u, .int .i64 i, .int .i64 lt, l, .bool heard] w fun e w' => e = .returned (.bool (decide (t < u) && nw && !heard)) ∧ Below w.heap.size w w' := by
  by_cases h : t < u
  · cases nw
    all_goals
      cases heard
      all_goals
        have hd : decide (t < u) = true := by simpa using h
        rw [hd]
        go_enter Try.func22, Try.ntmps22
        go_wp2_with (go_at_call 38; refine (ha _ ((Below.refl _ _).alloc (Nat.le_refl _) _)).mono ?_; rintro e w1 ⟨rfl, q1⟩)
        go_ret
        exact ⟨rfl, below_new _ (q1.below _ |> fun h => by simpa using h)⟩
  · have hd : decide (t < u) = false := by simpa using h
    rw [hd]
    have h' : u ≤ t := by omega
    go_enter Try.func22, Try.ntmps22
    go_wp2
    go_ret
    exact ⟨rfl, (Below.refl _ _).alloc (Nat.le_refl _) _⟩
end Go.Proofs.Ytmnndekpedacmaa
