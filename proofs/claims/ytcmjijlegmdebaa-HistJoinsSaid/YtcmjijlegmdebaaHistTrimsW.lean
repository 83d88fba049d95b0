/-
  The walk of the law HistTrims. No condition.
-/
import Derived.Test.YtcmjijlegmdebaaHistTrim
import Derived.Test.YtcmjijlegmdebaaHistLogs
import Derived.Test.YtcmjijlegmdebaaHistAlive
namespace Go.Proofs.Ytcmjijlegmdebaa
open Go Go.RowKit
attribute [local go_sem] cell_set_if

theorem backE_le (f : Int → Int) (t : Int) (n : Nat) : backE f 0 t n ≤ n := by
  induction n with
  | zero => simp [backE]
  | succ n ih => unfold backE; split <;> omega
theorem backE_drop (f g : Int → Int) (t : Int) (k : Nat) (hfg : ∀ j : Int, (k : Int) < j → g j = f j) (n : Nat) : backE g k t n = max (backE f 0 t (k + n)) k := by
  induction n with
  | zero =>
    have := backE_le f t k
    simp only [backE, Nat.add_zero]; omega
  | succ n ih =>
    rw [show k + (n + 1) = (k + n) + 1 by omega]
    unfold backE
    rw [ih, hfg _ (by omega), show (0 : Int) + ((k + n : Nat) : Int) + 1 = k + n + 1 by omega]
    split
    · omega
    · rfl
theorem back_drop (es : List Ent) (k : Nat) (hk : k ≤ es.length) (t : Int) (ht : termE 0 0 es k = some t) (a b : Int) : backV k t (es.drop k) a b = max (backV 0 0 es a b) k := by
  unfold backV
  have hl : ((es.drop k).length : Int) = es.length - k := by simp; omega
  rw [hl, show (k : Int) + ((es.length : Int) - k) = es.length by omega]
  have hfg : ∀ j : Int, (k : Int) < j → (termE k t (es.drop k) j).getD 0 = (termE 0 0 es j).getD 0 := fun j hj => by
    have := termE_drop 0 0 es k hk t (by rw [Int.zero_add]; exact ht) j (by omega)
    rw [Int.zero_add] at this
    rw [this]
  by_cases h : (k : Int) ≤ min a es.length
  · rw [backE_drop (fun j => (termE 0 0 es j).getD 0) (fun j => (termE k t (es.drop k) j).getD 0) b k hfg]
    rw [show k + (min a (es.length : Int) - k).toNat = (min a (0 + (es.length : Int)) - 0).toNat by omega]
  · have h1 := backE_le (fun j => (termE 0 0 es j).getD 0) b (min a (0 + (es.length : Int)) - 0).toNat
    rw [show (min a (es.length : Int) - k).toNat = 0 by omega]
    simp only [backE]; omega

/-- What is known of a log and of the same one without its first entries. -/
structure Trims (w : World) (g1 g2 k : Nat) (t N a b m : Int) : Prop where
  ex : ∃ (X LT BL : Int) (OK nb p q : Bool),
    (∀ w', Below w.heap.size w w' → Calls Try.prog 29 #[.pointer (some ⟨g1, 0, none⟩), .int .i64 a] w' fun e w2 => e = .returned (.tuple #[.int .i64 X, .bool OK]) ∧ Qt w' w2) ∧
    (∀ w', Below w.heap.size w w' → Calls Try.prog 29 #[.pointer (some ⟨g2, 0, none⟩), .int .i64 a] w' fun e w2 => e = .returned (.tuple #[.int .i64 (if a < k then 0 else X), .bool (if a < k then false else OK)]) ∧ Qt w' w2) ∧
    (∀ w', Below w.heap.size w w' → Calls Try.prog 30 #[.pointer (some ⟨g2, 0, none⟩)] w' fun e w2 => e = .returned (.int .i64 (k + 1)) ∧ Qt w' w2) ∧
    (∀ w', Below w.heap.size w w' → Calls Try.prog 21 #[.pointer (some ⟨g1, 0, none⟩)] w' fun e w2 => e = .returned (.int .i64 N) ∧ Qt w' w2) ∧
    (∀ w', Below w.heap.size w w' → Calls Try.prog 21 #[.pointer (some ⟨g2, 0, none⟩)] w' fun e w2 => e = .returned (.int .i64 N) ∧ Qt w' w2) ∧
    (∀ w', Below w.heap.size w w' → Calls Try.prog 22 #[.pointer (some ⟨g1, 0, none⟩)] w' fun e w2 => e = .returned (.int .i64 LT) ∧ Qt w' w2) ∧
    (∀ w', Below w.heap.size w w' → Calls Try.prog 22 #[.pointer (some ⟨g2, 0, none⟩)] w' fun e w2 => e = .returned (.int .i64 LT) ∧ Qt w' w2) ∧
    (∀ w', Below w.heap.size w w' → Calls Try.prog 31 #[.pointer (some ⟨g1, 0, none⟩), .int .i64 a, .int .i64 b] w' fun e w2 => e = .returned (.bool p) ∧ Qt w' w2) ∧
    (∀ w', Below w.heap.size w w' → Calls Try.prog 31 #[.pointer (some ⟨g2, 0, none⟩), .int .i64 a, .int .i64 b] w' fun e w2 => e = .returned (.bool q) ∧ Qt w' w2) ∧
    (p = true → q = true) ∧
    (∀ w', Below w.heap.size w w' → Calls Try.prog 20 #[.pointer (some ⟨g1, 0, none⟩), .int .i64 a, .int .i64 b] w' fun e w2 => e = .returned (.bool nb) ∧ Qt w' w2) ∧
    (∀ w', Below w.heap.size w w' → Calls Try.prog 20 #[.pointer (some ⟨g2, 0, none⟩), .int .i64 a, .int .i64 b] w' fun e w2 => e = .returned (.bool nb) ∧ Qt w' w2) ∧
    (∀ w', Below w.heap.size w w' → Calls Try.prog 34 #[.pointer (some ⟨g1, 0, none⟩), .int .i64 a, .int .i64 b] w' fun e w2 => e = .returned (.int .i64 BL) ∧ Qt w' w2) ∧
    (∀ w', Below w.heap.size w w' → Calls Try.prog 34 #[.pointer (some ⟨g2, 0, none⟩), .int .i64 a, .int .i64 b] w' fun e w2 => e = .returned (.int .i64 (max BL k)) ∧ Qt w' w2) ∧
    ((k : Int) < a → ∃ (R : List Ent) (r : Nat), (∀ e ∈ R, e.cmds = .slice none 0 0) ∧ R.length = r ∧ r ≤ 1000 ∧
      (∀ w', Below w.heap.size w w' → Calls Try.prog 33 #[.pointer (some ⟨g1, 0, none⟩), .int .i64 a, .int .i64 m] w' fun e w2 => ∃ A c, e = .returned (.slice A r c) ∧ Rd w2 A (flatE R) ∧ Below w'.heap.size w' w2) ∧
      (∀ w', Below w.heap.size w w' → Calls Try.prog 33 #[.pointer (some ⟨g2, 0, none⟩), .int .i64 a, .int .i64 m] w' fun e w2 => ∃ A c, e = .returned (.slice A r c) ∧ Rd w2 A (flatE R) ∧ Below w'.heap.size w' w2))

theorem trims_of (w : World) (base g1 g2 k : Nat) (t : Int) (es : List Ent) (va vb : Value) (a b m : Int) (h1 : LogAt w base g1 0 0 es va) (h2 : LogAt w base g2 k t (es.drop k) vb) (hk : k ≤ es.length) (ht : termE 0 0 es k = some t) (hn : es.length ≤ 60) (hnil : ∀ e ∈ es, e.cmds = .slice none 0 0) :
    Trims w g1 g2 k t es.length a b m := by
  have hl : ((es.drop k).length : Int) = es.length - k := by simp; omega
  have ht0 : termE 0 0 es (0 + (k : Int)) = some t := by rw [Int.zero_add]; exact ht
  have hTD : ∀ i : Int, (k : Int) ≤ i → termE k t (es.drop k) i = termE 0 0 es i := fun i hi => by
    have := termE_drop 0 0 es k hk t ht0 i (by omega)
    rwa [Int.zero_add] at this
  have hLT : lastT t (es.drop k) = lastT 0 es := lastT_drop 0 0 es k hk (by omega) t ht0
  refine ⟨(termE 0 0 es a).getD 0, lastT 0 es, backV 0 0 es a b, (termE 0 0 es a).isSome, newerB 0 0 es a b, hasB 0 0 es a b, hasB k t (es.drop k) a b, fun w' K => term_any _ _ _ _ _ _ _ a (h1.below K), fun w' K => ?_, fun w' K => histfirst_any _ _ _ _ _ _ _ (h2.below K), fun w' K => ?_, fun w' K => ?_, fun w' K => lastterm_any _ _ _ _ _ _ _ (h1.below K), fun w' K => ?_,
    fun w' K => has_any _ _ _ _ _ _ _ a b (h1.below K), fun w' K => has_any _ _ _ _ _ _ _ a b (h2.below K), ?_, fun w' K => newer_any _ _ _ _ _ _ _ a b (h1.below K), fun w' K => ?_, fun w' K => back_any _ _ _ _ _ _ _ a b (h1.below K), fun w' K => ?_, fun ha => ?_⟩
  · have := term_any _ _ _ _ _ _ _ a (h2.below K)
    by_cases hak : a < k
    · rw [termE_out k t (es.drop k) a (.inl hak)] at this
      rw [if_pos hak, if_pos hak]; exact this
    · rw [hTD a (by omega)] at this
      rw [if_neg hak, if_neg hak]; exact this
  · have := last_any _ _ _ _ _ _ _ (h1.below K)
    rwa [Int.zero_add] at this
  · have := last_any _ _ _ _ _ _ _ (h2.below K)
    rwa [hl, show (k : Int) + ((es.length : Int) - k) = es.length by omega] at this
  · have := lastterm_any _ _ _ _ _ _ _ (h2.below K)
    rwa [hLT] at this
  · unfold hasB
    intro hp
    by_cases hak : a < k
    · simp [hak]
    · rw [hTD a (by omega)]
      simp at hp ⊢
      rcases hp with h | h
      · omega
      · exact .inr h
  · have := newer_any _ _ _ _ _ _ _ a b (h2.below K)
    have e : newerB k t (es.drop k) a b = newerB 0 0 es a b := by
      unfold newerB
      rw [hLT, hl, show (k : Int) + ((es.length : Int) - k) = 0 + es.length by omega]
    rwa [e] at this
  · have := back_any _ _ _ _ _ _ _ a b (h2.below K)
    rwa [back_drop es k hk t ht a b] at this
  · have e : sliceE k (es.drop k) a m = sliceE 0 es a m := by
      unfold sliceE
      rw [hl, show (k : Int) + ((es.length : Int) - k) = 0 + es.length by omega]
      by_cases hc : (0 : Int) + es.length < a
      · rw [if_pos (.inr hc), if_pos (.inr hc)]
      · rw [if_neg (by omega), if_neg (by omega), List.drop_drop, show k + (a - k - 1).toNat = (a - 0 - 1).toNat by omega]
    refine ⟨sliceE 0 es a m, (sliceE 0 es a m).length, ?_, rfl, ?_, fun w' K => ?_, fun w' K => ?_⟩
    · intro x hx
      unfold sliceE at hx
      split at hx
      · cases hx
      · exact hnil x (List.mem_of_mem_drop (List.mem_of_mem_take hx))
    · unfold sliceE
      split
      · simp
      · simp; omega
    · exact (slice_any _ _ _ _ _ _ _ a m (h1.below K) hnil (by omega) (by omega)).mono fun e' w2 ⟨A, n, c, he, hnn, _, ho, hb⟩ => by
        subst hnn; exact ⟨A, c, he, Rd.of_own ho, hb⟩
    · have := slice_any _ _ _ _ _ _ _ a m (h2.below K) (fun x hx => hnil x (List.mem_of_mem_drop hx)) (by rw [hl]; omega) (by simp; omega)
      rw [e] at this
      exact this.mono fun e' w2 ⟨A, n, c, he, hnn, _, ho, hb⟩ => by
        subst hnn; exact ⟨A, c, he, Rd.of_own ho, hb⟩

/-- How many entries Trim lets go. -/
def trimK (n i : Int) : Nat := if 0 ≤ i ∧ i ≤ n then i.toNat else 0
theorem trim_any (w : World) (base g1 g2 : Nat) (es : List Ent) (va vb : Value) (i : Int) (h1 : LogAt w base g1 0 0 es va) (h2 : LogAt w base g2 0 0 es vb) (ha : Aside g1 va g2 vb) (hn : es.length ≤ 60) (hnil : ∀ e ∈ es, e.cmds = .slice none 0 0) :
    Calls Try.prog 28 #[.pointer (some ⟨g2, 0, none⟩), .int .i64 i] w fun e w' => e = .returned (.int .i64 (trimK es.length i)) ∧ (∀ a b m, Trims w' g1 g2 (trimK es.length i) ((termE 0 0 es (trimK es.length i)).getD 0) es.length a b m) ∧ Below base w w' := by
  by_cases hi : 0 ≤ i ∧ i ≤ es.length
  · obtain ⟨k, rfl⟩ := Int.eq_ofNat_of_zero_le hi.1
    have hk : k ≤ es.length := by omega
    have e : trimK es.length (k : Int) = k := by unfold trimK; rw [if_pos hi]; rfl
    obtain ⟨t, ht⟩ : ∃ t, termE 0 0 es (k : Int) = some t := by
      by_cases h0 : (k : Int) = 0
      · exact ⟨0, by rw [h0]; exact termE_base 0 0 es⟩
      · rw [termE_in _ _ _ _ (by omega) (by omega), List.getElem?_eq_getElem (by omega)]
        exact ⟨_, rfl⟩
    rw [e, ht]
    have := trim_yes w base g2 0 0 es vb k t h2 (fun x hx => by rw [hnil x hx]; rfl) hk (by rw [Int.zero_add]; exact ht) (by omega) (by omega)
    rw [Int.zero_add] at this
    exact this.mono fun e' w' ⟨h3, v', h4, h5, h6⟩ => ⟨h3, fun a b m => trims_of w' base g1 g2 k t es va v' a b m (h1.turn ha h6).1 h4 hk ht hn hnil, h5⟩
  · have e : trimK es.length i = 0 := by unfold trimK; rw [if_neg hi]
    rw [e]
    exact (trim_no w base g2 0 0 es vb i h2 (by omega)).mono fun e' w' ⟨h3, h4⟩ => ⟨h3, fun a b m => trims_of w' base g1 g2 0 0 es va vb a b m (h1.qt h4) (h2.qt h4) (by omega) (termE_base 0 0 es) hn hnil, h4.below _⟩

theorem one_bit (a : Int) : bits .and .i64 a 1 = 0 ∨ bits .and .i64 a 1 = 1 := by
  have hm : (BitVec.ofInt 64 1).toNat = 1 := by decide
  have h : (BitVec.ofInt 64 a &&& BitVec.ofInt 64 1).toNat ≤ 1 := by rw [BitVec.toNat_and, hm]; exact Nat.and_le_right
  have e : bits .and .i64 a 1 = (((BitVec.ofInt 64 a &&& BitVec.ofInt 64 1).toNat : Nat) : Int) := by
    show IntKind.i64.wrap (((BitVec.ofInt 64 a &&& BitVec.ofInt 64 1).toNat : Nat) : Int) = _
    generalize (BitVec.ofInt 64 a &&& BitVec.ofInt 64 1).toNat = q at h ⊢
    exact IntWalk.i64_in _ (by omega)
  rw [e]
  generalize (BitVec.ofInt 64 a &&& BitVec.ofInt 64 1).toNat = q at h ⊢
  omega
theorem new0_any (w : World) : Calls Try.prog 26 #[.int .i64 0, .int .i64 0] w fun e w' => e = .returned (.pointer (some ⟨w.heap.size, 0, none⟩)) ∧ LogAt w' w.heap.size w.heap.size 0 0 [] (.slice none 0 0) ∧ Below w.heap.size w w' := new_any 0 0 w (by omega)
theorem below_qt' {B : Nat} {a b c : World} (h : Below B a b) (q : Qt b c) : Below B a c := h.trans (q.below _)
end Go.Proofs.Ytcmjijlegmdebaa
