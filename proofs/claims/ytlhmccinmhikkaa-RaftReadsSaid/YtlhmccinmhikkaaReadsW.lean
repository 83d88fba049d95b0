/-
  Reads that wait, as rows of three ints, and what Add of them does. Condition: no more than a thousand of them.
-/
import Derived.Test.YtlhmccinmhikkaaRowsInts
namespace Go.Proofs.Ytlhmccinmhikkaa
open Go Go.RowKit
attribute [local go_sem] cell_set_if

/-- One that waits. -/
structure R3 where
  id : Int
  com : Int
  rnd : Int
def R3.cells (x : R3) : List Value := [.int .i64 x.id, .int .i64 x.com, .int .i64 x.rnd]
def flatR (L : List R3) : List Value := L.flatMap R3.cells
theorem flatR_len (L : List R3) : (flatR L).length = L.length * 3 := flat_len R3.cells (fun _ => rfl) L
theorem flatR_one (L : List R3) : ∀ u ∈ flatR L, u.oneCell' = true := flat_one R3.cells (fun x u hu => by unfold R3.cells at hu; simp at hu; rcases hu with rfl | rfl | rfl <;> rfl) L
theorem flatR_app (a b : List R3) : flatR (a ++ b) = flatR a ++ flatR b := by unfold flatR; rw [List.flatMap_append]
theorem flatR_at (L : List R3) (k : Nat) (x : R3) (h : L[k]? = some x) (j : Nat) (v : Value) (hv : x.cells[j]? = some v) : (flatR L)[k * 3 + j]? = some v := flat_at R3.cells (fun _ => rfl) L k x h j v hv
theorem Rd.wait {w : World} {A : Option Addr} {L : List R3} (h : Rd w A (flatR L)) {k : Nat} (hk : k < L.length) : ∃ b o x, A = some ⟨b, o, none⟩ ∧ b < w.heap.size ∧ L[k]? = some x ∧ w.cell? ⟨b, o + k * 3, none⟩ = some (.int .i64 x.id) ∧ w.cell? ⟨b, o + k * 3 + 1, none⟩ = some (.int .i64 x.com) ∧ w.cell? ⟨b, o + k * 3 + 2, none⟩ = some (.int .i64 x.rnd) := by
  obtain ⟨x, hx⟩ : ∃ x, L[k]? = some x := ⟨L[k]'hk, List.getElem?_eq_getElem _⟩
  obtain ⟨b, o, e, hb, hc⟩ := h.flat (by rw [flatR_len]; omega)
  refine ⟨b, o, x, e, hb, hx, ?_, ?_, ?_⟩
  · have := hc _ _ (flatR_at L k x hx 0 _ rfl); simpa using this
  · have := hc _ _ (flatR_at L k x hx 1 _ rfl); rwa [← Nat.add_assoc] at this
  · have := hc _ _ (flatR_at L k x hx 2 _ rfl); rwa [← Nat.add_assoc] at this
/-- What may be answered, and what stays. -/
def outR (p : R3 → Bool) (L : List R3) : List Int := (L.filter p).map (·.id)
def leftR (p : R3 → Bool) (L : List R3) : List R3 := L.filter fun x => !p x
/-- The program's reads at g. -/
structure ReadsAt (base : Nat) (w : World) (g : Nat) (L : List R3) (v : Value) : Prop where
  lo : base ≤ g
  B : Blk w g 27 #[v]
  r : w.ownsRow base 96 3 v L.length (flatR L)
theorem ReadsAt.below {base g : Nat} {w w' : World} {L : List R3} {v : Value} (h : ReadsAt base w g L v) (k : Below w.heap.size w w') : ReadsAt base w' g L v :=
  ⟨h.lo, h.B.below k, own_frm h.r (S := no) (Frm.of_below k) (fun _ _ h => h)⟩
theorem rinfo : (Try.prog.info? 96).map (fun i => (i.zero, i.size, i.bytes)) = some (some (.agg #[.int .i64 0, .int .i64 0, .int .i64 0]), 3, 24) := by kernel_rfl
set_option maxRecDepth 100000 in
set_option maxHeartbeats 1000000 in
theorem radd_any (base g : Nat) (L : List R3) (v : Value) (a b c : Int) (w : World) (h : ReadsAt base w g L v) (hb0 : base ≤ w.heap.size) (hm : L.length ≤ 1000) :
    Calls Try.prog 6 #[.pointer (some ⟨g, 0, none⟩), .int .i64 a, .int .i64 b, .int .i64 c] w fun e w' => e = .returned (.tuple #[]) ∧ (∃ v', ReadsAt base w' g (L ++ [⟨a, b, c⟩]) v' ∧ (∀ k, v'.ownBlock = some k → v.ownBlock = some k ∨ w.heap.size ≤ k)) ∧ Frm (fun k => k = g ∨ v.ownBlock = some k) w w' := by
  obtain ⟨i0, hi0, hz0, hz1, hz2⟩ := info_parts rinfo
  obtain ⟨A1, c1, hv1, hc1⟩ := own_form h.r
  have H := Lib.hid h
  have HV := Lib.hid hv1
  obtain ⟨n, hn⟩ : ∃ n, n = L.length := ⟨_, rfl⟩
  have HN := Lib.hid hn
  have R1 : w.ownsRow base 96 3 (.slice A1 n c1) n (flatR L) := by have := h.r; rw [hv1] at this; rw [hn]; exact this
  have c0 : w.cell? ⟨g, 0, none⟩ = some (.slice A1 n c1) := by rw [h.B.cell 0, hv1, hn]; rfl
  have hne1 : (Value.slice A1 n c1).ownBlock ≠ some g := Blk.own_ne h.B R1 (by decide)
  have hm2 : n ≤ 1000 := by omega
  clear h hv1 hn hm
  go_enter Try.func6, Try.ntmps6
  go_wp2_with (at_builtin
               refine wpList_app rfl (.tmp 14) (.tmp 19) 25 rfl base 96 i0 _ 3 24 Try.underlying25 hi0 hz0 hz1 hz2 rfl (by omega) (.slice A1 n c1) n (flatR L) rfl (R1.alloc _) _ 1 1 [.int .i64 a, .int .i64 b, .int .i64 c] rfl (Rd.new _ _ _) rfl (by simp [Value.oneCell']) (by unfold maxLen; omega) (by omega) (by simp; omega) ?_
               intro v3 w3 hown3 hg3 hb3 hat3
               have G3 := (H.out.B.alloc (.cells #[.int .i64 a, .int .i64 b, .int .i64 c] 96)).grown hg3 hne1
               have f30 := G3.free 0
               have g30 : w3.cell? ⟨g, 0, none⟩ = some v := G3.cell 0
               obtain ⟨A3, c3, rfl, hc3⟩ := own_form hown3)
  go_end0
  have B4 : Blk (w3.setCell ⟨g, 0, none⟩ (.slice A3 (n + 1) c3)) g 27 #[.slice A3 (n + 1) c3] := G3.set_ 0 (.slice A3 (n + 1) c3)
  have O4 := own_set G3 hown3 (i := 0) (by decide) (.slice A3 (n + 1) c3)
  have F3 : Frm (fun k => k = g ∨ v.ownBlock = some k) w w3 := ((Frm.refl _ w).alloc _).grown hg3 fun k hk _ => .inr (by rw [HV.out, ← HN.out]; exact hk)
  have F4 : Frm (fun k => k = g ∨ v.ownBlock = some k) w (w3.setCell ⟨g, 0, none⟩ (.slice A3 (n + 1) c3)) := F3.setCell (p := ⟨g, 0, none⟩) (fun _ => .inl rfl) _
  refine ⟨rfl, ⟨_, ⟨H.out.lo, B4, ?_⟩, fun k hk => ?_⟩, F4⟩
  · rw [flatR_app, List.length_append, ← HN.out]; exact O4
  · rcases hat3 with h | h
    · exact .inl (by rw [HV.out, ← HN.out, ← h]; exact hk)
    · rw [hk] at h; injection h with h; exact .inr (by simp at h; omega)
theorem idsL_take (L : List R3) (k : Nat) (x : R3) (h : L[k]? = some x) : (L.take (k + 1)).map (·.id) = (L.take k).map (·.id) ++ [x.id] := by rw [List.take_add_one, h]; simp
set_option maxRecDepth 100000 in
set_option maxHeartbeats 1000000 in
theorem rdrop_any (base g : Nat) (L : List R3) (v : Value) (w : World) (h : ReadsAt base w g L v) (hm : L.length ≤ 1000) :
    Calls Try.prog 12 #[.pointer (some ⟨g, 0, none⟩)] w fun e w' => MadeZ w.heap.size e w' (L.map (·.id)) ∧ ReadsAt base w' g [] (.slice none 0 0) ∧ Frm (fun k => k = g) w w' := by
  obtain ⟨i0, hi0, hz0, hz1, hz2⟩ := info_parts zinfo
  obtain ⟨A1, c1, hv1, hc1⟩ := own_form h.r
  have H := Lib.hid h
  have HV := Lib.hid hv1
  obtain ⟨n, hn⟩ : ∃ n, n = L.length := ⟨_, rfl⟩
  have HN := Lib.hid hn
  have R1 : w.ownsRow base 96 3 (.slice A1 n c1) n (flatR L) := by have := h.r; rw [hv1] at this; rw [hn]; exact this
  have HR := Lib.hid (Rd.of_own R1)
  have c0 : w.cell? ⟨g, 0, none⟩ = some (.slice A1 n c1) := by rw [h.B.cell 0, hv1, hn]; rfl
  have hm2 : n ≤ 1000 := by omega
  clear h hv1 hn hm R1
  go_enter Try.func12, Try.ntmps12
  go_wp2
  go_loopw [3, 13] (fun u3 u13 wr => ∃ k : Nat, k ≤ n ∧ u13 = .int .i64 k ∧ wr.ownsRow w.heap.size 3 1 u3 k (flatZ ((L.take k).map (·.id))) ∧ Below w.heap.size w wr) (fun _ u13 _ => n - (intOf u13).toNat)
  case atStart => exact ⟨0, by omega, rfl, World.ownsRow_nil _ _ _ _, Below.refl _ _⟩
  case round =>
    obtain ⟨k, hk, rfl, hO, hB⟩ := hrel
    by_cases hlt : k < n
    · obtain ⟨bb, o, x, rfl, hbb, hx, q0, q1, q2⟩ := HR.out.wait (k := k) (by have := HN.out; omega)
      have d0 := cell_bb hB hbb q0
      have d1 := cell_bb hB hbb q1
      have d2 := cell_bb hB hbb q2
      have hki : (k : Int) < (n : Int) := by omega
      have HT : Hid (flatZ ((L.take (k + 1)).map (·.id)) = flatZ ((L.take k).map (·.id)) ++ [.int .i64 x.id]) := by unfold Hid; rw [idsL_take L k x hx, flatZ_app]; rfl
      have RN : Rd ((wr.alloc (.cells #[.int .i64 x.id, .int .i64 x.com, .int .i64 x.rnd] 96)).alloc (.cells #[.int .i64 x.id] 3)) (some ⟨wr.heap.size + 1, 0, none⟩) [.int .i64 x.id] := by
        have := Rd.new (wr.alloc (.cells #[.int .i64 x.id, .int .i64 x.com, .int .i64 x.rnd] 96)) #[.int .i64 x.id] 3
        simpa using this
      clear hx q0 q1 q2
      go_wp2_with (at_builtin
                   refine wpList_app rfl (.tmp 17) (.tmp 20) 49 rfl w.heap.size 3 i0 _ 1 8 Try.underlying49 hi0 hz0 hz1 hz2 rfl (by omega) u3 k _ rfl ((hO.alloc _).alloc _) _ 1 1 [.int .i64 x.id] rfl RN rfl (by simp [Value.oneCell']) (by unfold maxLen; omega) (by omega) (by have := hB.size; simp; omega) ?_
                   intro v5 w5 hown5 hg5 hb5 hat5)
      go_roundw
      case rel => exact ⟨k + 1, by omega, by go_num, by rw [HT.out]; exact hown5, ((hB.alloc hB.size _).alloc (by have := hB.size; simp; omega) _).trans hb5⟩
      case measure => simp [intOf]; omega
    · obtain rfl : n = k := by omega
      obtain ⟨A3, c3, rfl, hc3⟩ := own_form hO
      have G := H.out.B.below (below_of hB (Below.refl _ _) (Nat.le_refl _))
      have g0 : wr.cell? ⟨g, 0, none⟩ = some v := G.cell 0
      have f0 := G.free 0
      have HT : Hid ((L.take n).map (·.id) = L.map (·.id)) := by unfold Hid; rw [List.take_of_length_le (by have := HN.out; omega)]
      rw [HT.out] at hO
      have HO := Lib.hid hO
      clear hO
      go_wp2
      go_ret
      have hne : ∀ q, (Value.slice A3 n c3).ownBlock = some q → q ≠ g := fun q hq e => by
        have h1 := (HO.out.lt q hq).1
        have h2 := H.out.B.lt
        omega
      refine ⟨⟨A3, n, c3, by rw [List.length_map, HN.out], rfl, own_frm HO.out ((Frm.refl (fun k => k = g) wr).setCell (p := ⟨g, 0, none⟩) (fun _ => rfl) (.slice none 0 0)) (fun q hq e => hne q hq e)⟩, ⟨H.out.lo, G.set_ 0 (.slice none 0 0), World.ownsRow_nil _ _ _ _⟩, (Frm.of_below (S := fun k => k = g) hB).setCell (p := ⟨g, 0, none⟩) (fun _ => rfl) (.slice none 0 0)⟩
end Go.Proofs.Ytlhmccinmhikkaa
