/-
  The walk of the law RaftNewer: for every input it returns true and changes nothing that was there. No condition.
-/
import Derived.Test.YtcmjijlegmdebaaRaftWould
import Derived.Test.YtcmjijlegmdebaaHistLogs
namespace Go.Proofs.Ytcmjijlegmdebaa
open Go Go.RowKit
attribute [local go_sem] cell_set_if

theorem intinfo : (Try.prog.info? 3).map (fun i => (i.zero, i.size, i.bytes)) = some (some (.int .i64 0), 1, 8) := by kernel_rfl
theorem one_ints (l : List Int) : ∀ u ∈ l.map (Value.int .i64), u.oneCell' = true := by
  intro u hu; simp at hu; obtain ⟨b, _, rfl⟩ := hu; rfl
def clampI (x : Int) : Int := min (max x 0) 1000
theorem clampI_take (l : List Int) (k : Nat) (x : Int) (h : l[k]? = some x) : (l.take (k + 1)).map (fun x => Value.int .i64 (clampI x)) = (l.take k).map (fun x => Value.int .i64 (clampI x)) ++ [.int .i64 (clampI x)] := by
  rw [List.take_add_one, h]; simp

theorem below_qt {B : Nat} {a W W' : World} (K : Below B a W) (q : Qt W W') : Below B a W' := by obtain ⟨n, rfl⟩ := q; exact below_drewN K n
theorem qt_cell {w w' : World} (q : Qt w w') (p : Addr) : w'.cell? p = w.cell? p := by obtain ⟨n, rfl⟩ := q; rfl
theorem alloc_cell {w : World} {p : Addr} {v : Value} (o : Obj) (h : w.cell? p = some v) : (w.alloc o).cell? p = some v := by
  rw [World.cell?_alloc_lt w o p (block_lt_of_cell h)]; exact h
theorem far_cell {w : World} {p q : Addr} {v u : Value} (hne : p.block ≠ q.block) (h : w.cell? p = some v) : (w.setCell q u).cell? p = some v := by
  exact (World.cell?_of_block (w := w) (Below.heap_setCell _ _ _ _ hne)).trans h
theorem qt_bel {w w' : World} (q : Qt w w') : Below w.heap.size w w' := q.below _
theorem newZ {w : World} {p : Addr} {v : Value} (_h : w.cell? p = some v) : Blk (w.alloc (.cells #[.int .i64 0, .int .i64 0] 64)) w.heap.size 64 #[.int .i64 0, .int .i64 0] := Blk.new _ _ _
theorem blk2 {w : World} {x : Nat} {T : TypeId} {a b c d : Value} (Z : Blk w x T #[a, b]) : Blk ((w.setCell ⟨x, 0, none⟩ c).setCell ⟨x, 1, none⟩ d) x T #[c, d] := by
  have := (Z.set_ 0 c).set_ 1 d
  simpa using this
theorem newer_grant (t na la : Int) (l : Value) (q : Bool) (w0 w : World) (ha : Asked w0 l na la q) (K : Below w0.heap.size w0 w) :
    Calls Try.prog 24 #[bal (t - 1) 3, .int .i64 t, .int .i64 1, .int .i64 na, .int .i64 la, l] w fun e w' => e = .returned (.tuple #[bal t (if q then 1 else -1), .bool q]) ∧ Below w.heap.size w w' := by
  refine (grant_any (t - 1) 3 t 1 na la l q w (ha.below K)).mono ?_
  rintro e w' ⟨rfl, h⟩
  refine ⟨?_, h⟩
  have h1 : t - 1 < t := by omega
  cases q <;> simp [grantS, seeS, h1]
theorem newer_would (t na la : Int) (l : Value) (q heard r : Bool) (w0 w : World) (ha : Asked w0 l na la q) (K : Below w0.heap.size w0 w) (hr : r = (q && !heard)) :
    Calls Try.prog 23 #[bal (t - 1) 3, .int .i64 t, .int .i64 na, .int .i64 la, l, .bool heard] w fun e w' => e = .returned (.bool r) ∧ Below w.heap.size w w' := by
  refine (would_any (t - 1) 3 t na la l heard q w (ha.below K)).mono ?_
  rintro e w' ⟨rfl, h⟩
  refine ⟨?_, h⟩
  have h1 : t - 1 < t := by omega
  rw [hr]; simp [h1]
/-- What two logs tell of each other, whatever is made beside them. -/
structure Duo (w0 : World) (g1 g2 : Nat) (na la nb lb : Int) (p q : Bool) : Prop where
  l1 : ∀ W, Below w0.heap.size w0 W → Calls Try.prog 21 #[.pointer (some ⟨g1, 0, none⟩)] W fun e W' => e = .returned (.int .i64 na) ∧ Qt W W'
  l2 : ∀ W, Below w0.heap.size w0 W → Calls Try.prog 21 #[.pointer (some ⟨g2, 0, none⟩)] W fun e W' => e = .returned (.int .i64 nb) ∧ Qt W W'
  t1 : ∀ W, Below w0.heap.size w0 W → Calls Try.prog 22 #[.pointer (some ⟨g1, 0, none⟩)] W fun e W' => e = .returned (.int .i64 la) ∧ Qt W W'
  t2 : ∀ W, Below w0.heap.size w0 W → Calls Try.prog 22 #[.pointer (some ⟨g2, 0, none⟩)] W fun e W' => e = .returned (.int .i64 lb) ∧ Qt W W'
  n1 : Asked w0 (.pointer (some ⟨g1, 0, none⟩)) nb lb p
  n2 : Asked w0 (.pointer (some ⟨g2, 0, none⟩)) na la q
  one : p = false → q = true
  both : p = true → q = true → na = nb ∧ la = lb
theorem Duo.m1 {w0 : World} {g1 g2 : Nat} {na la nb lb : Int} {p q : Bool} (h : Duo w0 g1 g2 na la nb lb p q) : ∀ W, Below w0.heap.size w0 W → Calls Try.prog 20 #[.pointer (some ⟨g1, 0, none⟩), .int .i64 nb, .int .i64 lb] W fun e W' => e = .returned (.bool p) ∧ Qt W W' := h.n1
theorem Duo.m2 {w0 : World} {g1 g2 : Nat} {na la nb lb : Int} {p q : Bool} (h : Duo w0 g1 g2 na la nb lb p q) : ∀ W, Below w0.heap.size w0 W → Calls Try.prog 20 #[.pointer (some ⟨g2, 0, none⟩), .int .i64 na, .int .i64 la] W fun e W' => e = .returned (.bool q) ∧ Qt W W' := h.n2
theorem duo_of {w0 : World} {b1 b2 g1 g2 : Nat} {E1 E2 : List Ent} {v1 v2 : Value} (L1 : LogAt w0 b1 g1 0 0 E1 v1) (L2 : LogAt w0 b2 g2 0 0 E2 v2) : ∃ na la nb lb p q, Duo w0 g1 g2 na la nb lb p q :=
  ⟨0 + E1.length, lastT 0 E1, 0 + E2.length, lastT 0 E2, newerB 0 0 E1 (0 + E2.length) (lastT 0 E2), newerB 0 0 E2 (0 + E1.length) (lastT 0 E1),
    fun W K => last_any W _ _ _ _ _ _ (L1.below K), fun W K => last_any W _ _ _ _ _ _ (L2.below K), fun W K => lastterm_any W _ _ _ _ _ _ (L1.below K), fun W K => lastterm_any W _ _ _ _ _ _ (L2.below K),
    L1.asked _ _, L2.asked _ _, by unfold newerB; simp; omega, by unfold newerB; simp; omega⟩

theorem logs0_any (w : World) (A : Option Addr) (m c : Nat) (xs : List Int) (hr : Rd w A (xs.map (Value.int .i64))) (hm : xs.length = m) (hmax : m ≤ 100000) :
    Calls Try.prog 19 #[.int .i64 0, .int .i64 0, .slice A m c] w fun e w' => ∃ g1 v1 g2 E, e = .returned (.tuple #[.pointer (some ⟨g1, 0, none⟩), .pointer (some ⟨g2, 0, none⟩)]) ∧ LogAt w' w.heap.size g1 0 0 E v1 ∧ Below w.heap.size w w' := by
  refine (logs_any w 0 0 A m c xs hr hm (by omega) hmax).mono ?_
  rintro e w' ⟨g1, v1, g2, v2, h1, h2, h3, h4, h5⟩
  rw [show max (0 : Int) 0 = 0 by omega] at h2
  exact ⟨g1, v1, g2, _, h1, h2, h4⟩
theorem nil_newer11 (w : World) : Calls Try.prog 20 #[.pointer none, .int .i64 1, .int .i64 1] w fun e w' => e = .returned (.bool false) ∧ w' = w := by
  go_enter Try.func20, Try.ntmps20
  go_wp2
  go_ret
  exact ⟨rfl, rfl⟩

set_option maxRecDepth 100000 in
set_option maxHeartbeats 4000000 in
theorem raftnewer_walk (A : Option Addr) (n c : Nat) (za : List Int) (B : Option Addr) (m d : Nat) (zb : List Int) (t : Int) (w : World) (ha : Rd w A (za.map (Value.int .i64))) (hn : za.length = n) (hb : Rd w B (zb.map (Value.int .i64))) (hm : zb.length = m) (xa : n ≤ maxLen) (xb : m ≤ maxLen) :
    Calls Try.prog 4 #[.slice A n c, .slice B m d, .int .i64 t] w fun e w' => e = .returned (.bool true) ∧ Below w.heap.size w w' := by
  unfold maxLen at xa xb
  have hxa : (n : Int) ≤ 9223372036854775807 := by omega
  have hxb : (m : Int) ≤ 9223372036854775807 := by omega
  have HA := Lib.hid ha
  have HB := Lib.hid hb
  have HN := Lib.hid hn
  have HM := Lib.hid hm
  clear ha hb hn hm
  by_cases hc : 40 < n ∨ 40 < m ∨ t < 1 ∨ 1073741824 < t
  · have hcs : 40 < (n : Int) ∨ (n : Int) ≤ 40 ∧ 40 < (m : Int) ∨ (n : Int) ≤ 40 ∧ (m : Int) ≤ 40 ∧ t < 1 ∨ (n : Int) ≤ 40 ∧ (m : Int) ≤ 40 ∧ 1 ≤ t ∧ 1073741824 < t := by omega
    clear hc
    rcases hcs with h | ⟨h0, h⟩ | ⟨h0, h1, h⟩ | ⟨h0, h1, h2, h⟩
    all_goals
      go_enter Try.func4, Try.ntmps4
      go_wp2_with (go_at_call 9; refine (alive25_any _).mono ?_; rintro e w1 ⟨rfl, hb1⟩)
      go_ret
      exact ⟨rfl, hb1⟩
  have hnn : (n : Int) ≤ 40 := by omega
  have hmm : (m : Int) ≤ 40 := by omega
  have ht1 : 1 ≤ t := by omega
  have ht2 : t ≤ 1073741824 := by omega
  clear hc
  go_enter Try.func4, Try.ntmps4
  go_wp2_with (go_at_call 9; refine (alive25_any _).mono ?_; rintro e w1 ⟨rfl, hb1⟩)
  obtain ⟨i0, hi0, hz0, hz1, hz2⟩ := info_parts intinfo
  go_loopw [7, 9] (fun u7 u9 wr => ∃ (k : Nat), k ≤ n ∧ u9 = .int .i64 k ∧ wr.ownsRow w.heap.size 3 1 u7 k ((za.take k).map fun x => Value.int .i64 (clampI x)) ∧ Below w.heap.size w wr) (fun _ u9 _ => n - (intOf u9).toNat)
  case atStart => exact ⟨0, by omega, rfl, World.ownsRow_nil _ _ _ _, hb1⟩
  case round =>
    obtain ⟨k, hk, rfl, hown, hB⟩ := hrel
    by_cases hlt : k < n
    · obtain ⟨x, hx⟩ : ∃ x, za[k]? = some x := ⟨za[k]'(by have := HN.out; omega), List.getElem?_eq_getElem _⟩
      obtain ⟨b, o, rfl, hbl, hcs⟩ := HA.out.flat (by simp; have := HN.out; omega)
      have hx0 : wr.cell? ⟨b, o + k, none⟩ = some (.int .i64 x) := by
        rw [(below_cells hB).1 b _ (by omega)]
        exact hcs k _ (by simp [hx])
      have HT := Lib.hid (clampI_take za k x hx)
      clear hcs hx
      obtain ⟨y, hy⟩ : ∃ y, y = clampI x := ⟨_, rfl⟩
      rw [← hy] at HT
      unfold clampI at hy
      have hcase : (x < 0 ∧ y = 0) ∨ (0 ≤ x ∧ x ≤ 1000 ∧ y = x) ∨ (1000 < x ∧ y = 1000) := by omega
      clear hy
      rcases hcase with ⟨h1, rfl⟩ | ⟨h1, h2, rfl⟩ | ⟨h1, rfl⟩
      all_goals
        go_wp2_with (at_builtin
                     refine wpList_app rfl (.tmp 49) (.tmp 56) 49 rfl w.heap.size 3 i0 _ 1 8 Try.underlying49 hi0 hz0 hz1 hz2 rfl (by omega) u7 k _ rfl (own_frm hown (S := no) ((Frm.refl _ _).alloc _) (fun _ _ => id)) _ 1 1 [.int .i64 _] rfl (Rd.one _ _ _) rfl (one_int _ _) (by unfold maxLen; omega) (by omega) (by have := hB.size; simp; omega) ?_
                     intro v2 w2 hown2 hg2 hb2 hat2)
        go_roundw
        case rel => exact ⟨k + 1, by omega, by go_num, by rw [HT.out]; exact hown2, (hB.alloc (by have := hB.size; omega) _).trans hb2⟩
        case measure => simp [intOf]; omega
    · obtain rfl : k = n := by omega
      have e : za.take k = za := List.take_of_length_le (by have := HN.out; omega)
      rw [e] at hown
      clear e
      obtain ⟨A1, c1, rfl, hc1⟩ := own_form hown
      have HO := Lib.hid hown
      clear hown
      go_wp2
      obtain ⟨w2, rfl⟩ : ∃ x, x = wr := ⟨_, rfl⟩
      go_loopw [8, 10] (fun u8 u10 wr => ∃ (k : Nat), k ≤ m ∧ u10 = .int .i64 k ∧ wr.ownsRow w2.heap.size 3 1 u8 k ((zb.take k).map fun x => Value.int .i64 (clampI x)) ∧ Below w2.heap.size w2 wr) (fun _ u10 _ => m - (intOf u10).toNat)
      case atStart => exact ⟨0, by omega, rfl, World.ownsRow_nil _ _ _ _, Below.refl _ _⟩
      case round =>
        obtain ⟨k, hk, rfl, hown, hB2⟩ := hrel
        by_cases hlt : k < m
        · obtain ⟨x, hx⟩ : ∃ x, zb[k]? = some x := ⟨zb[k]'(by have := HM.out; omega), List.getElem?_eq_getElem _⟩
          obtain ⟨b, o, rfl, hbl, hcs⟩ := HB.out.flat (by simp; have := HM.out; omega)
          have hx0 : wr.cell? ⟨b, o + k, none⟩ = some (.int .i64 x) := by
            rw [(below_cells hB2).1 b _ (by have := hB.size; omega), (below_cells hB).1 b _ (by omega)]
            exact hcs k _ (by simp [hx])
          have HT := Lib.hid (clampI_take zb k x hx)
          clear hcs hx
          obtain ⟨y, hy⟩ : ∃ y, y = clampI x := ⟨_, rfl⟩
          rw [← hy] at HT
          unfold clampI at hy
          have hcase : (x < 0 ∧ y = 0) ∨ (0 ≤ x ∧ x ≤ 1000 ∧ y = x) ∨ (1000 < x ∧ y = 1000) := by omega
          clear hy
          rcases hcase with ⟨h1, rfl⟩ | ⟨h1, h2, rfl⟩ | ⟨h1, rfl⟩
          all_goals
            go_wp2_with (at_builtin
                         refine wpList_app rfl (.tmp 64) (.tmp 71) 49 rfl w2.heap.size 3 i0 _ 1 8 Try.underlying49 hi0 hz0 hz1 hz2 rfl (by omega) u8 k _ rfl (own_frm hown (S := no) ((Frm.refl _ _).alloc _) (fun _ _ => id)) _ 1 1 [.int .i64 _] rfl (Rd.one _ _ _) rfl (one_int _ _) (by unfold maxLen; omega) (by omega) (by have := hB2.size; simp; omega) ?_
                         intro v2 w3 hown2 hg2 hb2 hat2)
            go_roundw
            case rel => exact ⟨k + 1, by omega, by go_num, by rw [HT.out]; exact hown2, (hB2.alloc (by have := hB2.size; omega) _).trans hb2⟩
            case measure => simp [intOf]; omega
        · obtain rfl : k = m := by omega
          have e : zb.take k = zb := List.take_of_length_le (by have := HM.out; omega)
          rw [e] at hown
          clear e
          obtain ⟨A2, c2, rfl, hc2⟩ := own_form hown
          have hr1 : Rd wr A1 ((za.map clampI).map (Value.int .i64)) := by
            have := (Rd.of_own HO.out).below hB2
            simpa [List.map_map, Function.comp_def] using this
          have hr2 : Rd wr A2 ((zb.map clampI).map (Value.int .i64)) := by
            have := Rd.of_own hown
            simpa [List.map_map, Function.comp_def] using this
          have HR1 := Lib.hid hr1
          have HR2 := Lib.hid hr2
          clear hr1 hr2 hown
          have K0 : Below w.heap.size w wr := hB.trans (hB2.mono hB.size)
          go_wp2_with (first
            | (go_at_call 19; with_reducible refine (logs0_any wr A1 _ c1 _ HR1.out (by simp [HN.out]) (by omega)).mono ?_; rintro e w3 ⟨g1, v1, g1', E1, rfl, L1, b3⟩)
            | (go_at_call 19; with_reducible refine (logs0_any w3 A2 _ c2 _ (HR2.out.below b3) (by simp [HM.out]) (by omega)).mono ?_; rintro e w4 ⟨g2, v2, g2', E2, rfl, L2, b4⟩
               have hDuo := duo_of (L1.below b4) L2
               have K4 : Below w.heap.size w w4 := below_of b4 (below_of b3 K0 K0.size) (Nat.le_trans K0.size b3.size)
               obtain ⟨na, la, nb, lb, p, q, D⟩ := hDuo
               have K := Below.refl w4.heap.size w4
               have HD := Lib.hid D
               clear D))
          have hpq : (p = true ∧ q = true ∧ na = nb ∧ la = lb) ∨ (p = true ∧ q = false) ∨ (p = false ∧ q = true) := by
            have h1 := HD.out.one
            have h2 := HD.out.both
            cases p <;> cases q <;> simp_all
          have hna : (na != na) = false := by simp
          have hla : (la != la) = false := by simp
          rcases hpq with ⟨rfl, rfl, rfl, rfl⟩ | ⟨rfl, rfl⟩ | ⟨rfl, rfl⟩
          · go_wp2_with (first
              | (go_at_call 21; with_reducible refine (HD.out.l1 _ K).mono ?_; rintro e w5 ⟨rfl, q5⟩; have K := below_qt K q5)
              | (go_at_call 21; with_reducible refine (HD.out.l2 _ K).mono ?_; rintro e w5 ⟨rfl, q5⟩; have K := below_qt K q5)
              | (go_at_call 22; with_reducible refine (HD.out.t1 _ K).mono ?_; rintro e w5 ⟨rfl, q5⟩; have K := below_qt K q5)
              | (go_at_call 22; with_reducible refine (HD.out.t2 _ K).mono ?_; rintro e w5 ⟨rfl, q5⟩; have K := below_qt K q5)
              | (go_at_call 20; with_reducible refine (HD.out.m1 _ K).mono ?_; rintro e w5 ⟨rfl, q5⟩; have K := below_qt K q5)
              | (go_at_call 20; with_reducible refine (HD.out.m2 _ K).mono ?_; rintro e w5 ⟨rfl, q5⟩; have K := below_qt K q5))
            have KB : Blk (w5.alloc (.cells #[.int .i64 (t - 1), .int .i64 3] 64)) w5.heap.size 64 #[.int .i64 (t - 1), .int .i64 3] := Blk.new _ _ _
            have K := K.alloc K.size (.cells #[.int .i64 (t - 1), .int .i64 3] 64)
            obtain ⟨w6, hw6⟩ : ∃ w6, w6 = w5.alloc (.cells #[.int .i64 (t - 1), .int .i64 3] 64) := ⟨_, rfl⟩
            obtain ⟨g3, hg3⟩ : ∃ g3, g3 = w5.heap.size := ⟨_, rfl⟩
            rw [← hw6] at KB K ⊢
            rw [← hg3] at KB ⊢
            clear hw6 hg3
            have c0 := KB.cell 0
            have c1 := KB.cell 1
            simp at c0 c1
            clear KB
            go_region_held3 (fun w' => w'.cell? ⟨g3, 0, none⟩ = some (.int .i64 (t - 1)) ∧ w'.cell? ⟨g3, 1, none⟩ = some (.int .i64 3)) (exact ⟨c0, c1⟩)
              (first
                | (go_at_call 21; refine (HD.out.l1 _ K.drew).mono ?_; rintro e w5 ⟨rfl, q5⟩; have K := below_qt K.drew q5; have c0 := (qt_cell q5 _).trans c0; have c1 := (qt_cell q5 _).trans c1)
                | (go_at_call 22; refine (HD.out.t1 _ K).mono ?_; rintro e w5 ⟨rfl, q5⟩; have K := below_qt K q5; have c0 := (qt_cell q5 _).trans c0; have c1 := (qt_cell q5 _).trans c1)
                | (go_at_call 23; refine (newer_would t na la _ _ false true w4 _ HD.out.n2 K rfl).mono ?_; rintro e w7 ⟨rfl, b7⟩; have K := below_of b7 K K.size; have c0 := (b7.cell (block_lt_of_cell c0)).trans c0; have c1 := (b7.cell (block_lt_of_cell c1)).trans c1))
            generalize w7 = W at c0 c1 K ⊢
            go_upto_region 21 with fail
            go_cut [19, 20] from 138 to 148 (fun u v wx => ∃ x : Nat, u = .pointer (some ⟨x, 0, none⟩) ∧ v = .bool true ∧ Blk wx x 64 #[.int .i64 t, .int .i64 1] ∧ Below w4.heap.size w4 wx ∧ wx.cell? ⟨g3, 0, none⟩ = some (.int .i64 (t - 1)) ∧ wx.cell? ⟨g3, 1, none⟩ = some (.int .i64 3))
            case first =>
              go_region_held3 (fun w' => w'.cell? ⟨g3, 0, none⟩ = some (.int .i64 (t - 1)) ∧ w'.cell? ⟨g3, 1, none⟩ = some (.int .i64 3)) (first | exact ⟨c0, c1⟩ | exact ⟨alloc_cell _ c0, alloc_cell _ c1⟩ | exact ⟨far_cell (Nat.ne_of_lt hz) c0, far_cell (Nat.ne_of_lt hz) c1⟩ | exact ⟨far_cell (Nat.ne_of_lt hz) (far_cell (Nat.ne_of_lt hz) c0), far_cell (Nat.ne_of_lt hz) (far_cell (Nat.ne_of_lt hz) c1)⟩)
                (first
                  | (go_at_call 21; have K := K.drew; (with_reducible refine (HD.out.l1 _ K).mono ?_); rintro e w9 ⟨rfl, q9⟩; have b9 := qt_bel q9; have c0 := (b9.cell (block_lt_of_cell c0)).trans c0; have c1 := (b9.cell (block_lt_of_cell c1)).trans c1; have K := below_of b9 K K.size; (try (have Z := Blk.below Z b9; have z0 : _ = some (Value.int .i64 0) := Z.cell 0; have z1 : _ = some (Value.int .i64 0) := Z.cell 1; have zf0 := Z.free 0; have zf1 := Z.free 1)))
                  | (go_at_call 21; have Z := newZ c0; have hz := block_lt_of_cell c0; have hzl := K.size; have c0 := alloc_cell (.cells #[.int .i64 0, .int .i64 0] 64) c0; have c1 := alloc_cell (.cells #[.int .i64 0, .int .i64 0] 64) c1; have K := K.alloc K.size (.cells #[.int .i64 0, .int .i64 0] 64); have K := K.drew; have Z := Z.drew; (with_reducible refine (HD.out.l1 _ K).mono ?_); rintro e w9 ⟨rfl, q9⟩; have b9 := qt_bel q9; have c0 := (b9.cell (block_lt_of_cell c0)).trans c0; have c1 := (b9.cell (block_lt_of_cell c1)).trans c1; have K := below_of b9 K K.size; (try (have Z := Blk.below Z b9; have z0 : _ = some (Value.int .i64 0) := Z.cell 0; have z1 : _ = some (Value.int .i64 0) := Z.cell 1; have zf0 := Z.free 0; have zf1 := Z.free 1)))
                  | (go_at_call 22; (with_reducible refine (HD.out.t1 _ K).mono ?_); rintro e w9 ⟨rfl, q9⟩; have b9 := qt_bel q9; have c0 := (b9.cell (block_lt_of_cell c0)).trans c0; have c1 := (b9.cell (block_lt_of_cell c1)).trans c1; have K := below_of b9 K K.size; (try (have Z := Blk.below Z b9; have z0 : _ = some (Value.int .i64 0) := Z.cell 0; have z1 : _ = some (Value.int .i64 0) := Z.cell 1; have zf0 := Z.free 0; have zf1 := Z.free 1)))
                  | (go_at_call 22; have Z := newZ c0; have hz := block_lt_of_cell c0; have hzl := K.size; have c0 := alloc_cell (.cells #[.int .i64 0, .int .i64 0] 64) c0; have c1 := alloc_cell (.cells #[.int .i64 0, .int .i64 0] 64) c1; have K := K.alloc K.size (.cells #[.int .i64 0, .int .i64 0] 64); (with_reducible refine (HD.out.t1 _ K).mono ?_); rintro e w9 ⟨rfl, q9⟩; have b9 := qt_bel q9; have c0 := (b9.cell (block_lt_of_cell c0)).trans c0; have c1 := (b9.cell (block_lt_of_cell c1)).trans c1; have K := below_of b9 K K.size; (try (have Z := Blk.below Z b9; have z0 : _ = some (Value.int .i64 0) := Z.cell 0; have z1 : _ = some (Value.int .i64 0) := Z.cell 1; have zf0 := Z.free 0; have zf1 := Z.free 1)))
                  | (go_at_call 24; (with_reducible refine (newer_grant t na la _ _ w4 _ HD.out.n2 K).mono ?_); rintro e w9 ⟨rfl, q9⟩; have b9 := q9; have c0 := (b9.cell (block_lt_of_cell c0)).trans c0; have c1 := (b9.cell (block_lt_of_cell c1)).trans c1; have K := below_of b9 K K.size; (try (have Z := Blk.below Z b9; have z0 : _ = some (Value.int .i64 0) := Z.cell 0; have z1 : _ = some (Value.int .i64 0) := Z.cell 1; have zf0 := Z.free 0; have zf1 := Z.free 1)))
                  | (go_at_call 24; have Z := newZ c0; have hz := block_lt_of_cell c0; have hzl := K.size; have c0 := alloc_cell (.cells #[.int .i64 0, .int .i64 0] 64) c0; have c1 := alloc_cell (.cells #[.int .i64 0, .int .i64 0] 64) c1; have K := K.alloc K.size (.cells #[.int .i64 0, .int .i64 0] 64); (with_reducible refine (newer_grant t na la _ _ w4 _ HD.out.n2 K).mono ?_); rintro e w9 ⟨rfl, q9⟩; have b9 := q9; have c0 := (b9.cell (block_lt_of_cell c0)).trans c0; have c1 := (b9.cell (block_lt_of_cell c1)).trans c1; have K := below_of b9 K K.size; (try (have Z := Blk.below Z b9; have z0 : _ = some (Value.int .i64 0) := Z.cell 0; have z1 : _ = some (Value.int .i64 0) := Z.cell 1; have zf0 := Z.free 0; have zf1 := Z.free 1))))
              all_goals (go_wp2_with fail; go_meet)
              all_goals first
                | exact ⟨_, rfl, rfl, Blk.new _ _ _, K.alloc K.size _, alloc_cell _ c0, alloc_cell _ c1⟩
                | exact ⟨_, rfl, rfl, blk2 Z, (K.setCell hzl _).setCell hzl _, far_cell (Nat.ne_of_lt hz) (far_cell (Nat.ne_of_lt hz) c0), far_cell (Nat.ne_of_lt hz) (far_cell (Nat.ne_of_lt hz) c1)⟩
            case rest =>
            obtain ⟨x, rfl, rfl, Z, K, c0, c1⟩ := hcut
            have z0 : wc.cell? ⟨x, 0, none⟩ = some (.int .i64 t) := Z.cell 0
            have z1 : wc.cell? ⟨x, 1, none⟩ = some (.int .i64 1) := Z.cell 1
            have htt : (t == t) = true := by simp
            clear Z
            go_wp2
            go_region_held3 (fun w' => w'.cell? ⟨g3, 0, none⟩ = some (.int .i64 (t - 1)) ∧ w'.cell? ⟨g3, 1, none⟩ = some (.int .i64 3) ∧ w'.cell? ⟨x, 0, none⟩ = some (.int .i64 t) ∧ w'.cell? ⟨x, 1, none⟩ = some (.int .i64 1)) (exact ⟨c0, c1, z0, z1⟩)
              (first
                | (go_at_call 21; refine (HD.out.l1 _ K.drew).mono ?_; rintro e w5 ⟨rfl, q5⟩; have K := below_qt K.drew q5; have c0 := (qt_cell q5 _).trans c0; have c1 := (qt_cell q5 _).trans c1; have z0 := (qt_cell q5 _).trans z0; have z1 := (qt_cell q5 _).trans z1)
                | (go_at_call 22; refine (HD.out.t1 _ K).mono ?_; rintro e w5 ⟨rfl, q5⟩; have K := below_qt K q5; have c0 := (qt_cell q5 _).trans c0; have c1 := (qt_cell q5 _).trans c1; have z0 := (qt_cell q5 _).trans z0; have z1 := (qt_cell q5 _).trans z1)
                | (go_at_call 20; refine (nil_newer11 _).mono ?_; rintro e w5 ⟨rfl, hw5⟩; subst hw5)
                | (go_at_call 23; refine (newer_would t na la _ _ true false w4 _ HD.out.n2 K rfl).mono ?_; rintro e w7 ⟨rfl, b7⟩; have K := below_of b7 K K.size; have c0 := (b7.cell (block_lt_of_cell c0)).trans c0; have c1 := (b7.cell (block_lt_of_cell c1)).trans c1; have z0 := (b7.cell (block_lt_of_cell z0)).trans z0; have z1 := (b7.cell (block_lt_of_cell z1)).trans z1))
            go_wp2
            go_ret
            exact ⟨rfl, below_of K K4 K4.size⟩
          · go_wp2_with (first
              | (go_at_call 21; with_reducible refine (HD.out.l1 _ K).mono ?_; rintro e w5 ⟨rfl, q5⟩; have K := below_qt K q5)
              | (go_at_call 21; with_reducible refine (HD.out.l2 _ K).mono ?_; rintro e w5 ⟨rfl, q5⟩; have K := below_qt K q5)
              | (go_at_call 22; with_reducible refine (HD.out.t1 _ K).mono ?_; rintro e w5 ⟨rfl, q5⟩; have K := below_qt K q5)
              | (go_at_call 22; with_reducible refine (HD.out.t2 _ K).mono ?_; rintro e w5 ⟨rfl, q5⟩; have K := below_qt K q5)
              | (go_at_call 20; with_reducible refine (HD.out.m1 _ K).mono ?_; rintro e w5 ⟨rfl, q5⟩; have K := below_qt K q5)
              | (go_at_call 20; with_reducible refine (HD.out.m2 _ K).mono ?_; rintro e w5 ⟨rfl, q5⟩; have K := below_qt K q5))
            have KB : Blk (w5.alloc (.cells #[.int .i64 (t - 1), .int .i64 3] 64)) w5.heap.size 64 #[.int .i64 (t - 1), .int .i64 3] := Blk.new _ _ _
            have K := K.alloc K.size (.cells #[.int .i64 (t - 1), .int .i64 3] 64)
            obtain ⟨w6, hw6⟩ : ∃ w6, w6 = w5.alloc (.cells #[.int .i64 (t - 1), .int .i64 3] 64) := ⟨_, rfl⟩
            obtain ⟨g3, hg3⟩ : ∃ g3, g3 = w5.heap.size := ⟨_, rfl⟩
            rw [← hw6] at KB K ⊢
            rw [← hg3] at KB ⊢
            clear hw6 hg3
            have c0 := KB.cell 0
            have c1 := KB.cell 1
            simp at c0 c1
            clear KB
            go_region_held3 (fun w' => w'.cell? ⟨g3, 0, none⟩ = some (.int .i64 (t - 1)) ∧ w'.cell? ⟨g3, 1, none⟩ = some (.int .i64 3)) (exact ⟨c0, c1⟩)
              (first
                | (go_at_call 21; refine (HD.out.l1 _ K.drew).mono ?_; rintro e w5 ⟨rfl, q5⟩; have K := below_qt K.drew q5; have c0 := (qt_cell q5 _).trans c0; have c1 := (qt_cell q5 _).trans c1)
                | (go_at_call 22; refine (HD.out.t1 _ K).mono ?_; rintro e w5 ⟨rfl, q5⟩; have K := below_qt K q5; have c0 := (qt_cell q5 _).trans c0; have c1 := (qt_cell q5 _).trans c1)
                | (go_at_call 23; refine (newer_would t na la _ _ false false w4 _ HD.out.n2 K rfl).mono ?_; rintro e w7 ⟨rfl, b7⟩; have K := below_of b7 K K.size; have c0 := (b7.cell (block_lt_of_cell c0)).trans c0; have c1 := (b7.cell (block_lt_of_cell c1)).trans c1))
            generalize w7 = W at c0 c1 K ⊢
            go_upto_region 21 with fail
            go_cut [19, 20] from 138 to 148 (fun u v wx => ∃ x : Nat, u = .pointer (some ⟨x, 0, none⟩) ∧ v = .bool false ∧ Blk wx x 64 #[.int .i64 t, .int .i64 (-1)] ∧ Below w4.heap.size w4 wx ∧ wx.cell? ⟨g3, 0, none⟩ = some (.int .i64 (t - 1)) ∧ wx.cell? ⟨g3, 1, none⟩ = some (.int .i64 3))
            case first =>
              go_region_held3 (fun w' => w'.cell? ⟨g3, 0, none⟩ = some (.int .i64 (t - 1)) ∧ w'.cell? ⟨g3, 1, none⟩ = some (.int .i64 3)) (first | exact ⟨c0, c1⟩ | exact ⟨alloc_cell _ c0, alloc_cell _ c1⟩ | exact ⟨far_cell (Nat.ne_of_lt hz) c0, far_cell (Nat.ne_of_lt hz) c1⟩ | exact ⟨far_cell (Nat.ne_of_lt hz) (far_cell (Nat.ne_of_lt hz) c0), far_cell (Nat.ne_of_lt hz) (far_cell (Nat.ne_of_lt hz) c1)⟩)
                (first
                  | (go_at_call 21; have K := K.drew; (with_reducible refine (HD.out.l1 _ K).mono ?_); rintro e w9 ⟨rfl, q9⟩; have b9 := qt_bel q9; have c0 := (b9.cell (block_lt_of_cell c0)).trans c0; have c1 := (b9.cell (block_lt_of_cell c1)).trans c1; have K := below_of b9 K K.size; (try (have Z := Blk.below Z b9; have z0 : _ = some (Value.int .i64 0) := Z.cell 0; have z1 : _ = some (Value.int .i64 0) := Z.cell 1; have zf0 := Z.free 0; have zf1 := Z.free 1)))
                  | (go_at_call 21; have Z := newZ c0; have hz := block_lt_of_cell c0; have hzl := K.size; have c0 := alloc_cell (.cells #[.int .i64 0, .int .i64 0] 64) c0; have c1 := alloc_cell (.cells #[.int .i64 0, .int .i64 0] 64) c1; have K := K.alloc K.size (.cells #[.int .i64 0, .int .i64 0] 64); have K := K.drew; have Z := Z.drew; (with_reducible refine (HD.out.l1 _ K).mono ?_); rintro e w9 ⟨rfl, q9⟩; have b9 := qt_bel q9; have c0 := (b9.cell (block_lt_of_cell c0)).trans c0; have c1 := (b9.cell (block_lt_of_cell c1)).trans c1; have K := below_of b9 K K.size; (try (have Z := Blk.below Z b9; have z0 : _ = some (Value.int .i64 0) := Z.cell 0; have z1 : _ = some (Value.int .i64 0) := Z.cell 1; have zf0 := Z.free 0; have zf1 := Z.free 1)))
                  | (go_at_call 22; (with_reducible refine (HD.out.t1 _ K).mono ?_); rintro e w9 ⟨rfl, q9⟩; have b9 := qt_bel q9; have c0 := (b9.cell (block_lt_of_cell c0)).trans c0; have c1 := (b9.cell (block_lt_of_cell c1)).trans c1; have K := below_of b9 K K.size; (try (have Z := Blk.below Z b9; have z0 : _ = some (Value.int .i64 0) := Z.cell 0; have z1 : _ = some (Value.int .i64 0) := Z.cell 1; have zf0 := Z.free 0; have zf1 := Z.free 1)))
                  | (go_at_call 22; have Z := newZ c0; have hz := block_lt_of_cell c0; have hzl := K.size; have c0 := alloc_cell (.cells #[.int .i64 0, .int .i64 0] 64) c0; have c1 := alloc_cell (.cells #[.int .i64 0, .int .i64 0] 64) c1; have K := K.alloc K.size (.cells #[.int .i64 0, .int .i64 0] 64); (with_reducible refine (HD.out.t1 _ K).mono ?_); rintro e w9 ⟨rfl, q9⟩; have b9 := qt_bel q9; have c0 := (b9.cell (block_lt_of_cell c0)).trans c0; have c1 := (b9.cell (block_lt_of_cell c1)).trans c1; have K := below_of b9 K K.size; (try (have Z := Blk.below Z b9; have z0 : _ = some (Value.int .i64 0) := Z.cell 0; have z1 : _ = some (Value.int .i64 0) := Z.cell 1; have zf0 := Z.free 0; have zf1 := Z.free 1)))
                  | (go_at_call 24; (with_reducible refine (newer_grant t na la _ _ w4 _ HD.out.n2 K).mono ?_); rintro e w9 ⟨rfl, q9⟩; have b9 := q9; have c0 := (b9.cell (block_lt_of_cell c0)).trans c0; have c1 := (b9.cell (block_lt_of_cell c1)).trans c1; have K := below_of b9 K K.size; (try (have Z := Blk.below Z b9; have z0 : _ = some (Value.int .i64 0) := Z.cell 0; have z1 : _ = some (Value.int .i64 0) := Z.cell 1; have zf0 := Z.free 0; have zf1 := Z.free 1)))
                  | (go_at_call 24; have Z := newZ c0; have hz := block_lt_of_cell c0; have hzl := K.size; have c0 := alloc_cell (.cells #[.int .i64 0, .int .i64 0] 64) c0; have c1 := alloc_cell (.cells #[.int .i64 0, .int .i64 0] 64) c1; have K := K.alloc K.size (.cells #[.int .i64 0, .int .i64 0] 64); (with_reducible refine (newer_grant t na la _ _ w4 _ HD.out.n2 K).mono ?_); rintro e w9 ⟨rfl, q9⟩; have b9 := q9; have c0 := (b9.cell (block_lt_of_cell c0)).trans c0; have c1 := (b9.cell (block_lt_of_cell c1)).trans c1; have K := below_of b9 K K.size; (try (have Z := Blk.below Z b9; have z0 : _ = some (Value.int .i64 0) := Z.cell 0; have z1 : _ = some (Value.int .i64 0) := Z.cell 1; have zf0 := Z.free 0; have zf1 := Z.free 1))))
              all_goals (go_wp2_with fail; go_meet)
              all_goals first
                | exact ⟨_, rfl, rfl, Blk.new _ _ _, K.alloc K.size _, alloc_cell _ c0, alloc_cell _ c1⟩
                | exact ⟨_, rfl, rfl, blk2 Z, (K.setCell hzl _).setCell hzl _, far_cell (Nat.ne_of_lt hz) (far_cell (Nat.ne_of_lt hz) c0), far_cell (Nat.ne_of_lt hz) (far_cell (Nat.ne_of_lt hz) c1)⟩
            case rest =>
            obtain ⟨x, rfl, rfl, Z, K, c0, c1⟩ := hcut
            have z0 : wc.cell? ⟨x, 0, none⟩ = some (.int .i64 t) := Z.cell 0
            have z1 : wc.cell? ⟨x, 1, none⟩ = some (.int .i64 (-1)) := Z.cell 1
            have htt : (t == t) = true := by simp
            clear Z
            go_wp2
            go_region_held3 (fun w' => w'.cell? ⟨g3, 0, none⟩ = some (.int .i64 (t - 1)) ∧ w'.cell? ⟨g3, 1, none⟩ = some (.int .i64 3) ∧ w'.cell? ⟨x, 0, none⟩ = some (.int .i64 t) ∧ w'.cell? ⟨x, 1, none⟩ = some (.int .i64 (-1))) (exact ⟨c0, c1, z0, z1⟩)
              (first
                | (go_at_call 21; refine (HD.out.l1 _ K.drew).mono ?_; rintro e w5 ⟨rfl, q5⟩; have K := below_qt K.drew q5; have c0 := (qt_cell q5 _).trans c0; have c1 := (qt_cell q5 _).trans c1; have z0 := (qt_cell q5 _).trans z0; have z1 := (qt_cell q5 _).trans z1)
                | (go_at_call 22; refine (HD.out.t1 _ K).mono ?_; rintro e w5 ⟨rfl, q5⟩; have K := below_qt K q5; have c0 := (qt_cell q5 _).trans c0; have c1 := (qt_cell q5 _).trans c1; have z0 := (qt_cell q5 _).trans z0; have z1 := (qt_cell q5 _).trans z1)
                | (go_at_call 20; refine (nil_newer11 _).mono ?_; rintro e w5 ⟨rfl, hw5⟩; subst hw5)
                | (go_at_call 23; refine (newer_would t na la _ _ true false w4 _ HD.out.n2 K rfl).mono ?_; rintro e w7 ⟨rfl, b7⟩; have K := below_of b7 K K.size; have c0 := (b7.cell (block_lt_of_cell c0)).trans c0; have c1 := (b7.cell (block_lt_of_cell c1)).trans c1; have z0 := (b7.cell (block_lt_of_cell z0)).trans z0; have z1 := (b7.cell (block_lt_of_cell z1)).trans z1))
            go_wp2
            go_ret
            exact ⟨rfl, below_of K K4 K4.size⟩
          · go_wp2_with (first
              | (go_at_call 21; with_reducible refine (HD.out.l1 _ K).mono ?_; rintro e w5 ⟨rfl, q5⟩; have K := below_qt K q5)
              | (go_at_call 21; with_reducible refine (HD.out.l2 _ K).mono ?_; rintro e w5 ⟨rfl, q5⟩; have K := below_qt K q5)
              | (go_at_call 22; with_reducible refine (HD.out.t1 _ K).mono ?_; rintro e w5 ⟨rfl, q5⟩; have K := below_qt K q5)
              | (go_at_call 22; with_reducible refine (HD.out.t2 _ K).mono ?_; rintro e w5 ⟨rfl, q5⟩; have K := below_qt K q5)
              | (go_at_call 20; with_reducible refine (HD.out.m1 _ K).mono ?_; rintro e w5 ⟨rfl, q5⟩; have K := below_qt K q5)
              | (go_at_call 20; with_reducible refine (HD.out.m2 _ K).mono ?_; rintro e w5 ⟨rfl, q5⟩; have K := below_qt K q5))
            have KB : Blk (w5.alloc (.cells #[.int .i64 (t - 1), .int .i64 3] 64)) w5.heap.size 64 #[.int .i64 (t - 1), .int .i64 3] := Blk.new _ _ _
            have K := K.alloc K.size (.cells #[.int .i64 (t - 1), .int .i64 3] 64)
            obtain ⟨w6, hw6⟩ : ∃ w6, w6 = w5.alloc (.cells #[.int .i64 (t - 1), .int .i64 3] 64) := ⟨_, rfl⟩
            obtain ⟨g3, hg3⟩ : ∃ g3, g3 = w5.heap.size := ⟨_, rfl⟩
            rw [← hw6] at KB K ⊢
            rw [← hg3] at KB ⊢
            clear hw6 hg3
            have c0 := KB.cell 0
            have c1 := KB.cell 1
            simp at c0 c1
            clear KB
            go_region_held3 (fun w' => w'.cell? ⟨g3, 0, none⟩ = some (.int .i64 (t - 1)) ∧ w'.cell? ⟨g3, 1, none⟩ = some (.int .i64 3)) (exact ⟨c0, c1⟩)
              (first
                | (go_at_call 21; refine (HD.out.l1 _ K.drew).mono ?_; rintro e w5 ⟨rfl, q5⟩; have K := below_qt K.drew q5; have c0 := (qt_cell q5 _).trans c0; have c1 := (qt_cell q5 _).trans c1)
                | (go_at_call 22; refine (HD.out.t1 _ K).mono ?_; rintro e w5 ⟨rfl, q5⟩; have K := below_qt K q5; have c0 := (qt_cell q5 _).trans c0; have c1 := (qt_cell q5 _).trans c1)
                | (go_at_call 23; refine (newer_would t na la _ _ false true w4 _ HD.out.n2 K rfl).mono ?_; rintro e w7 ⟨rfl, b7⟩; have K := below_of b7 K K.size; have c0 := (b7.cell (block_lt_of_cell c0)).trans c0; have c1 := (b7.cell (block_lt_of_cell c1)).trans c1))
            generalize w7 = W at c0 c1 K ⊢
            go_upto_region 21 with fail
            go_cut [19, 20] from 138 to 148 (fun u v wx => ∃ x : Nat, u = .pointer (some ⟨x, 0, none⟩) ∧ v = .bool true ∧ Blk wx x 64 #[.int .i64 t, .int .i64 1] ∧ Below w4.heap.size w4 wx ∧ wx.cell? ⟨g3, 0, none⟩ = some (.int .i64 (t - 1)) ∧ wx.cell? ⟨g3, 1, none⟩ = some (.int .i64 3))
            case first =>
              go_region_held3 (fun w' => w'.cell? ⟨g3, 0, none⟩ = some (.int .i64 (t - 1)) ∧ w'.cell? ⟨g3, 1, none⟩ = some (.int .i64 3)) (first | exact ⟨c0, c1⟩ | exact ⟨alloc_cell _ c0, alloc_cell _ c1⟩ | exact ⟨far_cell (Nat.ne_of_lt hz) c0, far_cell (Nat.ne_of_lt hz) c1⟩ | exact ⟨far_cell (Nat.ne_of_lt hz) (far_cell (Nat.ne_of_lt hz) c0), far_cell (Nat.ne_of_lt hz) (far_cell (Nat.ne_of_lt hz) c1)⟩)
                (first
                  | (go_at_call 21; have K := K.drew; (with_reducible refine (HD.out.l1 _ K).mono ?_); rintro e w9 ⟨rfl, q9⟩; have b9 := qt_bel q9; have c0 := (b9.cell (block_lt_of_cell c0)).trans c0; have c1 := (b9.cell (block_lt_of_cell c1)).trans c1; have K := below_of b9 K K.size; (try (have Z := Blk.below Z b9; have z0 : _ = some (Value.int .i64 0) := Z.cell 0; have z1 : _ = some (Value.int .i64 0) := Z.cell 1; have zf0 := Z.free 0; have zf1 := Z.free 1)))
                  | (go_at_call 21; have Z := newZ c0; have hz := block_lt_of_cell c0; have hzl := K.size; have c0 := alloc_cell (.cells #[.int .i64 0, .int .i64 0] 64) c0; have c1 := alloc_cell (.cells #[.int .i64 0, .int .i64 0] 64) c1; have K := K.alloc K.size (.cells #[.int .i64 0, .int .i64 0] 64); have K := K.drew; have Z := Z.drew; (with_reducible refine (HD.out.l1 _ K).mono ?_); rintro e w9 ⟨rfl, q9⟩; have b9 := qt_bel q9; have c0 := (b9.cell (block_lt_of_cell c0)).trans c0; have c1 := (b9.cell (block_lt_of_cell c1)).trans c1; have K := below_of b9 K K.size; (try (have Z := Blk.below Z b9; have z0 : _ = some (Value.int .i64 0) := Z.cell 0; have z1 : _ = some (Value.int .i64 0) := Z.cell 1; have zf0 := Z.free 0; have zf1 := Z.free 1)))
                  | (go_at_call 22; (with_reducible refine (HD.out.t1 _ K).mono ?_); rintro e w9 ⟨rfl, q9⟩; have b9 := qt_bel q9; have c0 := (b9.cell (block_lt_of_cell c0)).trans c0; have c1 := (b9.cell (block_lt_of_cell c1)).trans c1; have K := below_of b9 K K.size; (try (have Z := Blk.below Z b9; have z0 : _ = some (Value.int .i64 0) := Z.cell 0; have z1 : _ = some (Value.int .i64 0) := Z.cell 1; have zf0 := Z.free 0; have zf1 := Z.free 1)))
                  | (go_at_call 22; have Z := newZ c0; have hz := block_lt_of_cell c0; have hzl := K.size; have c0 := alloc_cell (.cells #[.int .i64 0, .int .i64 0] 64) c0; have c1 := alloc_cell (.cells #[.int .i64 0, .int .i64 0] 64) c1; have K := K.alloc K.size (.cells #[.int .i64 0, .int .i64 0] 64); (with_reducible refine (HD.out.t1 _ K).mono ?_); rintro e w9 ⟨rfl, q9⟩; have b9 := qt_bel q9; have c0 := (b9.cell (block_lt_of_cell c0)).trans c0; have c1 := (b9.cell (block_lt_of_cell c1)).trans c1; have K := below_of b9 K K.size; (try (have Z := Blk.below Z b9; have z0 : _ = some (Value.int .i64 0) := Z.cell 0; have z1 : _ = some (Value.int .i64 0) := Z.cell 1; have zf0 := Z.free 0; have zf1 := Z.free 1)))
                  | (go_at_call 24; (with_reducible refine (newer_grant t na la _ _ w4 _ HD.out.n2 K).mono ?_); rintro e w9 ⟨rfl, q9⟩; have b9 := q9; have c0 := (b9.cell (block_lt_of_cell c0)).trans c0; have c1 := (b9.cell (block_lt_of_cell c1)).trans c1; have K := below_of b9 K K.size; (try (have Z := Blk.below Z b9; have z0 : _ = some (Value.int .i64 0) := Z.cell 0; have z1 : _ = some (Value.int .i64 0) := Z.cell 1; have zf0 := Z.free 0; have zf1 := Z.free 1)))
                  | (go_at_call 24; have Z := newZ c0; have hz := block_lt_of_cell c0; have hzl := K.size; have c0 := alloc_cell (.cells #[.int .i64 0, .int .i64 0] 64) c0; have c1 := alloc_cell (.cells #[.int .i64 0, .int .i64 0] 64) c1; have K := K.alloc K.size (.cells #[.int .i64 0, .int .i64 0] 64); (with_reducible refine (newer_grant t na la _ _ w4 _ HD.out.n2 K).mono ?_); rintro e w9 ⟨rfl, q9⟩; have b9 := q9; have c0 := (b9.cell (block_lt_of_cell c0)).trans c0; have c1 := (b9.cell (block_lt_of_cell c1)).trans c1; have K := below_of b9 K K.size; (try (have Z := Blk.below Z b9; have z0 : _ = some (Value.int .i64 0) := Z.cell 0; have z1 : _ = some (Value.int .i64 0) := Z.cell 1; have zf0 := Z.free 0; have zf1 := Z.free 1))))
              all_goals (go_wp2_with fail; go_meet)
              all_goals first
                | exact ⟨_, rfl, rfl, Blk.new _ _ _, K.alloc K.size _, alloc_cell _ c0, alloc_cell _ c1⟩
                | exact ⟨_, rfl, rfl, blk2 Z, (K.setCell hzl _).setCell hzl _, far_cell (Nat.ne_of_lt hz) (far_cell (Nat.ne_of_lt hz) c0), far_cell (Nat.ne_of_lt hz) (far_cell (Nat.ne_of_lt hz) c1)⟩
            case rest =>
            obtain ⟨x, rfl, rfl, Z, K, c0, c1⟩ := hcut
            have z0 : wc.cell? ⟨x, 0, none⟩ = some (.int .i64 t) := Z.cell 0
            have z1 : wc.cell? ⟨x, 1, none⟩ = some (.int .i64 1) := Z.cell 1
            have htt : (t == t) = true := by simp
            clear Z
            go_wp2
            go_region_held3 (fun w' => w'.cell? ⟨g3, 0, none⟩ = some (.int .i64 (t - 1)) ∧ w'.cell? ⟨g3, 1, none⟩ = some (.int .i64 3) ∧ w'.cell? ⟨x, 0, none⟩ = some (.int .i64 t) ∧ w'.cell? ⟨x, 1, none⟩ = some (.int .i64 1)) (exact ⟨c0, c1, z0, z1⟩)
              (first
                | (go_at_call 21; refine (HD.out.l1 _ K.drew).mono ?_; rintro e w5 ⟨rfl, q5⟩; have K := below_qt K.drew q5; have c0 := (qt_cell q5 _).trans c0; have c1 := (qt_cell q5 _).trans c1; have z0 := (qt_cell q5 _).trans z0; have z1 := (qt_cell q5 _).trans z1)
                | (go_at_call 22; refine (HD.out.t1 _ K).mono ?_; rintro e w5 ⟨rfl, q5⟩; have K := below_qt K q5; have c0 := (qt_cell q5 _).trans c0; have c1 := (qt_cell q5 _).trans c1; have z0 := (qt_cell q5 _).trans z0; have z1 := (qt_cell q5 _).trans z1)
                | (go_at_call 20; refine (nil_newer11 _).mono ?_; rintro e w5 ⟨rfl, hw5⟩; subst hw5)
                | (go_at_call 23; refine (newer_would t na la _ _ true false w4 _ HD.out.n2 K rfl).mono ?_; rintro e w7 ⟨rfl, b7⟩; have K := below_of b7 K K.size; have c0 := (b7.cell (block_lt_of_cell c0)).trans c0; have c1 := (b7.cell (block_lt_of_cell c1)).trans c1; have z0 := (b7.cell (block_lt_of_cell z0)).trans z0; have z1 := (b7.cell (block_lt_of_cell z1)).trans z1))
            go_wp2
            go_ret
            exact ⟨rfl, below_of K K4 K4.size⟩
end Go.Proofs.Ytcmjijlegmdebaa
