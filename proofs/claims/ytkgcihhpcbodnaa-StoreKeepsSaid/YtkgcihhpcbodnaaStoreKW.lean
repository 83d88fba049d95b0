/-
  StoreKeeps, walked: it is true. Condition: pages and keeps that can be read.
-/
import Derived.Test.YtkgcihhpcbodnaaStoreKQ
namespace Go.Proofs.Ytkgcihhpcbodnaa
open Go Go.RowKit
attribute [local go_sem] cell_set_if

theorem pvInfo : (Try.prog.info? 23).map (fun i => (i.zero, i.size, i.bytes)) = some (some (pageV 0 0 0 ⟨#[]⟩), 4, 40) := by kernel_rfl
/-- A page's cells. -/
theorem pv_cells {w : World} {A : Option Addr} {l : List Pv} {k : Nat} {pk pi pt : Int} {pbd : ByteArray} (h : Rd w A (flatPv l)) (hx : l[k]? = some ⟨pk, pi, pt, pbd⟩) : ∃ bA oA, A = some ⟨bA, oA, none⟩ ∧ bA < w.heap.size ∧
    w.cell? ⟨bA, oA + k * 4, none⟩ = some (.int .i64 pk) ∧ w.cell? ⟨bA, oA + k * 4 + 1, none⟩ = some (.int .i64 pi) ∧ w.cell? ⟨bA, oA + k * 4 + 2, none⟩ = some (.int .i64 pt) ∧ w.cell? ⟨bA, oA + k * 4 + 3, none⟩ = some (.string pbd) := by
  obtain ⟨bA, oA, hA, hb, hc⟩ := h.flat (by rw [flatPv_len]; have := (List.getElem?_eq_some_iff.1 hx).1; omega)
  refine ⟨bA, oA, hA, hb, hc _ _ (flatPv_at l k _ hx 0 _ rfl), ?_, ?_, ?_⟩
  · rw [Nat.add_assoc]; exact hc _ _ (flatPv_at l k _ hx 1 _ rfl)
  · rw [Nat.add_assoc]; exact hc _ _ (flatPv_at l k _ hx 2 _ rfl)
  · rw [Nat.add_assoc]; exact hc _ _ (flatPv_at l k _ hx 3 _ rfl)
set_option maxRecDepth 100000 in
theorem keeps_big (A0 A1 A2 : Option Addr) (n0 c0 n1 c1 n2 c2 : Nat) (ix : Int) (w : World) (h : 15 < (n0 : Int) ∨ ((n0 : Int) ≤ 15 ∧ 15 < (n1 : Int)) ∨ ((n0 : Int) ≤ 15 ∧ (n1 : Int) ≤ 15 ∧ 200 < (n2 : Int))) :
    Calls Try.prog 4 #[.slice A0 n0 c0, .slice A1 n1 c1, .slice A2 n2 c2, .int .i64 ix] w fun e w' => e = .returned (.bool true) ∧ Below w.heap.size w w' := by
  rcases h with h | ⟨h, h1⟩ | ⟨h, h1, h2⟩
  all_goals
    go_enter Try.func4, Try.ntmps4
    go_wp2_with (go_at_call 5; refine (alive8_any _).mono ?_; rintro e w1 ⟨rfl, b1⟩)
    go_ret
    exact ⟨rfl, b1⟩
section
variable {w w' : World} {base gs g n : Nat} {d d' : Ds}
theorem kk_put {A : Option Addr} {m c : Nat} {l : List Pv} (M : Nat) (w : World) (h : SBlk w gs g stN n) (L : LiveAt w base d g) (hf : d.fine) (hr : Rd w A (flatPv l)) (hm : l.length = m) (hm6 : m ≤ 15)
    (hA : ∀ a, A = some a → a.block < base) (hbd : ∀ p ∈ l, p.bd.size ≤ 232) (hM : ∀ p ∈ l, p.i.toNat ≤ M) (hM6 : M ≤ 60) (hws : d.ws.length = 0) (he : putS d stN l = (0, d')) :
    Calls Try.prog 11 #[.pointer (some ⟨gs, 0, none⟩), .slice A m c] w fun e w' => e = .returned (.int .i64 0) ∧ LiveAt w' base d' g ∧ SBlk w' gs g stN n ∧ Below base w w' := by
  have h := stput_any A m c l M w h L hf hr hm (by omega) (fun _ a ha => .inl (hA a ha)) (fun p hp => by have := hbd p hp; omega) (fun p hp _ => hM p hp) (by
    have : m * (M + 1) ≤ 15 * 61 := Nat.mul_le_mul hm6 (by omega)
    omega)
  rw [he] at h
  exact h.mono fun e w' ⟨h1, h2, h3, h4, _⟩ => ⟨h1, h2, h3, h4⟩
theorem kk_sync {e2 : Int} (w : World) (h : SBlk w gs g stN n) (L : LiveAt w base d g) (hf : d.fine) (he : syncD d stN = (e2, d')) (h2 : e2 = 0 ∨ e2 = 8) :
    Calls Try.prog 14 #[.pointer (some ⟨gs, 0, none⟩)] w fun e w' => e = .returned (.int .i64 0) ∧ LiveAt w' base d' g ∧ SBlk w' gs g stN n ∧ Below base w w' := by
  have hs := stsync_any w h L hf
  rw [he] at hs
  refine hs.mono fun e w' ⟨q1, q2, q3, q4⟩ => ⟨?_, q2, h.kp q4, q3⟩
  rcases h2 with rfl | rfl
  · exact q1
  · exact q1
theorem kk_get (ix : Int) {q : Pv} {e0 : Int} (w : World) (h : SBlk w gs g stN n) (L : LiveAt w base d g) (hn : n ≤ 1000) (hg : base ≤ gs) (he : getS d stN ix = (q, e0)) :
    Calls Try.prog 6 #[.pointer (some ⟨gs, 0, none⟩), .int .i64 ix] w fun e w' => e = .returned (.tuple #[q.val, .int .i64 e0]) ∧ (∃ n', n' ≤ n + 1 ∧ SBlk w' gs g stN n') ∧ LiveAt w' base d g ∧ Below base w w' := by
  refine (stget_any ix w h L (by omega)).mono fun e w' hgot => ?_
  unfold Got at hgot
  rw [he] at hgot
  obtain ⟨q1, q2, q3, q4⟩ := hgot
  refine ⟨q1, ⟨_, ?_, q2⟩, q3, q4.below L.1 (fun i hi => by have hi : i = gs := hi; rw [hi]; exact hg)⟩
  split <;> omega
end
/-- No page behind the k-th has its id, up to the j-th. -/
def lastB (l : List Pv) (k j : Nat) (i : Int) : Bool := ((l.take j).drop (k + 1)).all fun q => decide (q.i ≠ i)
theorem lastB_start (l : List Pv) (k : Nat) (i : Int) : lastB l k (k + 1) i = true := by
  unfold lastB
  rw [List.drop_eq_nil_of_le (by rw [List.length_take]; omega)]; rfl
theorem lastB_succ {l : List Pv} {k j : Nat} {i : Int} {q : Pv} (hk : k + 1 ≤ j) (hq : l[j]? = some q) : lastB l k (j + 1) i = (lastB l k j i && decide (q.i ≠ i)) := by
  have hl := (List.getElem?_eq_some_iff.1 hq).1
  unfold lastB
  rw [List.take_add_one, hq, List.drop_append_of_le_length (by rw [List.length_take]; omega), List.all_append]
  simp
theorem lastB_end {l : List Pv} {k : Nat} {i : Int} (h : lastB l k l.length i = true) : ∀ (j : Nat) (q : Pv), k < j → l[j]? = some q → q.i ≠ i := fun j q hj hq => by
  unfold lastB at h
  rw [List.take_length] at h
  have := List.all_eq_true.1 h q (by
    have : (l.drop (k + 1))[j - (k + 1)]? = some q := by rw [List.getElem?_drop, show k + 1 + (j - (k + 1)) = j by omega]; exact hq
    exact List.mem_of_getElem? this)
  simpa using this
/-- Has one of the first k pages that id? -/
def inB (l : List Pv) (k : Nat) (i : Int) : Bool := (l.take k).any fun q => decide (q.i = i)
theorem inB_succ {l : List Pv} {k : Nat} {i : Int} {q : Pv} (hq : l[k]? = some q) : inB l (k + 1) i = (inB l k i || decide (q.i = i)) := by
  unfold inB
  rw [List.take_add_one, hq, List.any_append]
  simp
theorem inB_end {l : List Pv} {i : Int} (h : inB l l.length i = false) : ∀ p ∈ l, p.i ≠ i := fun p hp e => by
  unfold inB at h
  rw [List.take_length] at h
  have := List.any_eq_false.1 h p hp
  simp [e] at this
theorem pv_at {w : World} {bA oA : Nat} {l : List Pv} {k : Nat} {pk pi pt : Int} {pbd : ByteArray} (h : Rd w (some ⟨bA, oA, none⟩) (flatPv l)) (hx : l[k]? = some ⟨pk, pi, pt, pbd⟩) :
    w.cell? ⟨bA, oA + k * 4, none⟩ = some (.int .i64 pk) ∧ w.cell? ⟨bA, oA + k * 4 + 1, none⟩ = some (.int .i64 pi) ∧ w.cell? ⟨bA, oA + k * 4 + 2, none⟩ = some (.int .i64 pt) ∧ w.cell? ⟨bA, oA + k * 4 + 3, none⟩ = some (.string pbd) := by
  obtain ⟨b, o, hA, _, hc⟩ := pv_cells h hx
  injection hA with hA
  injection hA with h1 h2
  subst h1 h2
  exact hc
set_option maxRecDepth 100000 in
set_option maxHeartbeats 16000000 in
theorem keeps_main (A0 A1 A2 : Option Addr) (n0 c0 n1 c1 n2 c2 : Nat) (l0 l1 : List Pv) (keep : List Int) (ix : Int) (w : World) (r0 : Rd w A0 (flatPv l0)) (e0 : l0.length = n0) (r1 : Rd w A1 (flatPv l1)) (e1 : l1.length = n1) (r2 : Rd w A2 (flatZ keep)) (e2 : keep.length = n2)
    (y0 : ∀ p ∈ l0, p.bd.size ≤ 9223372036854775807) (y1 : ∀ p ∈ l1, p.bd.size ≤ 9223372036854775807) (h0 : n0 ≤ 15) (h1 : n1 ≤ 15) (h2 : n2 ≤ 200) :
    Calls Try.prog 4 #[.slice A0 n0 c0, .slice A1 n1 c1, .slice A2 n2 c2, .int .i64 ix] w fun e w' => e = .returned (.bool true) ∧ Below w.heap.size w w' := by
  obtain ⟨i0, hi0, hz0, hz1, hz2⟩ := info_parts pvInfo
  have HI0 := Lib.hid hi0
  have HZ0 := Lib.hid hz0
  have HZ1 := Lib.hid hz1
  have HZ2 := Lib.hid hz2
  have h0i : (n0 : Int) ≤ 15 := by omega
  have h1i : (n1 : Int) ≤ 15 := by omega
  have h2i : (n2 : Int) ≤ 200 := by omega
  have R0 := Lib.hid r0
  have R1 := Lib.hid r1
  have R2 := Lib.hid r2
  have E0 := Lib.hid e0
  have E1 := Lib.hid e1
  have E2 := Lib.hid e2
  have Y0 := Lib.hid y0
  have Y1 := Lib.hid y1
  clear r0 r1 r2 e0 e1 e2 y0 y1 hi0 hz0 hz1 hz2
  go_enter Try.func4, Try.ntmps4
  go_wp2_with (go_at_call 5; refine (alive8_any _).mono ?_; rintro e wa ⟨rfl, ba⟩)
  have HBA := Lib.hid ba
  clear ba
  go_loopw [9, 11] (fun u9 u11 wr => ∃ k : Nat, k ≤ n0 ∧ u11 = .int .i64 k ∧ Hid (wr.ownsRow w.heap.size 23 4 u9 (safeL (l0.take k)).length (flatPv (safeL (l0.take k)))) ∧ Hid (Below w.heap.size w wr)) (fun _ u11 _ => n0 - (intOf u11).toNat)
  case atStart => exact ⟨0, by omega, rfl, World.ownsRow_nil _ _ _ _, HBA⟩
  case round =>
    obtain ⟨k, hk, rfl, HO, HB⟩ := hrel
    by_cases hlt : k < n0
    · obtain ⟨⟨pk, pi, pt, pbd⟩, hx⟩ : ∃ x, l0[k]? = some x := ⟨l0[k]'(by have := E0.out; omega), List.getElem?_eq_getElem _⟩
      obtain ⟨bA, oA, hA, hbA, q0, q1, q2, q3⟩ := pv_cells R0.out hx
      subst hA
      have HQ : Hid (∀ w', Below w.heap.size w w' → w'.cell? ⟨bA, oA + k * 4, none⟩ = some (.int .i64 pk) ∧ w'.cell? ⟨bA, oA + k * 4 + 1, none⟩ = some (.int .i64 pi) ∧ w'.cell? ⟨bA, oA + k * 4 + 2, none⟩ = some (.int .i64 pt) ∧ w'.cell? ⟨bA, oA + k * 4 + 3, none⟩ = some (.string pbd)) := fun w' hb => by
        have hc := (below_cells hb).1
        rw [hc _ _ hbA, hc _ _ hbA, hc _ _ hbA, hc _ _ hbA]
        exact ⟨q0, q1, q2, q3⟩
      have hbs := Y0.out _ (List.mem_of_getElem? hx)
      have HVB := Lib.hid hbs
      have hki : (k : Int) < (n0 : Int) := by omega
      have hki2 : (k : Int) ≤ 15 := by omega
      have HS := Lib.hid (safeL_succ hx)
      have HG : Hid (goodB ⟨pk, pi, pt, pbd⟩ = (decide (okP pk pi pt pbd.size) && decide (pk ≠ 1) && decide (2 ≤ pi) && decide (pi ≤ 40))) := rfl
      have HSL : Hid ((safeL (l0.take k)).length ≤ 15) := by
        unfold Hid
        have := safeL_len (l0.take k); rw [List.length_take] at this; omega
      obtain ⟨qa, qb, qc, qd⟩ := HQ.out _ HB.out
      have hval : ∀ v : Bool, decide (okP pk pi pt pbd.size) = v → ∀ w', Calls Try.prog 18 #[pageV pk pi pt pbd] w' fun e w'' => e = .returned (.bool v) ∧ Below w'.heap.size w' w'' := fun v hv w' => by rw [← hv]; exact refvalid_any pk pi pt pbd w' HVB.out
      have HV := Lib.hid hval
      clear hval q0 q1 q2 q3 hx hbs
      by_cases hok : okP pk pi pt pbd.size
      · have HVT := Lib.hid (HV.out true (decide_eq_true hok))
        by_cases p1 : pk = 1
        · have hb1 : (pk == 1) = true := by simp [p1]
          have HN : Hid (goodB ⟨pk, pi, pt, pbd⟩ = false) := by unfold Hid; rw [HG.out]; simp [p1]
          clear p1 hok
          go_wp2_with (go_at_call 18; (refine (HVT.out _).mono ?_); rintro e w1 ⟨rfl, b1⟩; have B1 := HB.out.trans (b1.mono HB.out.size); obtain ⟨f0, f1, f2, f3⟩ := HQ.out _ B1)
          have HO1 : Hid (w1.ownsRow w.heap.size 23 4 u9 (safeL (l0.take (k + 1))).length (flatPv (safeL (l0.take (k + 1))))) := by
            unfold Hid
            rw [HS.out, HN.out, if_neg (by decide), List.append_nil]
            exact own_frm HO.out (S := no) (Frm.of_below b1) (fun _ _ h => h)
          have HB1 := Lib.hid B1
          clear B1 b1 f0 f1 f2 f3 qa qb qc qd
          go_roundw
          case rel => exact ⟨k + 1, by omega, by go_num, HO1, HB1⟩
          case measure => simp [intOf]; omega
        · have hb1 : (pk == 1) = false := by simp [p1]
          by_cases p2 : pi < 2
          · have HN : Hid (goodB ⟨pk, pi, pt, pbd⟩ = false) := by unfold Hid; rw [HG.out]; simp; omega
            clear p1 hok
            go_wp2_with (go_at_call 18; (refine (HVT.out _).mono ?_); rintro e w1 ⟨rfl, b1⟩; have B1 := HB.out.trans (b1.mono HB.out.size); obtain ⟨f0, f1, f2, f3⟩ := HQ.out _ B1)
            have HO1 : Hid (w1.ownsRow w.heap.size 23 4 u9 (safeL (l0.take (k + 1))).length (flatPv (safeL (l0.take (k + 1))))) := by
              unfold Hid
              rw [HS.out, HN.out, if_neg (by decide), List.append_nil]
              exact own_frm HO.out (S := no) (Frm.of_below b1) (fun _ _ h => h)
            have HB1 := Lib.hid B1
            clear B1 b1 f0 f1 f2 f3 qa qb qc qd
            go_roundw
            case rel => exact ⟨k + 1, by omega, by go_num, HO1, HB1⟩
            case measure => simp [intOf]; omega
          · by_cases p3 : 40 < pi
            · have HN : Hid (goodB ⟨pk, pi, pt, pbd⟩ = false) := by unfold Hid; rw [HG.out]; simp; omega
              have p2' : 2 ≤ pi := by omega
              clear p1 hok p2
              go_wp2_with (go_at_call 18; (refine (HVT.out _).mono ?_); rintro e w1 ⟨rfl, b1⟩; have B1 := HB.out.trans (b1.mono HB.out.size); obtain ⟨f0, f1, f2, f3⟩ := HQ.out _ B1)
              have HO1 : Hid (w1.ownsRow w.heap.size 23 4 u9 (safeL (l0.take (k + 1))).length (flatPv (safeL (l0.take (k + 1))))) := by
                unfold Hid
                rw [HS.out, HN.out, if_neg (by decide), List.append_nil]
                exact own_frm HO.out (S := no) (Frm.of_below b1) (fun _ _ h => h)
              have HB1 := Lib.hid B1
              clear B1 b1 f0 f1 f2 f3 qa qb qc qd
              go_roundw
              case rel => exact ⟨k + 1, by omega, by go_num, HO1, HB1⟩
              case measure => simp [intOf]; omega
            · have HN : Hid (goodB ⟨pk, pi, pt, pbd⟩ = true) := by unfold Hid; rw [HG.out]; simp [hok, p1]; omega
              have p2' : 2 ≤ pi := by omega
              have p3' : pi ≤ 40 := by omega
              clear p1 hok p2 p3
              go_wp2_with (first
                | (go_at_call 18; (refine (HVT.out _).mono ?_); rintro e w1 ⟨rfl, b1⟩; have B1 := HB.out.trans (b1.mono HB.out.size); obtain ⟨f0, f1, f2, f3⟩ := HQ.out _ B1; have O1 := (own_frm HO.out (S := no) (Frm.of_below b1) (fun _ _ h => h)).alloc (.cells #[.int .i64 pk, .int .i64 pi, .int .i64 pt, .string pbd] 23); have BA1 := B1.alloc B1.size (.cells #[.int .i64 pk, .int .i64 pi, .int .i64 pt, .string pbd] 23))
                | (at_builtin
                   refine wpList_app rfl (.tmp 82) (.tmp 87) 45 rfl w.heap.size 23 i0 _ 4 40 Try.underlying45 HI0.out HZ0.out HZ1.out HZ2.out rfl (by omega) u9 _ _ rfl O1 _ 1 1 [.int .i64 pk, .int .i64 pi, .int .i64 pt, .string pbd] rfl (by simpa using Rd.new w1 #[.int .i64 pk, .int .i64 pi, .int .i64 pt, .string pbd] 23) rfl (by simp [Value.oneCell']) (by have := HSL.out; unfold maxLen; omega) (by have := HSL.out; omega) BA1.size ?_
                   intro v5 w5 hown5 hg5 hb5 hat5))
              have HO5 : Hid (w5.ownsRow w.heap.size 23 4 v5 (safeL (l0.take (k + 1))).length (flatPv (safeL (l0.take (k + 1))))) := by
                unfold Hid
                rw [HS.out, HN.out, if_pos rfl, flatPv_app, List.length_append]
                exact hown5
              have HB5 := Lib.hid (BA1.trans hb5)
              clear hown5 hg5 hb5 hat5 O1 BA1 B1 f0 f1 f2 f3 qa qb qc qd b1
              go_roundw
              case rel => exact ⟨k + 1, by omega, by go_num, HO5, HB5⟩
              case measure => simp [intOf]; omega
      · have HVF := Lib.hid (HV.out false (decide_eq_false hok))
        have HN : Hid (goodB ⟨pk, pi, pt, pbd⟩ = false) := by unfold Hid; rw [HG.out]; simp [hok]
        clear hok
        go_wp2_with (go_at_call 18; (refine (HVF.out _).mono ?_); rintro e w1 ⟨rfl, b1⟩; have B1 := HB.out.trans (b1.mono HB.out.size); obtain ⟨f0, f1, f2, f3⟩ := HQ.out _ B1)
        have HO1 : Hid (w1.ownsRow w.heap.size 23 4 u9 (safeL (l0.take (k + 1))).length (flatPv (safeL (l0.take (k + 1))))) := by
          unfold Hid
          rw [HS.out, HN.out, if_neg (by decide), List.append_nil]
          exact own_frm HO.out (S := no) (Frm.of_below b1) (fun _ _ h => h)
        have HB1 := Lib.hid B1
        clear B1 b1 f0 f1 f2 f3 qa qb qc qd
        go_roundw
        case rel => exact ⟨k + 1, by omega, by go_num, HO1, HB1⟩
        case measure => simp [intOf]; omega
    · obtain rfl : n0 = k := by omega
      have HOS : Hid (wr.ownsRow w.heap.size 23 4 u9 (safeL l0).length (flatPv (safeL l0))) := by
        have := HO.out
        rw [List.take_of_length_le (by have := E0.out; omega)] at this
        exact this
      have HSL : Hid ((safeL l0).length ≤ 15) := by
        unfold Hid
        have := safeL_len l0; have := E0.out; omega
      clear HO hk hlt
      go_upto_region 9 with (fail)
      rename World => W1
      have HW1 := Lib.hid HB.out
      have HSV := Lib.hid HOS.out
      clear HOS HB
      go_wp2
      go_loopw [10, 12] (fun u10 u12 wr => ∃ k : Nat, k ≤ n1 ∧ u12 = .int .i64 k ∧ Hid (wr.ownsRow W1.heap.size 23 4 u10 (lateN l1 k).length (flatPv (lateN l1 k))) ∧ Hid (Below W1.heap.size W1 wr)) (fun _ u12 _ => n1 - (intOf u12).toNat)
      case atStart => exact ⟨0, by omega, rfl, World.ownsRow_nil _ _ _ _, Below.refl _ _⟩
      case round =>
        obtain ⟨k, hk, rfl, HO, HB⟩ := hrel
        by_cases hlt : k < n1
        · obtain ⟨⟨pk, pi0, pt, pbd⟩, hx⟩ : ∃ x, l1[k]? = some x := ⟨l1[k]'(by have := E1.out; omega), List.getElem?_eq_getElem _⟩
          obtain ⟨bA, oA, hA, hbA, q0, q1, q2, q3⟩ := pv_cells ((R1.out.below HW1.out).below HB.out) hx
          subst hA
          have hbs := Y1.out _ (List.mem_of_getElem? hx)
          have HVB := Lib.hid hbs
          have hki : (k : Int) < (n1 : Int) := by omega
          have hki2 : (k : Int) ≤ 15 := by omega
          have HS := Lib.hid (lateN_succ hx)
          obtain ⟨pi, hpi⟩ : ∃ pi : Int, 41 + (k : Int) = pi := ⟨_, rfl⟩
          have HLA : Hid (lateAt ⟨pk, pi0, pt, pbd⟩ k = ⟨pk, pi, pt, pbd⟩) := by unfold Hid lateAt; rw [hpi]
          have HSL : Hid ((lateN l1 k).length ≤ 15) := by
            unfold Hid
            have := lateN_len l1 k; omega
          have hval : ∀ v : Bool, decide (okP pk pi pt pbd.size) = v → ∀ w', Calls Try.prog 18 #[pageV pk pi pt pbd] w' fun e w'' => e = .returned (.bool v) ∧ Below w'.heap.size w' w'' := fun v hv w' => by rw [← hv]; exact refvalid_any pk pi pt pbd w' HVB.out
          have HV := Lib.hid hval
          clear hval hx hbs
          by_cases hok : okP pk pi pt pbd.size
          · have HVT := Lib.hid (HV.out true (decide_eq_true hok))
            by_cases p1 : pk = 1
            · have hb1 : (pk != 1) = false := by simp [p1]
              have HN : Hid (lateB ⟨pk, pi, pt, pbd⟩ = false) := by unfold Hid lateB; simp [p1]
              clear p1 hok
              go_wp2_with (go_at_call 18; (try rw [hpi]); (refine (HVT.out _).mono ?_); go_loud (rintro e w1 ⟨rfl, b1⟩; have bx := (Below.refl wr.heap.size wr).alloc (Nat.le_refl _) (.cells #[.int .i64 pk, .int .i64 pi, .int .i64 pt, .string pbd] 23); have b1x := b1.mono (show wr.heap.size ≤ (wr.alloc (.cells #[.int .i64 pk, .int .i64 pi, .int .i64 pt, .string pbd] 23)).heap.size by simp); have B1 := (HB.out.trans (bx.mono HB.out.size)).trans (b1.mono (Nat.le_trans HB.out.size bx.size)); obtain ⟨⟨f0, f1, f2, f3⟩, _⟩ := ((Blk.new wr 23 #[.int .i64 pk, .int .i64 pi, .int .i64 pt, .string pbd]).below b1).four; have O1 := (own_frm HO.out (S := no) (Frm.of_below (bx.trans b1x)) (fun _ _ h => h)).alloc (.cells #[.int .i64 pk, .int .i64 pi, .int .i64 pt, .string pbd] 23); have BA1 := B1.alloc B1.size (.cells #[.int .i64 pk, .int .i64 pi, .int .i64 pt, .string pbd] 23)))
              have HO1 : Hid (w1.ownsRow W1.heap.size 23 4 u10 (lateN l1 (k + 1)).length (flatPv (lateN l1 (k + 1)))) := by
                unfold Hid
                rw [HS.out, HLA.out, HN.out, if_neg (by decide), List.append_nil]
                exact own_frm HO.out (S := no) (Frm.of_below (bx.trans b1x)) (fun _ _ h => h)
              have HB1 := Lib.hid B1
              clear B1 b1 f0 f1 f2 f3 q0 q1 q2 q3 O1 BA1 bx b1x
              go_roundw
              case rel => exact ⟨k + 1, by omega, by go_num, HO1, HB1⟩
              case measure => simp [intOf]; omega
            · have hb1 : (pk != 1) = true := by simp [p1]
              have HN : Hid (lateB ⟨pk, pi, pt, pbd⟩ = true) := by
                unfold Hid lateB
                rw [decide_eq_true (show (⟨pk, pi, pt, pbd⟩ : Pv).ok from hok), decide_eq_true p1]; rfl
              clear p1 hok
              go_wp2_with (first
                | (go_at_call 18; (try rw [hpi]); (refine (HVT.out _).mono ?_); rintro e w1 ⟨rfl, b1⟩; have bx := (Below.refl wr.heap.size wr).alloc (Nat.le_refl _) (.cells #[.int .i64 pk, .int .i64 pi, .int .i64 pt, .string pbd] 23); have b1x := b1.mono (show wr.heap.size ≤ (wr.alloc (.cells #[.int .i64 pk, .int .i64 pi, .int .i64 pt, .string pbd] 23)).heap.size by simp); have B1 := (HB.out.trans (bx.mono HB.out.size)).trans (b1.mono (Nat.le_trans HB.out.size bx.size)); obtain ⟨⟨f0, f1, f2, f3⟩, _⟩ := ((Blk.new wr 23 #[.int .i64 pk, .int .i64 pi, .int .i64 pt, .string pbd]).below b1).four; have O1 := (own_frm HO.out (S := no) (Frm.of_below (bx.trans b1x)) (fun _ _ h => h)).alloc (.cells #[.int .i64 pk, .int .i64 pi, .int .i64 pt, .string pbd] 23); have BA1 := B1.alloc B1.size (.cells #[.int .i64 pk, .int .i64 pi, .int .i64 pt, .string pbd] 23))
                | (at_builtin
                   refine wpList_app rfl (.tmp 109) (.tmp 111) 45 rfl W1.heap.size 23 i0 _ 4 40 Try.underlying45 HI0.out HZ0.out HZ1.out HZ2.out rfl (by omega) u10 _ _ rfl O1 _ 1 1 [.int .i64 pk, .int .i64 pi, .int .i64 pt, .string pbd] rfl (by simpa using Rd.new w1 #[.int .i64 pk, .int .i64 pi, .int .i64 pt, .string pbd] 23) rfl (by simp [Value.oneCell']) (by have := HSL.out; unfold maxLen; omega) (by have := HSL.out; omega) BA1.size ?_
                   intro v5 w5 hown5 hg5 hb5 hat5))
              have HO5 : Hid (w5.ownsRow W1.heap.size 23 4 v5 (lateN l1 (k + 1)).length (flatPv (lateN l1 (k + 1)))) := by
                unfold Hid
                rw [HS.out, HLA.out, HN.out, if_pos rfl, flatPv_app, List.length_append]
                exact hown5
              have HB5 := Lib.hid (BA1.trans hb5)
              clear hown5 hg5 hb5 hat5 O1 BA1 B1 f0 f1 f2 f3 q0 q1 q2 q3 b1
              go_roundw
              case rel => exact ⟨k + 1, by omega, by go_num, HO5, HB5⟩
              case measure => simp [intOf]; omega
          · have HVF := Lib.hid (HV.out false (decide_eq_false hok))
            have HN : Hid (lateB ⟨pk, pi, pt, pbd⟩ = false) := by
              unfold Hid lateB
              rw [decide_eq_false (show ¬ (⟨pk, pi, pt, pbd⟩ : Pv).ok from hok)]; rfl
            clear hok
            go_wp2_with (go_at_call 18; (try rw [hpi]); (refine (HVF.out _).mono ?_); go_loud (rintro e w1 ⟨rfl, b1⟩; have bx := (Below.refl wr.heap.size wr).alloc (Nat.le_refl _) (.cells #[.int .i64 pk, .int .i64 pi, .int .i64 pt, .string pbd] 23); have b1x := b1.mono (show wr.heap.size ≤ (wr.alloc (.cells #[.int .i64 pk, .int .i64 pi, .int .i64 pt, .string pbd] 23)).heap.size by simp); have B1 := (HB.out.trans (bx.mono HB.out.size)).trans (b1.mono (Nat.le_trans HB.out.size bx.size)); obtain ⟨⟨f0, f1, f2, f3⟩, _⟩ := ((Blk.new wr 23 #[.int .i64 pk, .int .i64 pi, .int .i64 pt, .string pbd]).below b1).four; have O1 := (own_frm HO.out (S := no) (Frm.of_below (bx.trans b1x)) (fun _ _ h => h)).alloc (.cells #[.int .i64 pk, .int .i64 pi, .int .i64 pt, .string pbd] 23); have BA1 := B1.alloc B1.size (.cells #[.int .i64 pk, .int .i64 pi, .int .i64 pt, .string pbd] 23)))
            have HO1 : Hid (w1.ownsRow W1.heap.size 23 4 u10 (lateN l1 (k + 1)).length (flatPv (lateN l1 (k + 1)))) := by
              unfold Hid
              rw [HS.out, HLA.out, HN.out, if_neg (by decide), List.append_nil]
              exact own_frm HO.out (S := no) (Frm.of_below (bx.trans b1x)) (fun _ _ h => h)
            have HB1 := Lib.hid B1
            clear B1 b1 f0 f1 f2 f3 q0 q1 q2 q3 O1 BA1 bx b1x
            go_roundw
            case rel => exact ⟨k + 1, by omega, by go_num, HO1, HB1⟩
            case measure => simp [intOf]; omega
        · obtain rfl : n1 = k := by omega
          have HOR : Hid (wr.ownsRow W1.heap.size 23 4 u10 (lateN l1 n1).length (flatPv (lateN l1 n1))) := HO.out
          have HSV2 := Lib.hid (own_frm HSV.out (S := no) (Frm.of_below HB.out) (fun _ _ h => h))
          have HW2 := Lib.hid (HW1.out.trans (HB.out.mono HW1.out.size))
          clear HO hk hlt HB HSV HW1
          go_upto_region 16 with (fail)
          rename World => W2
          have HSL2 : Hid ((lateN l1 n1).length ≤ 15) := by
            unfold Hid
            have := lateN_len l1 n1; omega
          obtain ⟨As, cs, rfl, hcs⟩ := own_form HSV2.out
          obtain ⟨Ar, cr, rfl, hcr⟩ := own_form HOR.out
          have HRS := Lib.hid (Rd.of_own HSV2.out)
          have HRR := Lib.hid (Rd.of_own HOR.out)
          have HAS : Hid (∀ a, As = some a → a.block < W2.heap.size) := fun a ha => (HSV2.out.lt a.block (by rw [ha]; rfl)).2
          have HAR : Hid (∀ a, Ar = some a → a.block < W2.heap.size) := fun a ha => (HOR.out.lt a.block (by rw [ha]; rfl)).2
          obtain ⟨safe, hsafe⟩ : ∃ s, s = safeL l0 := ⟨_, rfl⟩
          obtain ⟨rest, hrest⟩ : ∃ s, s = lateN l1 n1 := ⟨_, rfl⟩
          have hgs : ∀ p ∈ safe, p.put = true ∧ p.i ≤ 40 := fun p hp => safeL_mem (hsafe ▸ hp)
          have hgb : ∀ p ∈ safe, p.bd.size ≤ 232 := fun p hp => safeL_body (hsafe ▸ hp)
          have hgr : ∀ p ∈ rest, p.put = true ∧ 41 ≤ p.i.toNat ∧ p.i.toNat < 41 + n1 ∧ p.bd.size ≤ 232 := fun p hp => lateN_mem (hrest ▸ hp)
          rw [← hsafe] at HSL HRS
          rw [← hrest] at HSL2 HRR
          simp only [← hsafe, ← hrest]
          obtain ⟨ms, hms⟩ : ∃ ms, ms = safe.length := ⟨_, rfl⟩
          obtain ⟨mr, hmr⟩ : ∃ mr, mr = rest.length := ⟨_, rfl⟩
          simp only [← hms, ← hmr]
          have hms15 : ms ≤ 15 := by rw [hms]; exact HSL.out
          have hmr15 : mr ≤ 15 := by rw [hmr]; exact HSL2.out
          obtain ⟨d1, d2, d3, d4, e2, kk, hF⟩ := keep_facts hgs (fun p hp => ⟨(hgr p hp).1, (hgr p hp).2.1, by have := (hgr p hp).2.2.1; omega⟩) HSL.out HSL2.out keep
          have HF := Lib.hid hF
          have HMS := Lib.hid hms
          have HMR := Lib.hid hmr
          have HGS := Lib.hid hgs
          have HGB := Lib.hid hgb
          have HGR := Lib.hid hgr
          have HM15 := Lib.hid hms15
          have hmsi : (ms : Int) ≤ 15 := by omega
          have HMR15 := Lib.hid hmr15
          have HOP0 : Hid (openE (newD 0) stN = 0) := kD_open (N := []) (S := []) (b := false) (W := []) stN_ok
          clear hF hms hmr hgs hgb hgr hms15 hmr15 hcs hcr hsafe hrest HOR HSV2
          go_upto_region 27 with (first
            | (go_at_call 9; (refine (lnew 0 _).mono ?_); rintro e w3 ⟨g, rfl, L3, b3⟩; have HL3 := Lib.hid L3; have HB3 := Lib.hid b3; have HO3 := Lib.hid (stopen_yes (s := stN) w3 L3 (by decide) HOP0.out); clear L3 b3)
            | (go_at_call 8; (refine HO3.out.mono ?_); rintro e w4 ⟨gs, rfl, S4, hgs, b4⟩
               have HB4 := Lib.hid (HB3.out.trans (b4.mono HB3.out.size))
               have HP4 := Lib.hid (kk_put (A := As) (c := cs) (m := ms) (l := safe) 40 w4 S4 (HL3.out.below b4) fine_new (HRS.out.below HB4.out) HMS.out.symm HM15.out HAS.out HGB.out (fun p hp => by have := (HGS.out p hp).2; omega) (by omega) rfl HF.out.put)
               clear S4 hgs b4 HO3)
            | (go_at_call 11; (with_reducible refine HP4.out.mono ?_); rintro e w5 ⟨rfl, L5, S5, B5⟩
               have HB5 := Lib.hid (HB4.out.trans B5)
               have HS5 := Lib.hid (kk_sync w5 S5 L5 HF.out.fine1 HF.out.sync HF.out.e2)
               clear L5 S5 B5 HP4)
            | (go_at_call 14; (with_reducible refine HS5.out.mono ?_); rintro e w6 ⟨rfl, L6, S6, B6⟩
               have HB6 := Lib.hid (HB5.out.trans B6)
               have HP6 := Lib.hid (kk_put (A := Ar) (c := cr) (m := mr) (l := rest) 60 w6 S6 L6 HF.out.fine2 (HRR.out.below HB6.out) HMR.out.symm HMR15.out HAR.out (fun p hp => (HGR.out p hp).2.2.2) (fun p hp => by have := (HGR.out p hp).2.2.1; omega) (by omega) HF.out.ws2 HF.out.put2)
               clear L6 S6 B6)
            | (go_at_call 11; (with_reducible refine HP6.out.mono ?_); rintro e w7 ⟨rfl, L7, S7, B7⟩
               have HB7 := Lib.hid (HB6.out.trans B7)
               have HC7 := Lib.hid (lcrash (c := c2) L7 HF.out.fine3 ((R2.out.below HW2.out).below HB7.out) E2.out (by omega) (fun h a ha => .inl (by
                 obtain ⟨ad, e, hc⟩ := (R2.out.below HW2.out) 0 _ (List.getElem?_eq_getElem (by rw [flatZ_len]; have := E2.out; omega))
                 rw [ha] at e; injection e with e; subst e
                 have := block_lt_of_cell hc
                 rw [add_block] at this; exact this)) HF.out.crash)
               clear L7 S7 B7)
            | (go_at_call 10; (with_reducible refine HC7.out.mono ?_); rintro e w8 ⟨rfl, L8, B8⟩
               have HB8 := Lib.hid (HB7.out.trans B8)
               have HR8 := Lib.hid (lrestore L8)
               clear L8 B8)
            | (go_at_call 19; (with_reducible refine HR8.out.mono ?_); rintro e w9 ⟨rfl, L9, B9⟩
               have HB9 := Lib.hid (HB8.out.trans B9)
               have HL9 := Lib.hid L9
               have HO9 := Lib.hid (stopen_yes (s := stN) w9 L9 (by decide) HF.out.opens)
               clear L9 B9)
            | (go_at_call 8; (refine HO9.out.mono ?_); rintro e w10 ⟨gt, rfl, S10, hgt, b10⟩
               have HB10 := Lib.hid (HB9.out.trans (b10.mono (Nat.le_trans HB9.out.size (Nat.le_refl _))))
               have HL10 := Lib.hid (HL9.out.below b10)
               have HS10 := Lib.hid S10
               have HGT : Hid (W2.heap.size ≤ gt) := Nat.le_trans HB9.out.size hgt
               clear S10 hgt b10))
          clear HP6 HC7 HR8 HL9 HO9 HS5 HL3
          have hst : (stN.toList == [97]) = true := by first | (unfold stN; go_simp; done) | (unfold stN; simp [go_sem]; done) | (simp [stN, ByteArray.toList, ByteArray.toList.loop, ByteArray.size, ByteArray.get!])
          clear hst
          go_wp2
          go_loopw [19] (fun u19 wr => ∃ (k n : Nat), k ≤ ms ∧ u19 = .int .i64 k ∧ n ≤ k ∧ Hid (LiveAt wr W2.heap.size (restoreD d4) g) ∧ Hid (SBlk wr gt g stN n) ∧ Hid (Below W2.heap.size W2 wr)) (fun u19 _ => ms - (intOf u19).toNat)
          case atStart => exact ⟨0, 0, by omega, rfl, by omega, HL10, HS10, HB10⟩
          case round =>
            obtain ⟨k, n, hk, rfl, hn, HL, HS, HB⟩ := hrel
            rename World => W3
            have HN15 : Hid (n ≤ 1000) := by unfold Hid; have := HM15.out; omega
            by_cases hlt : k < ms
            · obtain ⟨⟨pk, pi, pt, pbd⟩, hx⟩ : ∃ x, safe[k]? = some x := ⟨safe[k]'(by have := HMS.out; omega), List.getElem?_eq_getElem _⟩
              obtain ⟨bA, oA, hA, hbA, _⟩ := pv_cells HRS.out hx
              subst hA
              have hki : (k : Int) < (ms : Int) := by omega
              have hki2 : (k : Int) + 1 ≤ (ms : Int) := by omega
              have HX := Lib.hid hx
              have HNK := Lib.hid hn
              clear hbA hx hn
              go_wp2
              go_loopw [20, 21] (fun u20 u21 wr => ∃ j : Nat, k + 1 ≤ j ∧ j ≤ ms ∧ u21 = .int .i64 j ∧ u20 = .bool (lastB safe k j pi) ∧ Hid (Qt W3 wr)) (fun _ u21 _ => ms - (intOf u21).toNat)
              case atStart => exact ⟨k + 1, by omega, by omega, by go_num, by rw [lastB_start], Qt.refl _⟩
              case round =>
                obtain ⟨j, hj1, hj, rfl, rfl, HQT⟩ := hrel
                have HBW := Lib.hid (HB.out.trans (HQT.out.below W2.heap.size))
                by_cases hlt2 : j < ms
                · obtain ⟨⟨rk, ri, rt, rbd⟩, hy⟩ : ∃ x, safe[j]? = some x := ⟨safe[j]'(by have := HMS.out; omega), List.getElem?_eq_getElem _⟩
                  obtain ⟨q0, q1, q2, q3⟩ := pv_at (HRS.out.below HBW.out) HX.out
                  obtain ⟨s0, s1, s2, s3⟩ := pv_at (HRS.out.below HBW.out) hy
                  have hji : (j : Int) < (ms : Int) := by omega
                  have HSU := Lib.hid (lastB_succ (i := pi) hj1 hy)
                  clear hy
                  cases hl : lastB safe k j pi
                  · rw [hl] at HSU
                    have HL0 : Hid (lastB safe k (j + 1) pi = false) := by unfold Hid; rw [HSU.out]; rfl
                    clear hl
                    go_wp2
                    go_quiet (fail)
                    go_wp2
                    go_roundw
                    case rel => exact ⟨j + 1, by omega, by omega, by go_num, by rw [HL0.out], HQT.out.trans (Qt.drewN _ _)⟩
                    case measure => simp [intOf]; omega
                  · rw [hl] at HSU
                    by_cases he : ri = pi
                    · have hb : (ri != pi) = false := by simp [he]
                      have HL0 : Hid (lastB safe k (j + 1) pi = false) := by unfold Hid; rw [HSU.out]; simp [he]
                      clear hl he
                      go_wp2
                      go_quiet (fail)
                      go_wp2
                      go_roundw
                      case rel => exact ⟨j + 1, by omega, by omega, by go_num, by rw [HL0.out], HQT.out.trans (Qt.drewN _ _)⟩
                      case measure => simp [intOf]; omega
                    · have hb : (ri != pi) = true := by simp [he]
                      have HL0 : Hid (lastB safe k (j + 1) pi = true) := by unfold Hid; rw [HSU.out]; simp [he]
                      clear hl he
                      go_wp2
                      go_quiet (fail)
                      go_wp2
                      go_roundw
                      case rel => exact ⟨j + 1, by omega, by omega, by go_num, by rw [HL0.out], HQT.out.trans (Qt.drewN _ _)⟩
                      case measure => simp [intOf]; omega
                · obtain rfl : ms = j := by omega
                  rename World => W4
                  have HL4 := Lib.hid (HL.out.below (HQT.out.below _))
                  have HS4 := Lib.hid (HS.out.below (HQT.out.below _))
                  obtain ⟨q0, q1, q2, q3⟩ := pv_at (HRS.out.below HBW.out) HX.out
                  clear HL HS HB HQT
                  cases hl : lastB safe k ms pi
                  · obtain ⟨⟨qk, qi, qt, qbd⟩, e0, hge⟩ : ∃ q e0, getS (restoreD d4) stN pi = (q, e0) := ⟨_, _, rfl⟩
                    have HGET := Lib.hid (kk_get pi W4 HS4.out HL4.out HN15.out HGT.out hge)
                    clear hl hge
                    go_upto_region 36 with (go_at_call 6; (with_reducible refine HGET.out.mono ?_); rintro e w5 ⟨rfl, ⟨n', hn', S5⟩, L5, B5⟩; have HN5 := Lib.hid hn'; have HS5 := Lib.hid S5; have HL5 := Lib.hid L5; have HB5 := Lib.hid (HBW.out.trans B5); clear hn' S5 L5 B5)
                    go_quiet (fail)
                    go_wp2
                    have ba : Below w5.heap.size w5 (w5.alloc (.cells #[.int .i64 qk, .int .i64 qi, .int .i64 qt, .string qbd] 23)) := (Below.refl _ _).alloc (Nat.le_refl _) _
                    have bq := fun nq => below_drewN ba nq
                    go_roundw
                    case rel => exact ⟨k + 1, n', by omega, by go_num, by have := HN5.out; have := HNK.out; omega, HL5.out.below (bq _), HS5.out.below (bq _), HB5.out.trans ((bq _).mono HL5.out.1)⟩
                    case measure => simp [intOf]; omega
                  · have hge := HF.out.tells.1 k _ HX.out (by rw [HMS.out] at hl; exact lastB_end hl)
                    have HGET := Lib.hid (kk_get pi W4 HS4.out HL4.out HN15.out HGT.out hge)
                    clear hl hge
                    go_upto_region 36 with (go_at_call 6; (with_reducible refine HGET.out.mono ?_); rintro e w5 ⟨rfl, ⟨n', hn', S5⟩, L5, B5⟩; have HN5 := Lib.hid hn'; have HS5 := Lib.hid S5; have HL5 := Lib.hid L5; have HB5 := Lib.hid (HBW.out.trans B5); clear hn' S5 L5 B5)
                    have ba : Below w5.heap.size w5 (w5.alloc (.cells #[.int .i64 pk, .int .i64 pi, .int .i64 pt, .string pbd] 23)) := (Below.refl _ _).alloc (Nat.le_refl _) _
                    obtain ⟨s0, s1, s2, s3⟩ := pv_at (HRS.out.below (HB5.out.trans (ba.mono HL5.out.1))) HX.out
                    have bq := fun nq => below_drewN ba nq
                    have HBQ := Lib.hid bq
                    clear bq ba
                    go_quiet (fail)
                    go_wp2
                    go_roundw
                    case rel => exact ⟨k + 1, n', by omega, by go_num, by have := HN5.out; have := HNK.out; omega, HL5.out.below (HBQ.out _), HS5.out.below (HBQ.out _), HB5.out.trans ((HBQ.out _).mono HL5.out.1)⟩
                    case measure => simp [intOf]; omega
            · obtain rfl : ms = k := by omega
              obtain ⟨⟨qk, qi, qt, qbd⟩, e0, hge⟩ : ∃ q e0, getS (restoreD d4) stN ix = (q, e0) := ⟨_, _, rfl⟩
              have HGET := Lib.hid (kk_get ix W3 HS.out HL.out HN15.out HGT.out hge)
              have HE0 : Hid (ix < 41 → inB safe safe.length ix = false → e0 ≠ 0) := fun h hin => by
                obtain ⟨e, h1, h2⟩ := HF.out.tells.2 ix h (inB_end hin)
                rw [hge] at h1
                injection h1 with _ h1
                rw [h1]; exact h2
              have HBW := Lib.hid HB.out
              clear hge HL HS HB
              go_upto_region 40 with (go_at_call 6; (with_reducible refine HGET.out.mono ?_); rintro e w5 ⟨rfl, _, L5, B5⟩; have HB5 := Lib.hid (HBW.out.trans B5); have HL5 := Lib.hid L5; clear L5 B5)
              have HB6 := Lib.hid (HB5.out.trans (((Below.refl _ _).alloc (Nat.le_refl _) (.cells #[.int .i64 qk, .int .i64 qi, .int .i64 qt, .string qbd] 23)).mono HL5.out.1))
              generalize w5.alloc (.cells #[.int .i64 qk, .int .i64 qi, .int .i64 qt, .string qbd] 23) = W6 at HB6 ⊢
              clear HB5 HL5 HGET
              go_wp2
              go_loopw [26, 27] (fun u26 u27 wr => ∃ k : Nat, k ≤ ms ∧ u27 = .int .i64 k ∧ u26 = .bool (inB safe k ix) ∧ Hid (Qt W6 wr)) (fun _ u27 _ => ms - (intOf u27).toNat)
              case atStart => exact ⟨0, by omega, rfl, rfl, Qt.refl _⟩
              case round =>
                obtain ⟨k, hk, rfl, rfl, HQT⟩ := hrel
                have HBX := Lib.hid (HB6.out.trans (HQT.out.below W2.heap.size))
                by_cases hlt3 : k < ms
                · obtain ⟨⟨pk, pi, pt, pbd⟩, hx⟩ : ∃ x, safe[k]? = some x := ⟨safe[k]'(by have := HMS.out; omega), List.getElem?_eq_getElem _⟩
                  obtain ⟨bA, oA, hA, hbA, _⟩ := pv_cells HRS.out hx
                  subst hA
                  obtain ⟨q0, q1, q2, q3⟩ := pv_at (HRS.out.below HBX.out) hx
                  have hki : (k : Int) < (ms : Int) := by omega
                  have HSU := Lib.hid (inB_succ (i := ix) hx)
                  clear hx hbA
                  cases hl : inB safe k ix
                  · rw [hl] at HSU
                    by_cases he : pi = ix
                    · have hb : (pi == ix) = true := by simp [he]
                      have HL0 : Hid (inB safe (k + 1) ix = true) := by unfold Hid; rw [HSU.out]; simp [he]
                      clear hl he
                      go_wp2
                      go_roundw
                      case rel => exact ⟨k + 1, by omega, by go_num, by rw [HL0.out], HQT⟩
                      case measure => simp [intOf]; omega
                    · have hb : (pi == ix) = false := by simp [he]
                      have HL0 : Hid (inB safe (k + 1) ix = false) := by unfold Hid; rw [HSU.out]; simp [he]
                      clear hl he
                      go_wp2
                      go_roundw
                      case rel => exact ⟨k + 1, by omega, by go_num, by rw [HL0.out], HQT⟩
                      case measure => simp [intOf]; omega
                  · rw [hl] at HSU
                    have HL0 : Hid (inB safe (k + 1) ix = true) := by unfold Hid; rw [HSU.out]; simp
                    clear hl
                    go_wp2
                    go_roundw
                    case rel => exact ⟨k + 1, by omega, by go_num, by rw [HL0.out], HQT⟩
                    case measure => simp [intOf]; omega
                · obtain rfl : ms = k := by omega
                  have HFIN := Lib.hid (HW2.out.trans (HBX.out.mono HW2.out.size))
                  rename World => W7
                  cases hl : inB safe ms ix
                  · by_cases h41 : 41 ≤ ix
                    · clear hl
                      go_wp2
                      go_ret
                      exact ⟨rfl, HFIN.out⟩
                    · have h41' : ix < 41 := by omega
                      have hne : e0 ≠ 0 := HE0.out h41' (by rw [HMS.out] at hl; exact hl)
                      have hb : (e0 != 0) = true := by simp [hne]
                      clear hl h41 hne
                      go_wp2
                      go_ret
                      exact ⟨rfl, HFIN.out⟩
                  · clear hl
                    go_wp2
                    go_ret
                    exact ⟨rfl, HFIN.out⟩
theorem storekeeps_walk (A0 A1 A2 : Option Addr) (n0 c0 n1 c1 n2 c2 : Nat) (l0 l1 : List Pv) (keep : List Int) (ix : Int) (w : World) (r0 : Rd w A0 (flatPv l0)) (e0 : l0.length = n0) (r1 : Rd w A1 (flatPv l1)) (e1 : l1.length = n1) (r2 : Rd w A2 (flatZ keep)) (e2 : keep.length = n2)
    (y0 : ∀ p ∈ l0, p.bd.size ≤ 9223372036854775807) (y1 : ∀ p ∈ l1, p.bd.size ≤ 9223372036854775807) :
    Calls Try.prog 4 #[.slice A0 n0 c0, .slice A1 n1 c1, .slice A2 n2 c2, .int .i64 ix] w fun e w' => e = .returned (.bool true) ∧ Below w.heap.size w w' := by
  by_cases h : 15 < (n0 : Int) ∨ ((n0 : Int) ≤ 15 ∧ 15 < (n1 : Int)) ∨ ((n0 : Int) ≤ 15 ∧ (n1 : Int) ≤ 15 ∧ 200 < (n2 : Int))
  · exact keeps_big A0 A1 A2 n0 c0 n1 c1 n2 c2 ix w h
  · exact keeps_main A0 A1 A2 n0 c0 n1 c1 n2 c2 l0 l1 keep ix w r0 e0 r1 e1 r2 e2 y0 y1 (by omega) (by omega) (by omega)
end Go.Proofs.Ytkgcihhpcbodnaa
