/-
  What Put and Drop of items give. Conditions: the items are right; no more than a million.
-/
import Derived.Test.YtldkhhipfoeckaaItemInsert
namespace Go.Proofs.Ytldkhhipfoeckaa
open Go Go.RowKit
attribute [local go_sem] cell_set_if

/-- Items with one put in its place; with one dropped. -/
def putL (ks : List Im) (x : Im) (r : Nat) : List Im := if hasI ks x.key r = true then ks.set r x else ks.take r ++ [x] ++ ks.drop r
def dropL (ks : List Im) (key : ByteArray) (r : Nat) : List Im := if hasI ks key r = true then ks.take r ++ ks.drop (r + 1) else ks
theorem hasI_lt {ks : List Im} {key : ByteArray} {r : Nat} (h : hasI ks key r = true) : r < ks.length := by
  rcases Nat.lt_or_ge r ks.length with h1 | h1
  · exact h1
  · rw [hasI_no h1] at h; cases h
theorem flatI_put (xs : List Im) (k : Nat) (x : Im) : (((flatI xs).set (k * 3) (.string x.key)).set (k * 3 + 1) (.string x.val)).set (k * 3 + 2) (.int .i64 x.kind) = flatI (xs.set k x) := by
  induction xs generalizing k with
  | nil => rfl
  | cons y ys ih =>
    have e : ∀ (z : Im) zs, flatI (z :: zs) = .string z.key :: .string z.val :: .int .i64 z.kind :: flatI zs := fun _ _ => rfl
    cases k with
    | zero => rw [e]; rfl
    | succ k =>
      rw [e, List.set_cons_succ (xs := ys), e, ← ih k, show (k + 1) * 3 = k * 3 + 1 + 1 + 1 by omega]
      rfl
set_option maxRecDepth 100000 in
set_option maxHeartbeats 2000000 in
theorem iput_any (A : Option Addr) (n c : Nat) (ks : List Im) (x : Im) (w : World) (hr : Rd w A (flatI ks)) (hn : ks.length = n) (hm : n ≤ 100000) (hR : RightI ks) (r : Nat) (hf : FindI ks x.key r) :
    Calls Try.prog 67 #[.slice A n c, itemV x] w fun e w' => MadeI w.heap.size e w' (putL ks x r) ∧ Below w.heap.size w w' := by
  have K0 : Blk (w.alloc (.cells #[.string x.key, .string x.val, .int .i64 x.kind] 108)) w.heap.size 108 #[.string x.key, .string x.val, .int .i64 x.kind] := Blk.new _ _ _
  have B0 : Below w.heap.size w (w.alloc (.cells #[.string x.key, .string x.val, .int .i64 x.kind] 108)) := (Below.refl _ _).alloc (Nat.le_refl _) _
  have hFind : ∀ w, Rd w A (flatI ks) → Calls Try.prog 69 #[.slice A n c, .string x.key] w fun e w' => e = .returned (.tuple #[.int .i64 r, .bool (hasI ks x.key r)]) ∧ Below w.heap.size w w' := fun w hr => ifind_any A n c ks x.key w hr hn (by omega) hR r hf
  have hClone := fun w hr => clone_items w A n c ks hr hn (by omega)
  have HFind := Lib.hid hFind
  have HClone := Lib.hid hClone
  have HR := Lib.hid hr
  have hrn : r ≤ n := by rw [← hn]; exact hf.le
  have HN := Lib.hid hn
  have c0 := K0.cell 0
  have c1 := K0.cell 1
  have c2 := K0.cell 2
  simp at c0 c1 c2
  have hrni : (r : Int) ≤ (n : Int) := by omega
  have hmi : (n : Int) ≤ 100000 := by omega
  obtain ⟨Rl, hRl⟩ : ∃ Rl, Rl = putL ks x r := ⟨_, rfl⟩
  rw [← hRl]
  unfold putL at hRl
  cases hh : hasI ks x.key r
  · rw [hh, if_neg (by simp)] at hRl
    rw [hh] at HFind
    have HH := Lib.hid hh
    have HRL := Lib.hid hRl
    clear hRl
    have hrr : r = n ∨ r < n := by omega
    clear hFind hClone hr hn hf hh
    go_enter Try.func67, Try.ntmps67
    go_wp2_with (first
      | (go_at_call 69; refine (HFind.out _ (HR.out.below B0)).mono ?_; rintro e w1 ⟨rfl, b1⟩; have B1 := below_of b1 B0 B0.size; have K1 := K0.below b1; have d0 := K1.cell 0; have d1 := K1.cell 1; have d2 := K1.cell 2; simp at d0 d1 d2)
      | (go_at_call 127; refine (HClone.out _ (HR.out.below B1)).mono ?_; rintro e w2 ⟨B, d, rfl, ho2, b2⟩; have B2 := below_of b2 B1 B1.size; have K2 := K1.below b2; have e0 := K2.cell 0; have e1 := K2.cell 1; have e2 := K2.cell 2; simp at e0 e1 e2))
    have hb2 : w.heap.size ≤ w1.heap.size := B1.size
    have hlt : w.heap.size < w2.heap.size := K2.lt
    obtain ⟨b, hbq⟩ : ∃ b, b = w2.heap.size := ⟨_, rfl⟩
    have KN : Blk (w2.alloc (.cells #[.string x.key, .string x.val, .int .i64 x.kind] 108)) b 108 #[.string x.key, .string x.val, .int .i64 x.kind] := by rw [hbq]; exact Blk.new _ _ _
    have ON := ho2.alloc (.cells #[.string x.key, .string x.val, .int .i64 x.kind] 108)
    have BN := B2.alloc B2.size (.cells #[.string x.key, .string x.val, .int .i64 x.kind] 108)
    have HBQ := Lib.hid hbq
    have hbn : w1.heap.size ≤ (w2.alloc (.cells #[.string x.key, .string x.val, .int .i64 x.kind] 108)).heap.size := by have := b2.size; simp; omega
    rw [← hbq]
    clear hbq
    generalize w2.alloc (.cells #[.string x.key, .string x.val, .int .i64 x.kind] 108) = W at KN ON BN hbn ⊢
    rcases hrr with h | h
    · subst h
      have hl : (ks.take r ++ [x] ++ ks.drop r) = ks ++ [x] := by rw [List.take_of_length_le (by rw [HN.out]; exact Nat.le_refl _), List.drop_of_length_le (by rw [HN.out]; exact Nat.le_refl _), List.append_nil]
      have HL := Lib.hid hl
      have hI := iinsert_end w1.heap.size r d B b x ks W ON KN hbn (by omega)
      have HI := Lib.hid hI
      clear hl hI
      go_wp2_with (go_at_call 132; refine HI.out.mono ?_; rintro e w3 ⟨B3, d3, rfl, ho3, b3⟩)
      go_ret
      exact ⟨⟨B3, r + 1, d3, by rw [HRL.out, HL.out, List.length_append, HN.out]; rfl, rfl, by rw [HRL.out, HL.out]; exact own_base ho3 hb2⟩, below_of b3 BN hb2⟩
    · obtain ⟨g, d', hv, hgl, _⟩ := ho2.form (by omega)
      have hB : B = some ⟨g, 0, none⟩ := by injection hv
      subst hB
      have hgb : b ≠ g := by have := HBQ.out; have h3 := (ho2.lt g rfl).2; omega
      have hlen : (ks.take r ++ [x] ++ ks.drop r).length = n + 1 := by rw [List.length_append, List.length_append, List.length_take, List.length_drop, HN.out]; simp; omega
      have HLEN := Lib.hid hlen
      clear hlen hv
      by_cases hroom : n + 1 ≤ d
      · have hI := iinsert_room w1.heap.size g n d r b x ks W ON HN.out KN hgb h hroom (by omega)
        have HI := Lib.hid hI
        clear hI
        go_wp2_with (go_at_call 132; refine HI.out.mono ?_; rintro e w3 ⟨rfl, ho3, f3⟩)
        go_ret
        exact ⟨⟨some ⟨g, 0, none⟩, n + 1, d, by rw [HRL.out]; exact HLEN.out, rfl, by rw [HRL.out]; exact own_base ho3 hb2⟩, below_frm BN f3 (by have := BN.size; omega) (fun i hi => by unfold at1 at hi; omega)⟩
      · have hI := iinsert_grow w1.heap.size g n d r b x ks W ON HN.out KN h (by omega) (by omega) hbn
        have HI := Lib.hid hI
        clear hI
        go_wp2_with (go_at_call 132; refine HI.out.mono ?_; rintro e w3 ⟨⟨d3, rfl, ho3⟩, b3⟩)
        go_ret
        exact ⟨⟨some ⟨W.heap.size, 0, none⟩, n + 1, d3, by rw [HRL.out]; exact HLEN.out, rfl, by rw [HRL.out]; exact own_base ho3 hb2⟩, below_of b3 BN BN.size⟩
  · rw [hh, if_pos rfl] at hRl
    rw [hh] at HFind
    have HH := Lib.hid hh
    have HRL := Lib.hid hRl
    clear hRl
    have hlt := hasI_lt hh
    rw [hn] at hlt
    have hlti : (r : Int) < (n : Int) := by omega
    clear hFind hClone hr hn hf hh
    go_enter Try.func67, Try.ntmps67
    go_wp2_with (first
      | (go_at_call 69; refine (HFind.out _ (HR.out.below B0)).mono ?_; rintro e w1 ⟨rfl, b1⟩; have B1 := below_of b1 B0 B0.size; have K1 := K0.below b1; have d0 := K1.cell 0; have d1 := K1.cell 1; have d2 := K1.cell 2; simp at d0 d1 d2)
      | (go_at_call 127; refine (HClone.out _ (HR.out.below B1)).mono ?_; rintro e w2 ⟨B, d, rfl, ho2, b2⟩; have B2 := below_of b2 B1 B1.size; have K2 := K1.below b2; have e0 := K2.cell 0; have e1 := K2.cell 1; have e2 := K2.cell 2; simp at e0 e1 e2
         obtain ⟨g, d', hv, hgl, hgs⟩ := ho2.form (by omega)
         have hB : B = some ⟨g, 0, none⟩ := by injection hv
         subst hB
         obtain ⟨b4, o4, y, hA4, _, _, y0, y1, y2⟩ := (Rd.of_own ho2).item (k := r) (by rw [HN.out]; omega)
         injection hA4 with hA4
         injection hA4 with q1 q2
         subst q1 q2
         rw [Nat.zero_add] at y0 y1 y2
         have z0 := own_free ho2 (r * 3)
         have z1 := own_free ho2 (r * 3 + 1)
         have z2 := own_free ho2 (r * 3 + 2)))
    go_ret
    have hb2 : w.heap.size ≤ w1.heap.size := B1.size
    refine ⟨⟨some ⟨g, 0, none⟩, n, d, by rw [HRL.out, List.length_set, HN.out], rfl, own_base (base := w1.heap.size) ?_ hb2⟩, ?_⟩
    · rw [HRL.out, ← flatI_put]
      exact own_put (own_put (own_put ho2 (by omega)) (by omega)) (by omega)
    · exact ((B2.setCell (p := ⟨g, r * 3, none⟩) (by show w.heap.size ≤ g; omega) _).setCell (p := ⟨g, r * 3 + 1, none⟩) (by show w.heap.size ≤ g; omega) _).setCell (p := ⟨g, r * 3 + 2, none⟩) (by show w.heap.size ≤ g; omega) _
set_option maxRecDepth 100000 in
set_option maxHeartbeats 2000000 in
theorem idrop_any (A : Option Addr) (n c : Nat) (ks : List Im) (key : ByteArray) (w : World) (hr : Rd w A (flatI ks)) (hn : ks.length = n) (hm : n ≤ 100000) (hR : RightI ks) (r : Nat) (hf : FindI ks key r) :
    Calls Try.prog 68 #[.slice A n c, .string key] w fun e w' => (∃ B m d, e = .returned (.tuple #[.slice B m d, .bool (hasI ks key r)]) ∧ (dropL ks key r).length = m ∧ w'.ownsRow w.heap.size 108 3 (.slice B m d) m (flatI (dropL ks key r))) ∧ Below w.heap.size w w' := by
  have HFind := Lib.hid fun w hr => ifind_any A n c ks key w hr hn (by omega) hR r hf
  have HClone := Lib.hid fun w hr => clone_items w A n c ks hr hn (by omega)
  have HR := Lib.hid hr
  have hrn : r ≤ n := by rw [← hn]; exact hf.le
  have HN := Lib.hid hn
  have hrni : (r : Int) ≤ (n : Int) := by omega
  have hmi : (n : Int) ≤ 100000 := by omega
  obtain ⟨Rl, hRl⟩ : ∃ Rl, Rl = dropL ks key r := ⟨_, rfl⟩
  rw [← hRl]
  unfold dropL at hRl
  cases hh : hasI ks key r
  · rw [hh, if_neg (by simp)] at hRl
    rw [hh] at HFind
    have HRL := Lib.hid hRl
    clear hRl
    clear hr hn hf hh
    go_enter Try.func68, Try.ntmps68
    go_wp2_with (first
      | (go_at_call 69; refine (HFind.out _ HR.out).mono ?_; rintro e w1 ⟨rfl, b1⟩)
      | (go_at_call 127; refine (HClone.out _ (HR.out.below b1)).mono ?_; rintro e w2 ⟨B, d, rfl, ho2, b2⟩; have B2 := below_of b2 b1 b1.size))
    go_ret2
    exact ⟨⟨B, n, d, rfl, by rw [HRL.out]; exact HN.out, by rw [HRL.out]; exact own_base ho2 b1.size⟩, B2⟩
  · rw [hh, if_pos rfl] at hRl
    rw [hh] at HFind
    have HRL := Lib.hid hRl
    clear hRl
    have hlt := hasI_lt hh
    rw [hn] at hlt
    have hlti : (r : Int) < (n : Int) := by omega
    have hD : ∀ (base g d : Nat) (w : World), w.ownsRow base 108 3 (.slice (some ⟨g, 0, none⟩) n d) n (flatI ks) → Calls Try.prog 133 #[.slice (some ⟨g, 0, none⟩) n d, .int .i64 r, .int .i64 ((r : Int) + 1)] w fun e w' => e = .returned (.slice (some ⟨g, 0, none⟩) (n - 1) d) ∧ w'.ownsRow base 108 3 (.slice (some ⟨g, 0, none⟩) (n - 1) d) (n - 1) (flatI (ks.take r ++ ks.drop (r + 1))) ∧ Frm (at1 g) w w' := fun base g d w ho => by
      have := idelete_n base g n d r (r + 1) ks w ho hn rfl (by omega) (by omega)
      rw [show r + (n - (r + 1)) = n - 1 by omega] at this
      exact this
    have HD := Lib.hid hD
    clear hr hn hf hh hD
    go_enter Try.func68, Try.ntmps68
    go_wp2_with (first
      | (go_at_call 69; refine (HFind.out _ HR.out).mono ?_; rintro e w1 ⟨rfl, b1⟩)
      | (go_at_call 127; refine (HClone.out _ (HR.out.below b1)).mono ?_; rintro e w2 ⟨B, d, rfl, ho2, b2⟩; have B2 := below_of b2 b1 b1.size
         obtain ⟨g, d', hv, hgl, hgs⟩ := ho2.form (by omega)
         have hB : B = some ⟨g, 0, none⟩ := by injection hv
         subst hB)
      | (go_at_call 133; refine (HD.out _ _ _ _ ho2).mono ?_; rintro e w3 ⟨rfl, ho3, f3⟩))
    go_ret2
    have hb1 := b1.size
    exact ⟨⟨some ⟨g, 0, none⟩, n - 1, d, rfl, by rw [HRL.out, List.length_append, List.length_take, List.length_drop, HN.out]; omega, by rw [HRL.out]; exact own_base ho3 b1.size⟩, below_frm B2 f3 (by have := B2.size; omega) (fun i hi => by unfold at1 at hi; omega)⟩
end Go.Proofs.Ytldkhhipfoeckaa
