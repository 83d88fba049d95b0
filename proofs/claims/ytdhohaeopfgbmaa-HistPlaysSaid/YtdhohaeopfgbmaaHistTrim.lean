/-
  The log in memory: Trim, Slice, Has; lists of entries alike. Conditions: those of the log; entries without commands.
-/
import Derived.Test.YtdhohaeopfgbmaaHistRef
namespace Go.Proofs.Ytdhohaeopfgbmaa
open Go Go.RowKit
attribute [local go_sem] cell_set_if

theorem own_empty (w : World) (t : TypeId) (size : Nat) : (w.alloc (.cells #[] t)).ownsRow w.heap.size t size (.slice (some ⟨w.heap.size, 0, none⟩) 0 0) 0 [] :=
  ⟨by simp, .inr ⟨w.heap.size, 0, #[], rfl, Nat.le_refl _, heap_alloc_new w _, Nat.le_refl _, by unfold maxLen; omega, by simp, by simp⟩⟩
set_option maxRecDepth 100000 in
theorem clone_ents (w : World) (A : Option Addr) (n c : Nat) (xs : List Value) (hr : Rd w A xs) (hx : xs.length = n * 5) (h1 : ∀ u ∈ xs, u.oneCell' = true) (hn : n ≤ 1000000) :
    Calls Try.prog 39 #[.slice A n c] w fun e w' => ∃ v, e = .returned v ∧ w'.ownsRow w.heap.size 53 5 v n xs ∧ Below w.heap.size w w' := by
  cases A with
  | none =>
    have hx0 : xs = [] := by
      cases xs with
      | nil => rfl
      | cons b l => obtain ⟨ad, e, _⟩ := hr 0 b (by simp); cases e
    subst hx0
    have hn0 : n = 0 := by have : n * 5 = 0 := by simpa using hx.symm
                           omega
    subst hn0
    have he := Lib.run_eql_slice_nil_nil (P := Try.prog) w 0 c Try.underlying41
    clear hr hx h1
    go_enter Try.func39, Try.ntmps39
    go_wp2
    go_ret
    exact ⟨_, rfl, World.ownsRow_nil _ _ _ _, Below.refl _ _⟩
  | some ad =>
    have he := Lib.run_eql_slice_some_nil (P := Try.prog) w ad n c Try.underlying41
    obtain ⟨i0', hi0, hz0, hz1, hz2⟩ := info_parts entInfo
    have HX := Lib.hid hx
    have H1 := Lib.hid h1
    have HR := Lib.hid hr
    clear hx h1 hr
    go_enter Try.func39, Try.ntmps39
    go_wp2_with (at_builtin
                 refine wpList_app rfl (.tmp 5) (.tmp 6) 41 rfl w.heap.size 53 i0' _ 5 56 Try.underlying41 hi0 hz0 hz1 hz2 rfl (by omega) (.slice (some ⟨w.heap.size, 0, none⟩) 0 0) 0 [] rfl (own_empty _ _ _) (some ad) n c xs rfl (HR.out.alloc _) HX.out H1.out (by unfold maxLen; omega) (by omega) (by simp) ?_
                 intro v2 w2 hown2 hg2 hb2 hat2)
    go_ret
    exact ⟨_, rfl, by simpa using hown2, ((Below.refl _ _).alloc (Nat.le_refl _) _).trans hb2⟩

/-- What Trim gives, where the index is there. -/
theorem drop_flat (es : List Ent) (k : Nat) : (flatE es).drop (k * 5) = flatE (es.drop k) := by
  induction es generalizing k with
  | nil => simp [flatE]
  | cons e es ih =>
    cases k with
    | zero => simp
    | succ k =>
      have : flatE (e :: es) = e.cells ++ flatE es := rfl
      rw [this, List.drop_append, List.drop_of_length_le (by show 5 ≤ _; omega), List.nil_append, show e.cells.length = 5 from rfl, show (k + 1) * 5 - 5 = k * 5 by omega, ih k]
      rfl
theorem termE_out (idx trm : Int) (es : List Ent) (i : Int) (h : i < idx ∨ idx + es.length < i) : termE idx trm es i = none := by unfold termE; rw [if_pos h]
theorem termE_in (idx trm : Int) (es : List Ent) (i : Int) (h1 : idx < i) (h2 : i ≤ idx + es.length) : termE idx trm es i = (es[(i - idx - 1).toNat]?).map (·.term) := by
  unfold termE; rw [if_neg (by omega), if_neg (by omega)]
theorem termE_drop (idx trm : Int) (es : List Ent) (k : Nat) (hk : k ≤ es.length) (t : Int) (ht : termE idx trm es (idx + k) = some t) (i : Int) (hi : idx + k ≤ i) : termE (idx + k) t (es.drop k) i = termE idx trm es i := by
  have hl : (es.drop k).length = es.length - k := by simp
  by_cases h1 : idx + es.length < i
  · rw [termE_out _ _ _ _ (.inr (by omega)), termE_out _ _ _ _ (.inr h1)]
  · by_cases h2 : i = idx + k
    · subst h2
      rw [termE_base, ht]
    · rw [termE_in _ _ _ _ (by omega) (by omega), termE_in _ _ _ _ (by omega) (by omega), List.getElem?_drop, show k + (i - (idx + k) - 1).toNat = (i - idx - 1).toNat by omega]
theorem lastT_drop (idx trm : Int) (es : List Ent) (k : Nat) (hk : k ≤ es.length) (h0 : 0 ≤ idx) (t : Int) (ht : termE idx trm es (idx + k) = some t) : lastT t (es.drop k) = lastT trm es := by
  have h1 := termE_last idx trm es h0
  have h2 := termE_last (idx + k) t (es.drop k) (by omega)
  rw [termE_drop idx trm es k hk t ht _ (by rw [List.length_drop]; omega), List.length_drop, show idx + (k : Int) + ((es.length - k : Nat) : Int) = idx + es.length by omega, h1] at h2
  exact (Option.some.inj h2).symm

theorem Rd.shift {w : World} {A : Option Addr} {xs : List Value} (h : Rd w A xs) (k : Nat) : Rd w (A.map fun x => x.add k) (xs.drop k) := by
  intro j x hx
  rw [List.getElem?_drop] at hx
  obtain ⟨ad, rfl, hc⟩ := h _ _ hx
  exact ⟨_, rfl, by rw [add_add']; exact hc⟩
theorem own_set3 {w : World} {g base n : Nat} {t e : TypeId} {cs : Array Value} {v : Value} {xs : List Value} {size : Nat} (hB : Blk w g t cs) (hO : w.ownsRow base e size v n xs) (hne : e ≠ t) (i j k : Nat) (x y z : Value) :
    (((w.setCell ⟨g, i, none⟩ x).setCell ⟨g, j, none⟩ y).setCell ⟨g, k, none⟩ z).ownsRow base e size v n xs :=
  own_set ((hB.set_ i x).set_ j y) (own_set (hB.set_ i x) (own_set hB hO hne x) hne y) hne z
/-- The log behind Trim's three stores. -/
theorem trim_fin (w w2 : World) (base g : Nat) (idx trm x : Int) (t : Int) (es : List Ent) (v : Value) (nq k : Nat) (A2 : Option Addr) (c2 m : Nat) (_hm : m = (es.drop k).length) (hown : w2.ownsRow (w.drewN nq).heap.size 53 5 (.slice A2 m c2) (es.drop k).length (flatE (es.drop k)))
    (b2 : Below (w.drewN nq).heap.size (w.drewN nq) w2) (h : LogAt w base g x trm es v) (hk : (k : Int) ≤ es.length) (i0 : 0 ≤ idx) (_i1 : idx ≤ 1152921504606846976) (hmax : idx + es.length ≤ 1152921504606846976) (hlen : es.length ≤ 1000000) :
    ∃ v', LogAt (((w2.setCell ⟨g, 2, none⟩ (.slice A2 m c2)).setCell ⟨g, 0, none⟩ (.int .i64 (idx + k))).setCell ⟨g, 1, none⟩ (.int .i64 t)) base g (idx + k) t (es.drop k) v' ∧
      Below base w (((w2.setCell ⟨g, 2, none⟩ (.slice A2 m c2)).setCell ⟨g, 0, none⟩ (.int .i64 (idx + k))).setCell ⟨g, 1, none⟩ (.int .i64 t)) ∧ Turn g v w v' (((w2.setCell ⟨g, 2, none⟩ (.slice A2 m c2)).setCell ⟨g, 0, none⟩ (.int .i64 (idx + k))).setCell ⟨g, 1, none⟩ (.int .i64 t)) := by
  have L1 := h.drewN nq
  have B2 := L1.blk.below b2
  have hlow := h.low
  have hlt := h.blk.lt
  have hle : base ≤ w.heap.size := by omega
  have hb : Below base w w2 := below_of b2 ((Qt.drewN w nq).below base) hle
  have hfr : Frm (mine g v) w w2 := ((Frm.refl _ w).drewN nq).step b2
  refine ⟨.slice A2 m c2, ⟨?_, hlow, ?_, by omega, by omega, ?_⟩, ((hb.setCell hlow _).setCell hlow _).setCell hlow _, ⟨((hfr.setCell (fun _ => .inl rfl) _).setCell (fun _ => .inl rfl) _).setCell (fun _ => .inl rfl) _, fun q hq => ?_⟩⟩
  · exact ((B2.set_ 2 _).set_ 0 _).set_ 1 _
  · exact own_base (own_set3 B2 hown (by decide) 2 0 1 _ _ _) hle
  · simp; omega
  · have := hown.lt q hq; right; exact this.1

set_option maxRecDepth 100000 in
set_option maxHeartbeats 2000000 in
theorem trim_yes (w : World) (base g : Nat) (idx trm : Int) (es : List Ent) (v : Value) (k : Nat) (t : Int) (h : LogAt w base g idx trm es v) (hone : ∀ e ∈ es, e.cmds.oneCell' = true) (hk : k ≤ es.length) (ht : termE idx trm es (idx + k) = some t) (hmax : idx + es.length ≤ 1152921504606846976) (hlen : es.length ≤ 1000000) :
    Calls Try.prog 16 #[.pointer (some ⟨g, 0, none⟩), .int .i64 (idx + k)] w fun e w' => e = .returned (.int .i64 k) ∧ ∃ v', LogAt w' base g (idx + k) t (es.drop k) v' ∧ Below base w w' ∧ Turn g v w v' w' := by
  obtain ⟨A, c, rfl, hc⟩ := h.form
  have hT : ∀ w1, Qt w w1 → Calls Try.prog 23 #[.pointer (some ⟨g, 0, none⟩), .int .i64 (idx + k)] w fun e' w' => e' = .returned (.tuple #[.int .i64 t, .bool true]) ∧ Qt w w' := fun w1 _ => by
    have := term_any w base g idx trm es _ (idx + k) h
    rw [ht] at this
    exact this
  have HT := Lib.hid (hT w (Qt.refl w))
  have H := Lib.hid h
  have i0 := h.i0
  have i1 := h.i1
  have hone' := cells_one _ (fun e he => hone e (List.mem_of_mem_drop he) : ∀ e ∈ es.drop k, e.cmds.oneCell' = true)
  have HO := Lib.hid hone'
  have hrd : Rd w A (flatE es) := Rd.of_own h.own
  have HRD := Lib.hid hrd
  have hl := flatE_len es
  have hld := flatE_len (es.drop k)
  have HL := Lib.hid hld
  have hdl : (es.drop k).length = es.length - k := by simp
  have HDL := Lib.hid hdl
  have hwk : IntKind.i64.wrap (idx + k - idx) = (k : Int) := by rw [show idx + (k : Int) - idx = k by omega]; exact IntWalk.i64_in _ (by omega)
  have hkc : (k : Int) ≤ (es.length : Int) := by omega
  have hkc2 : (k : Int) ≤ (c : Int) := by omega
  clear hT ht hone hone' hrd hl hld h hdl
  go_enter Try.func16, Try.ntmps16
  by_cases hck : c = k
  · obtain rfl : es.length = c := by omega
    subst hck
    have hnil : flatE (es.drop es.length) = [] := by rw [List.drop_length]; rfl
    have hnil2 : (es.drop es.length).length = 0 := by rw [List.drop_length]; rfl
    have HNIL := Lib.hid hnil
    have HNIL2 := Lib.hid hnil2
    clear hnil hnil2
    go_wp2_with (first
      | (go_at_call 23; refine HT.out.mono ?_; rintro e w1 ⟨rfl, nq, rfl⟩
         have L1 := H.out.drewN nq
         have c0 := L1.blk.cell 0
         have c2 := L1.blk.cell 2
         simp at c0 c2)
      | (go_at_call 39; refine (clone_ents _ A 0 0 [] (Rd.nil _ _) (by rfl) (by simp) (by omega)).mono ?_
         rintro e w2 ⟨v2, rfl, hown2, b2⟩
         obtain ⟨A2, c2', rfl, hc2⟩ := own_form hown2
         have B2 := L1.blk.below b2
         have f0 := B2.free 0
         have f1 := B2.free 1
         have f2 := B2.free 2
         have g0 := B2.cell 0
         have g1 := B2.cell 1
         have g2 := B2.cell 2
         simp at g0 g1 g2))
    go_ret
    exact ⟨rfl, trim_fin w w2 base g idx trm idx t es _ nq _ _ _ 0 (by rw [HNIL2.out]) (by rw [HNIL2.out, HNIL.out]; exact hown2) b2 H.out hkc i0 i1 hmax hlen⟩
  · go_wp2_with (first
      | (go_at_call 23; refine HT.out.mono ?_; rintro e w1 ⟨rfl, nq, rfl⟩
         have L1 := H.out.drewN nq
         have c0 := L1.blk.cell 0
         have c2 := L1.blk.cell 2
         simp at c0 c2)
      | (go_at_call 39; refine (clone_ents _ (A.map fun x => x.add (k * 5)) (es.length - k) (c - k) (flatE (es.drop k)) (by rw [← drop_flat]; exact (HRD.out.drewN nq).shift _) (by rw [HL.out, HDL.out]) HO.out (by omega)).mono ?_
         rintro e w2 ⟨v2, rfl, hown2, b2⟩
         obtain ⟨A2, c2', rfl, hc2⟩ := own_form hown2
         have B2 := L1.blk.below b2
         have f0 := B2.free 0
         have f1 := B2.free 1
         have f2 := B2.free 2
         have g0 := B2.cell 0
         have g1 := B2.cell 1
         have g2 := B2.cell 2
         simp at g0 g1 g2))
    go_ret
    exact ⟨rfl, trim_fin w w2 base g idx trm idx t es _ nq _ _ _ (es.length - k) HDL.out.symm (by rw [HDL.out]; exact hown2) b2 H.out hkc i0 i1 hmax hlen⟩

theorem trim_no (w : World) (base g : Nat) (idx trm : Int) (es : List Ent) (v : Value) (i : Int) (h : LogAt w base g idx trm es v) (hi : i < idx ∨ idx + es.length < i) :
    Calls Try.prog 16 #[.pointer (some ⟨g, 0, none⟩), .int .i64 i] w fun e w' => e = .returned (.int .i64 0) ∧ Qt w w' := by
  have HT := Lib.hid (term_no w base g idx trm es v i h hi)
  clear h hi
  go_enter Try.func16, Try.ntmps16
  go_wp2_with (go_at_call 23; refine HT.out.mono ?_; rintro e w1 ⟨rfl, q1⟩)
  go_ret
  exact ⟨rfl, q1⟩

/-- Has. -/
def hasB (idx trm : Int) (es : List Ent) (i t : Int) : Bool := decide (i < idx) || decide (termE idx trm es i = some t)
set_option maxHeartbeats 1000000 in
theorem has_any (w : World) (base g : Nat) (idx trm : Int) (es : List Ent) (v : Value) (i t : Int) (h : LogAt w base g idx trm es v) :
    Calls Try.prog 28 #[.pointer (some ⟨g, 0, none⟩), .int .i64 i, .int .i64 t] w fun e w' => e = .returned (.bool (hasB idx trm es i t)) ∧ Qt w w' := by
  have HT := Lib.hid (term_any w base g idx trm es v i h)
  have c0 := h.blk.cell 0
  simp at c0
  obtain ⟨r, hr⟩ : ∃ r, r = hasB idx trm es i t := ⟨_, rfl⟩
  rw [← hr]
  unfold hasB at hr
  by_cases hi : i < idx
  · have HR : Hid (r = true) := by unfold Hid; rw [hr]; simp [hi]
    clear hr h
    go_enter Try.func28, Try.ntmps28
    go_wp2
    go_ret
    exact ⟨ret_bool HR.out.symm, Qt.refl _⟩
  · cases hT : termE idx trm es i with
    | none =>
      have HR : Hid (r = false) := by unfold Hid; rw [hr, hT]; simp [hi]
      rw [hT] at HT
      have HT2 : Hid (Calls Try.prog 23 #[.pointer (some ⟨g, 0, none⟩), .int .i64 i] w fun e' w' => e' = .returned (.tuple #[.int .i64 0, .bool false]) ∧ Qt w w') := HT
      clear hr h hT HT
      go_enter Try.func28, Try.ntmps28
      go_wp2_with (go_at_call 23; refine HT2.out.mono ?_; rintro e w1 ⟨rfl, q1⟩)
      go_ret
      exact ⟨ret_bool HR.out.symm, q1⟩
    | some u =>
      have HR : Hid (r = (u == t)) := by unfold Hid; rw [hr, hT]; by_cases hut : u = t <;> simp [hi, hut]
      rw [hT] at HT
      have HT2 : Hid (Calls Try.prog 23 #[.pointer (some ⟨g, 0, none⟩), .int .i64 i] w fun e' w' => e' = .returned (.tuple #[.int .i64 u, .bool true]) ∧ Qt w w') := HT
      clear hr h hT HT
      go_enter Try.func28, Try.ntmps28
      go_wp2_with (go_at_call 23; refine HT2.out.mono ?_; rintro e w1 ⟨rfl, q1⟩)
      go_ret
      exact ⟨ret_bool HR.out.symm, q1⟩

/-- Slice. -/
def sliceE (idx : Int) (es : List Ent) (i m : Int) : List Ent := if i ≤ idx ∨ idx + es.length < i then [] else (es.drop (i - idx - 1).toNat).take m.toNat

set_option maxRecDepth 100000 in
set_option maxHeartbeats 2000000 in
theorem slice_at (w : World) (base g : Nat) (idx trm : Int) (es : List Ent) (v : Value) (k : Nat) (m : Int) (h : LogAt w base g idx trm es v) (hnil : ∀ e ∈ es, e.cmds = .slice none 0 0) (hk : k < es.length) (hmax : idx + es.length ≤ 1152921504606846976) (hlen : es.length ≤ 1000000) :
    Calls Try.prog 22 #[.pointer (some ⟨g, 0, none⟩), .int .i64 (idx + k + 1), .int .i64 m] w fun e w' => ∃ u, e = .returned u ∧ w'.ownsRow w.heap.size 53 5 u ((es.drop k).take m.toNat).length (flatE ((es.drop k).take m.toNat)) ∧ Below w.heap.size w w' := by
  obtain ⟨A, c, rfl, hcap⟩ := h.form
  obtain ⟨r, c', hv, _, hrlt⟩ := h.own.form (by omega)
  injection hv with hA _ hcc
  subst hA hcc
  have H := Lib.hid h
  have i0 := h.i0
  have i1 := h.i1
  have c0 := h.blk.cell 0
  have hrow : Rd w (some ⟨r, 0, none⟩) (flatE es) := Rd.of_own h.own
  have HROW := Lib.hid hrow
  have HNIL := Lib.hid hnil
  have hdl : (es.drop k).length = es.length - k := by simp
  have HDL := Lib.hid hdl
  simp at c0
  clear h hrow hnil hdl
  have e1 : IntKind.i64.wrap (idx + k + 1 - idx) = (k : Int) + 1 := by rw [show idx + k + 1 - idx = (k : Int) + 1 by omega]; exact IntWalk.i64_in _ (by omega)
  have e2 : IntKind.i64.wrap (k : Int) = (k : Int) := IntWalk.i64_in _ (by omega)
  have e3 : IntKind.i64.wrap ((k : Int) + 1 - 1) = (k : Int) := by rw [show (k : Int) + 1 - 1 = (k : Int) by omega]; exact e2
  have hkn : (k : Int) < (es.length : Int) := by omega
  have hkc : (k : Int) ≤ (c : Int) := by omega
  have hkc2 : ¬ c = k := by omega
  obtain ⟨i0', hi0, hz0, hz1, hz2⟩ := info_parts entInfo
  obtain ⟨R, hR⟩ : ∃ R, R = (es.drop k).take m.toNat := ⟨_, rfl⟩
  rw [← hR]
  have HRR := Lib.hid hR
  clear hR
  go_enter Try.func22, Try.ntmps22
  go_wp2_with (go_at_call 26; refine (last_any _ _ _ _ _ _ _ H.out).mono ?_; rintro e w1 ⟨rfl, nq, rfl⟩; have c0 := (H.out.drewN nq).blk.cell 0; have c2 := (H.out.drewN nq).blk.cell 2; simp at c0 c2)
  go_quiet (fail)
  go_wp2
  go_loopw [7, 39] (fun u7 u39 wr => ∃ j : Nat, j ≤ es.length - k ∧ j ≤ m.toNat ∧ u39 = .int .i64 j ∧ wr.ownsRow w.heap.size 53 5 u7 j (flatE ((es.drop k).take j)) ∧ Below w.heap.size w wr) (fun _ u39 _ => es.length - (intOf u39).toNat)
  case atStart => exact ⟨0, by omega, by omega, rfl, World.ownsRow_nil _ _ _ _, below_drewN (below_drewN (Below.refl _ _) _) _⟩
  case round =>
    obtain ⟨j, hj, hjm, rfl, hown, hB⟩ := hrel
    obtain ⟨A2, c3, rfl, hc3⟩ := own_form hown
    by_cases hlt : j < es.length - k
    · obtain ⟨e, he⟩ : ∃ e, es[k + j]? = some e := ⟨es[k + j]'(by omega), List.getElem?_eq_getElem _⟩
      have hc : ∀ i x, e.cells[i]? = some x → wr.cell? ⟨r, (k + j) * 5 + i, none⟩ = some x := fun i x hi => by
        rw [(below_cells hB).1 r _ hrlt]
        obtain ⟨ad, had, hce⟩ := HROW.out _ x (flatE_at es (k + j) e he i x hi)
        injection had with had; subst had
        rw [add_flat, Nat.zero_add] at hce; exact hce
      have hen := HNIL.out e (List.mem_of_getElem? he)
      have hsp : (k + j) * 5 = k * 5 + j * 5 := by omega
      have d0 : wr.cell? ⟨r, k * 5 + j * 5, none⟩ = some (.int .i64 e.index) := by have := hc 0 _ rfl; rw [hsp] at this; simpa using this
      have d1 : wr.cell? ⟨r, k * 5 + j * 5 + 1, none⟩ = some (.int .i64 e.term) := by have := hc 1 _ rfl; rwa [hsp] at this
      have d2 : wr.cell? ⟨r, k * 5 + j * 5 + 2, none⟩ = some (.int .i64 e.client) := by have := hc 2 _ rfl; rwa [hsp] at this
      have d3 : wr.cell? ⟨r, k * 5 + j * 5 + 3, none⟩ = some (.int .i64 e.seq) := by have := hc 3 _ rfl; rwa [hsp] at this
      have d4 : wr.cell? ⟨r, k * 5 + j * 5 + 4, none⟩ = some (.slice none 0 0) := by have := hc 4 _ rfl; rw [hsp, hen] at this; exact this
      have hT : flatE ((es.drop k).take (j + 1)) = flatE ((es.drop k).take j) ++ [.int .i64 e.index, .int .i64 e.term, .int .i64 e.client, .int .i64 e.seq, .slice none 0 0] := by
        rw [List.take_add_one, List.getElem?_drop, he]; simp [flatE, Ent.cells, hen]
      have HT := Lib.hid hT
      clear hT hc hsp hen he
      by_cases hm : (j : Int) < m
      · go_wp2_with (first
          | (go_at_call 38; refine (copied_any _ _ _ _ _).mono ?_; rintro e' w3 ⟨rfl, b3⟩
             have B3 := below_of b3 (hB.alloc hB.size _) (by have := hB.size; simp; omega)
             have O3 := own_frm hown (S := no) (((Frm.refl no wr).alloc (.cells #[.int .i64 e.index, .int .i64 e.term, .int .i64 e.client, .int .i64 e.seq, .slice none 0 0] 53)).step b3) (fun _ _ => id)
             have O4 := own_frm O3 (S := no) ((Frm.refl no w3).alloc (.cells #[.int .i64 e.index, .int .i64 e.term, .int .i64 e.client, .int .i64 e.seq, .slice none 0 0] 53)) (fun _ _ => id))
          | (at_builtin
             refine wpList_app rfl (.tmp 47) (.tmp 50) 41 rfl w.heap.size 53 i0' _ 5 56 Try.underlying41 hi0 hz0 hz1 hz2 rfl (by omega) (.slice A2 j c3) j _ rfl O4 _ 1 1 [.int .i64 e.index, .int .i64 e.term, .int .i64 e.client, .int .i64 e.seq, .slice none 0 0] rfl (by simpa using Rd.new w3 #[.int .i64 e.index, .int .i64 e.term, .int .i64 e.client, .int .i64 e.seq, .slice none 0 0] 53) rfl (by simp [Value.oneCell']) (by unfold maxLen; omega) (by omega) (by have := B3.size; simp; omega) ?_
             intro v5 w5 hown5 hg5 hb5 hat5))
        go_roundw
        case rel => exact ⟨j + 1, by omega, by omega, by go_num, by rw [HT.out]; exact hown5, (B3.alloc B3.size _).trans hb5⟩
        case measure => simp [intOf]; omega
      · have hjm2 : R = (es.drop k).take j := by rw [HRR.out, show m.toNat = j by omega]
        have hlen2 : R.length = j := by rw [hjm2, List.length_take, HDL.out]; omega
        have HJ := Lib.hid hjm2
        have HL2 := Lib.hid hlen2
        clear hjm2 hlen2
        go_wp2
        go_ret
        refine ⟨.slice A2 j c3, rfl, ?_, hB.alloc hB.size _⟩
        rw [HL2.out, HJ.out]
        exact own_frm hown (S := no) ((Frm.refl no wr).alloc _) (fun _ _ => id)
    · have hlen2 : R = (es.drop k).take j := by
        rw [HRR.out, List.take_of_length_le (by rw [HDL.out]; omega), List.take_of_length_le (by rw [HDL.out]; omega)]
      have hlen3 : R.length = j := by rw [hlen2, List.length_take, HDL.out]; omega
      have HJ := Lib.hid hlen2
      have HL2 := Lib.hid hlen3
      clear hlen2 hlen3
      go_wp2
      go_ret
      refine ⟨.slice A2 j c3, rfl, ?_, hB⟩
      rw [HL2.out, HJ.out]
      exact hown
theorem slice_out (w : World) (base g : Nat) (idx trm : Int) (es : List Ent) (v : Value) (i m : Int) (h : LogAt w base g idx trm es v) (hi : i ≤ idx ∨ idx + es.length < i) :
    Calls Try.prog 22 #[.pointer (some ⟨g, 0, none⟩), .int .i64 i, .int .i64 m] w fun e w' => e = .returned (.slice none 0 0) ∧ Qt w w' := by
  have H := Lib.hid h
  have c0 := h.blk.cell 0
  simp at c0
  clear h
  by_cases h1 : i ≤ idx
  · go_enter Try.func22, Try.ntmps22
    go_wp2
    go_ret
    exact ⟨rfl, Qt.refl _⟩
  · have h2 : idx + es.length < i := by omega
    clear hi
    go_enter Try.func22, Try.ntmps22
    go_wp2_with (go_at_call 26; refine (last_any _ _ _ _ _ _ _ H.out).mono ?_; rintro e w1 ⟨rfl, q1⟩)
    go_ret
    exact ⟨rfl, q1⟩
/-- Slice, at every index. -/
theorem slice_any (w : World) (base g : Nat) (idx trm : Int) (es : List Ent) (v : Value) (i m : Int) (h : LogAt w base g idx trm es v) (hnil : ∀ e ∈ es, e.cmds = .slice none 0 0) (hmax : idx + es.length ≤ 1152921504606846976) (hlen : es.length ≤ 1000000) :
    Calls Try.prog 22 #[.pointer (some ⟨g, 0, none⟩), .int .i64 i, .int .i64 m] w fun e w' => ∃ A n c, e = .returned (.slice A n c) ∧ n = (sliceE idx es i m).length ∧ n ≤ c ∧ w'.ownsRow w.heap.size 53 5 (.slice A n c) n (flatE (sliceE idx es i m)) ∧ Below w.heap.size w w' := by
  unfold sliceE
  by_cases hi : i ≤ idx ∨ idx + es.length < i
  · rw [if_pos hi]
    exact (slice_out w base g idx trm es v i m h hi).mono fun e w' ⟨h1, h2⟩ => ⟨none, 0, 0, h1, rfl, Nat.le_refl _, World.ownsRow_nil _ _ _ _, h2.below _⟩
  · rw [if_neg hi]
    obtain ⟨k, rfl⟩ : ∃ k : Nat, i = idx + k + 1 := ⟨(i - idx - 1).toNat, by omega⟩
    rw [show (idx + (k : Int) + 1 - idx - 1).toNat = k by omega]
    exact (slice_at w base g idx trm es v k m h hnil (by omega) hmax hlen).mono fun e w' ⟨u, h1, h2, h3⟩ => by
      obtain ⟨A, c, rfl, hc⟩ := own_form h2
      exact ⟨A, _, c, h1, rfl, hc, h2, h3⟩

/-- Two lists of entries without commands, alike. -/
theorem samecmds_nil (w : World) : Calls Try.prog 41 #[.slice none 0 0, .slice none 0 0] w fun e w' => e = .returned (.bool true) ∧ w' = w := by
  go_enter Try.func41, Try.ntmps41
  go_wp2
  go_loop [5] (fun u5 => u5 = .int .i64 0) (fun _ => 0)
  case atStart => rfl
  case round =>
    obtain rfl := hrel
    go_wp2
    go_ret
    exact ⟨rfl, rfl⟩
set_option maxRecDepth 100000 in
set_option maxHeartbeats 2000000 in
theorem same_ents (w : World) (A B : Option Addr) (n c d : Nat) (es : List Ent) (ha : Rd w A (flatE es)) (hb : Rd w B (flatE es)) (hn : es.length = n) (hnil : ∀ e ∈ es, e.cmds = .slice none 0 0) (hlen : n ≤ 1000000) :
    Calls Try.prog 20 #[.slice A n c, .slice B n d] w fun e w' => e = .returned (.bool true) ∧ Qt w w' := by
  have HA := Lib.hid ha
  have HB := Lib.hid hb
  have HN := Lib.hid hn
  have HNIL := Lib.hid hnil
  have hnn : ((n : Int) != (n : Int)) = false := by simp
  clear ha hb hn hnil
  go_enter Try.func20, Try.ntmps20
  go_wp2
  go_loopw [5] (fun u5 wr => ∃ k : Nat, k ≤ n ∧ u5 = .int .i64 k ∧ Qt w wr) (fun u5 _ => n - (intOf u5).toNat)
  case atStart => exact ⟨0, by omega, rfl, Qt.refl _⟩
  case round =>
    obtain ⟨k, hk, rfl, hq⟩ := hrel
    have hqc : ∀ p, wr.cell? p = w.cell? p := fun p => by obtain ⟨m, rfl⟩ := hq; rfl
    have HQC := Lib.hid hqc
    clear hqc
    by_cases hlt : k < n
    · obtain ⟨e, he⟩ : ∃ e, es[k]? = some e := ⟨es[k]'(by have := HN.out; omega), List.getElem?_eq_getElem _⟩
      obtain ⟨b1, o1, rfl, _, hc1⟩ := HA.out.flat (by rw [flatE_len]; have := HN.out; omega)
      obtain ⟨b2, o2, rfl, _, hc2⟩ := HB.out.flat (by rw [flatE_len]; have := HN.out; omega)
      have hen := HNIL.out e (List.mem_of_getElem? he)
      have d0 : wr.cell? ⟨b1, o1 + k * 5, none⟩ = some (.int .i64 e.index) := by rw [HQC.out]; exact hc1 _ _ (flatE_at es k e he 0 _ rfl)
      have d1 : wr.cell? ⟨b1, o1 + k * 5 + 1, none⟩ = some (.int .i64 e.term) := by rw [HQC.out, Nat.add_assoc]; exact hc1 _ _ (flatE_at es k e he 1 _ rfl)
      have d2 : wr.cell? ⟨b1, o1 + k * 5 + 2, none⟩ = some (.int .i64 e.client) := by rw [HQC.out, Nat.add_assoc]; exact hc1 _ _ (flatE_at es k e he 2 _ rfl)
      have d3 : wr.cell? ⟨b1, o1 + k * 5 + 3, none⟩ = some (.int .i64 e.seq) := by rw [HQC.out, Nat.add_assoc]; exact hc1 _ _ (flatE_at es k e he 3 _ rfl)
      have d4 : wr.cell? ⟨b1, o1 + k * 5 + 4, none⟩ = some (.slice none 0 0) := by rw [HQC.out, Nat.add_assoc, ← hen]; exact hc1 _ _ (flatE_at es k e he 4 _ rfl)
      have e0 : wr.cell? ⟨b2, o2 + k * 5, none⟩ = some (.int .i64 e.index) := by rw [HQC.out]; exact hc2 _ _ (flatE_at es k e he 0 _ rfl)
      have e1 : wr.cell? ⟨b2, o2 + k * 5 + 1, none⟩ = some (.int .i64 e.term) := by rw [HQC.out, Nat.add_assoc]; exact hc2 _ _ (flatE_at es k e he 1 _ rfl)
      have e2 : wr.cell? ⟨b2, o2 + k * 5 + 2, none⟩ = some (.int .i64 e.client) := by rw [HQC.out, Nat.add_assoc]; exact hc2 _ _ (flatE_at es k e he 2 _ rfl)
      have e3 : wr.cell? ⟨b2, o2 + k * 5 + 3, none⟩ = some (.int .i64 e.seq) := by rw [HQC.out, Nat.add_assoc]; exact hc2 _ _ (flatE_at es k e he 3 _ rfl)
      have e4 : wr.cell? ⟨b2, o2 + k * 5 + 4, none⟩ = some (.slice none 0 0) := by rw [HQC.out, Nat.add_assoc, ← hen]; exact hc2 _ _ (flatE_at es k e he 4 _ rfl)
      have t0 : (e.index == e.index) = true := by simp
      have t1 : (e.term == e.term) = true := by simp
      have t2 : (e.client == e.client) = true := by simp
      have t3 : (e.seq == e.seq) = true := by simp
      clear hc1 hc2 he hen
      go_wp2
      go_quiet ((go_at_call 41; exact Calls.quiet_of_same (samecmds_nil _)))
      go_wp2
      go_roundw
      case rel => exact ⟨k + 1, by omega, by go_num, hq.trans (Qt.drewN _ _)⟩
      case measure => simp [intOf]; omega
    · go_wp2
      go_ret
      exact ⟨rfl, hq⟩
end Go.Proofs.Ytdhohaeopfgbmaa
