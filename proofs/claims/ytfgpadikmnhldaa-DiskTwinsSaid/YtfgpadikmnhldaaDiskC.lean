/-
  slices.IndexFunc and slices.DeleteFunc over the writes of a file from a sector on. Conditions: a row of the call's own; no more than a million.
-/
import Derived.Test.YtfgpadikmnhldaaDiskB
import Derived.Test.YtfgpadikmnhldaaDelP
import Derived.Test.YtfgpadikmnhldaaClear
import Derived.Test.YtfgpadikmnhldaaRowsInts
import Derived.Lib.BufferMore
import Derived.LaidEqlPtr
namespace Go.Proofs.Ytfgpadikmnhldaa
open Go Go.RowKit
attribute [local go_sem] cell_set_if

/-- A file's block. -/
def FileB (w : World) (q : Nat) : Prop := ∃ ca, w.heap[q]? = some (.cells ca 58 (0, 0))
theorem FileB.lt {w : World} {q : Nat} (h : FileB w q) : q < w.heap.size := by obtain ⟨ca, h⟩ := h; exact (Array.getElem?_eq_some_iff.1 h).1
theorem FileB.below {w w' : World} {q : Nat} (h : FileB w q) (k : Below w.heap.size w w') : FileB w' q := by
  have hl := h.lt
  obtain ⟨ca, h⟩ := h
  exact ⟨ca, (k.block q hl).trans h⟩
theorem FileB.ty {w : World} {q : Nat} (h : FileB w q) : TyAt w q 58 := by obtain ⟨ca, h⟩ := h; exact ⟨ca, _, h⟩
theorem FileB.far {w w' : World} {q g : Nat} (h : FileB w q) (k : Frm (at1 g) w w') (hg : TyAt w g 60) : FileB w' q := by
  have hl := h.lt
  have ht := h.ty
  obtain ⟨ca, h⟩ := h
  refine ⟨ca, (k.block q hl fun e => ?_).trans h⟩
  have e1 : q = g := e
  rw [e1] at ht
  exact absurd (ht.eq hg) (by decide)
theorem fileInfo : ∃ j, Try.prog.info? 58 = some j ∧ j.size ≠ 0 := by
  have h : (Try.prog.info? 58).map (fun i => i.size) = some 3 := by kernel_rfl
  cases hj : Try.prog.info? 58 with
  | none => rw [hj] at h; cases h
  | some j => rw [hj] at h; exact ⟨j, rfl, by have h2 : j.size = 3 := Option.some.inj h; omega⟩
theorem FileB.same {b : Nat} (w : World) : (binOp .eql 55 (.pointer (some ⟨b, 0, none⟩)) (.pointer (some ⟨b, 0, none⟩))).run Try.prog w = .ok (.bool true) w := by
  obtain ⟨j, hj, _⟩ := fileInfo
  exact run_eql_ptr_same w _ Try.underlying55 hj
theorem FileB.other {a b : Nat} {w : World} (h1 : FileB w a) (h2 : FileB w b) (hne : a ≠ b) : (binOp .eql 55 (.pointer (some ⟨a, 0, none⟩)) (.pointer (some ⟨b, 0, none⟩))).run Try.prog w = .ok (.bool false) w := by
  obtain ⟨j, hj, hs⟩ := fileInfo
  obtain ⟨ca, h1⟩ := h1
  obtain ⟨cb, h2⟩ := h2
  exact run_eql_ptr_other w Try.underlying55 hj hs (by intro e; exact hne (congrArg Addr.block e)) h1 h2
theorem wrInfo : (Try.prog.info? 60).map (fun i => (i.zero, i.size, i.bytes)) = some (some (.agg #[.pointer none, .int .i64 0, .string ByteArray.empty]), 3, 32) := by kernel_rfl
theorem wflat_set (ρ : Nat → Nat) (xs : List Wr) (k : Nat) (x : Wr) : (((flatW ρ xs).set (k * 3) (.pointer (some ⟨ρ x.id, 0, none⟩))).set (k * 3 + 1) (.int .i64 x.pos)).set (k * 3 + 2) (.string x.data) = flatW ρ (xs.set k x) := by
  induction xs generalizing k with
  | nil => rfl
  | cons y ys ih =>
    have e : ∀ (z : Wr) zs, flatW ρ (z :: zs) = (.pointer (some ⟨ρ z.id, 0, none⟩)) :: (.int .i64 z.pos) :: (.string z.data) :: flatW ρ zs := fun _ _ => rfl
    cases k with
    | zero => rw [e]; rfl
    | succ k =>
      rw [e, List.set_cons_succ, e, ← ih k, show (k + 1) * 3 + 2 = (k * 3 + 2) + 1 + 1 + 1 by omega, show (k + 1) * 3 + 1 = (k * 3 + 1) + 1 + 1 + 1 by omega, show (k + 1) * 3 = k * 3 + 1 + 1 + 1 by omega, List.set_cons_succ, List.set_cons_succ, List.set_cons_succ, List.set_cons_succ, List.set_cons_succ, List.set_cons_succ, List.set_cons_succ, List.set_cons_succ, List.set_cons_succ]
theorem wflat_take (ρ : Nat → Nat) (xs : List Wr) (k : Nat) : (flatW ρ xs).take (k * 3) = flatW ρ (xs.take k) := by
  induction xs generalizing k with
  | nil => simp [flatW]
  | cons y ys ih =>
    have e : ∀ (z : Wr) zs, flatW ρ (z :: zs) = (.pointer (some ⟨ρ z.id, 0, none⟩)) :: (.int .i64 z.pos) :: (.string z.data) :: flatW ρ zs := fun _ _ => rfl
    cases k with
    | zero => simp [flatW]
    | succ k => rw [e, List.take_succ_cons, e, ← ih k, show (k + 1) * 3 = k * 3 + 1 + 1 + 1 by omega, List.take_succ_cons, List.take_succ_cons, List.take_succ_cons]
set_option maxRecDepth 100000 in
theorem wclos_any (ρ : Nat → Nat) (x : Wr) (b : Nat) (pos : Int) (ga gp : Nat) (w : World) (hk0 : w.cell? ⟨ga, 0, none⟩ = some (.pointer (some ⟨b, 0, none⟩))) (hk1 : w.cell? ⟨gp, 0, none⟩ = some (.int .i64 pos)) (hx : FileB w (ρ x.id)) (hbb : FileB w b) :
    Calls Try.prog 49 #[.agg #[.pointer (some ⟨ρ x.id, 0, none⟩), .int .i64 x.pos, .string x.data], .pointer (some ⟨ga, 0, none⟩), .pointer (some ⟨gp, 0, none⟩)] w fun e w' => e = .returned (.bool (decide (ρ x.id = b) && decide (pos ≤ (x.pos : Int)))) ∧ Below w.heap.size w w' := by
  have hl := block_lt_of_cell hk0
  have hl1 := block_lt_of_cell hk1
  have ba : Below w.heap.size w (w.alloc (.cells #[.pointer (some ⟨ρ x.id, 0, none⟩), .int .i64 x.pos, .string x.data] 60)) := (Below.refl _ _).alloc (Nat.le_refl _) _
  have kb0 := cell_b ba hk0
  have kb1 := cell_b ba hk1
  by_cases h : ρ x.id = b
  · have hd : decide (ρ x.id = b) = true := decide_eq_true h
    have hs := FileB.same (b := b) (w.alloc (.cells #[.pointer (some ⟨ρ x.id, 0, none⟩), .int .i64 x.pos, .string x.data] 60))
    rw [hd, Bool.true_and]
    rw [h] at hs ⊢
    clear hd
    go_enter Try.func49, Try.ntmps49
    go_wp2
    go_ret
    exact ⟨rfl, (Below.refl _ _).alloc (Nat.le_refl _) _⟩
  · have hd : decide (ρ x.id = b) = false := decide_eq_false h
    have hs := (hx.below ba).other (hbb.below ba) h
    rw [hd, Bool.false_and]
    clear hd
    go_enter Try.func49, Try.ntmps49
    go_wp2
    go_ret
    exact ⟨rfl, (Below.refl _ _).alloc (Nat.le_refl _) _⟩

theorem Rd.wrec {ρ : Nat → Nat} {w : World} {A : Option Addr} {ks : List Wr} (h : Rd w A (flatW ρ ks)) {k : Nat} (hk : k < ks.length) : ∃ b o x, A = some ⟨b, o, none⟩ ∧ b < w.heap.size ∧ ks[k]? = some x ∧ w.cell? ⟨b, o + k * 3, none⟩ = some (.pointer (some ⟨ρ x.id, 0, none⟩)) ∧ w.cell? ⟨b, o + k * 3 + 1, none⟩ = some (.int .i64 x.pos) ∧ w.cell? ⟨b, o + k * 3 + 2, none⟩ = some (.string x.data) := by
  obtain ⟨x, hx⟩ : ∃ x, ks[k]? = some x := ⟨ks[k]'hk, List.getElem?_eq_getElem _⟩
  obtain ⟨b, o, e, hb, hc⟩ := h.flat (by rw [flatW_len ρ]; omega)
  refine ⟨b, o, x, e, hb, hx, ?_, ?_, ?_⟩
  · have := hc _ _ (flatW_at ρ ks k x hx 0 _ rfl); simpa using this
  · have := hc _ _ (flatW_at ρ ks k x hx 1 _ rfl); rwa [← Nat.add_assoc] at this
  · have := hc _ _ (flatW_at ρ ks k x hx 2 _ rfl); rwa [← Nat.add_assoc] at this

set_option maxRecDepth 100000 in
set_option maxHeartbeats 1000000 in
theorem wixf_any (ρ : Nat → Nat) (A : Option Addr) (n c : Nat) (ga gp : Nat) (ks : List Wr) (b : Nat) (pos : Int) (w : World) (hr : Rd w A (flatW ρ ks)) (hn : ks.length = n) (hk0 : w.cell? ⟨ga, 0, none⟩ = some (.pointer (some ⟨b, 0, none⟩))) (hk1 : w.cell? ⟨gp, 0, none⟩ = some (.int .i64 pos)) (hX : ∀ x ∈ ks, FileB w (ρ x.id)) (hBB : FileB w b) (hm : n ≤ 1000000) :
    Calls Try.prog 58 #[.slice A n c, .func (.func 49) #[] #[.pointer (some ⟨ga, 0, none⟩), .pointer (some ⟨gp, 0, none⟩)]] w fun e w' => e = .returned (.int .i64 (ixV (fun x : Wr => (decide (ρ x.id = b) && decide (pos ≤ (x.pos : Int)))) ks)) ∧ Below w.heap.size w w' := by
  have HR := Lib.hid hr
  have HN := Lib.hid hn
  have HH0 := Lib.hid hk0
  have HH1 := Lib.hid hk1
  have HXX := Lib.hid hX
  have HBB := Lib.hid hBB
  have hni : (n : Int) ≤ 1000000 := by omega
  clear hr hn hk0 hk1 hX hBB
  go_enter Try.func58, Try.ntmps58
  go_wp2
  go_loopw [8] (fun u8 wr => ∃ k : Nat, k ≤ n ∧ u8 = .int .i64 k ∧ Hid (∀ (j : Nat) y, j < k → ks[j]? = some y → (decide (ρ y.id = b) && decide (pos ≤ (y.pos : Int))) = false) ∧ Below w.heap.size w wr) (fun u8 _ => n - (intOf u8).toNat)
  case atStart => exact ⟨0, by omega, rfl, fun j y hj => by omega, Below.refl _ _⟩
  case round =>
    obtain ⟨k, hkn, rfl, hno, hB⟩ := hrel
    have HB := Lib.hid hB
    clear hB
    by_cases hlt : k < n
    · obtain ⟨b1, o1, x, rfl, _, hx, d0, d1, d2⟩ := (HR.out.below (HB.out)).wrec (k := k) (by have := HN.out; omega)
      have hki : (k : Int) < (n : Int) := by omega
      have hcl := wclos_any ρ x b pos ga gp wr (cell_b HB.out HH0.out) (cell_b HB.out HH1.out) ((HXX.out x (List.mem_of_getElem? hx)).below HB.out) (HBB.out.below HB.out)
      obtain ⟨q, hq⟩ : ∃ q, q = (decide (ρ x.id = b) && decide (pos ≤ (x.pos : Int))) := ⟨_, rfl⟩
      rw [← hq] at hcl
      have HCL := Lib.hid hcl
      have HX := Lib.hid hx
      have HQ := Lib.hid hq
      clear hcl hq hx
      cases q
      · have HY : Hid (∀ (j : Nat) y, j < k + 1 → ks[j]? = some y → (decide (ρ y.id = b) && decide (pos ≤ (y.pos : Int))) = false) := fun j y hj hy => by
          by_cases e : j = k
          · subst e; rw [HX.out] at hy; rw [← Option.some.inj hy]; exact HQ.out.symm
          · exact hno.out j y (by omega) hy
        go_wp2_with (go_at_call 49; refine HCL.out.mono ?_; rintro e w2 ⟨rfl, b2⟩; have B2 := Lib.hid b2; clear b2)
        go_roundw
        case rel => exact ⟨k + 1, by omega, by go_num, HY, HB.out.trans (B2.out.mono HB.out.size)⟩
        case measure => simp [intOf]; omega
      · have HV : Hid (ixV (fun x : Wr => (decide (ρ x.id = b) && decide (pos ≤ (x.pos : Int)))) ks = (k : Int)) := ixV_at HX.out HQ.out.symm hno.out
        go_wp2_with (go_at_call 49; refine HCL.out.mono ?_; rintro e w2 ⟨rfl, b2⟩; have B2 := Lib.hid b2; clear b2)
        go_ret
        exact ⟨by (rw [HV.out]) <;> rfl, HB.out.trans (B2.out.mono HB.out.size)⟩
    · obtain rfl : n = k := by omega
      have HV : Hid (ixV (fun x : Wr => (decide (ρ x.id = b) && decide (pos ≤ (x.pos : Int)))) ks = -1) := ixV_none fun x hx => by
        obtain ⟨j, hj⟩ := List.mem_iff_getElem?.1 hx
        exact hno.out j x (by have := (List.getElem?_eq_some_iff.1 hj).1; have := HN.out; omega) hj
      go_wp2
      go_ret
      exact ⟨by (rw [HV.out]) <;> rfl, HB.out⟩
set_option maxRecDepth 100000 in
set_option maxHeartbeats 4000000 in
theorem wdel_any (ρ : Nat → Nat) (base n c : Nat) (ga gp : Nat) (A : Option Addr) (ks : List Wr) (b : Nat) (pos : Int) (w : World) (ho : w.ownsRow base 60 3 (.slice A n c) n (flatW ρ ks)) (hn : ks.length = n) (hk0 : w.cell? ⟨ga, 0, none⟩ = some (.pointer (some ⟨b, 0, none⟩))) (hk1 : w.cell? ⟨gp, 0, none⟩ = some (.int .i64 pos)) (hne0 : (Value.slice A n c).ownBlock ≠ some ga) (hne1 : (Value.slice A n c).ownBlock ≠ some gp) (hX : ∀ x ∈ ks, FileB w (ρ x.id)) (hBB : FileB w b) (hm : n ≤ 1000000) :
    Calls Try.prog 48 #[.slice A n c, .func (.func 49) #[] #[.pointer (some ⟨ga, 0, none⟩), .pointer (some ⟨gp, 0, none⟩)]] w fun e w' => ∃ m, m ≤ n ∧ (ks.filter fun x => !(decide (ρ x.id = b) && decide (pos ≤ (x.pos : Int)))).length = m ∧ e = .returned (.slice A m c) ∧
      w'.ownsRow base 60 3 (.slice A m c) m (flatW ρ (ks.filter fun x => !(decide (ρ x.id = b) && decide (pos ≤ (x.pos : Int))))) ∧ Frm (fun k => (Value.slice A n c).ownBlock = some k) w w' := by
  obtain ⟨i0, hi0, hz0, hz1, hz2⟩ := info_parts wrInfo
  have hni : (n : Int) ≤ 1000000 := by omega
  have hI := wixf_any ρ A n c ga gp ks b pos w (Rd.of_own ho) hn hk0 hk1 hX hBB hm
  have HXX := Lib.hid hX
  have HBB := Lib.hid hBB
  have hnc : n ≤ c := by obtain ⟨A, d, e, h⟩ := own_form ho; injection e with e1 e2 e3; omega
  have hnci : (n : Int) ≤ (c : Int) := by omega
  have HN := Lib.hid hn
  by_cases hall : ∀ x ∈ ks, (decide (ρ x.id = b) && decide (pos ≤ (x.pos : Int))) = false
  · have hf : (ks.filter fun x => !(decide (ρ x.id = b) && decide (pos ≤ (x.pos : Int)))) = ks := by rw [List.filter_eq_self]; intro x hx; rw [hall x hx]; rfl
    rw [ixV_none hall] at hI
    rw [hf]
    have HI := Lib.hid hI
    clear hI hall hf hn
    go_enter Try.func48, Try.ntmps48
    go_wp2_with (go_at_call 58; refine HI.out.mono ?_; rintro e w2 ⟨rfl, b2⟩)
    go_ret
    exact ⟨n, Nat.le_refl _, HN.out, rfl, own_frm ho (Frm.of_below (S := no) b2) (fun _ _ h => h), Frm.of_below b2⟩
  · obtain ⟨k, x, hx, hp, hno⟩ : ∃ (k : Nat) (x : Wr), ks[k]? = some x ∧ (decide (ρ x.id = b) && decide (pos ≤ (x.pos : Int))) = true ∧ ∀ (j : Nat) y, j < k → ks[j]? = some y → (decide (ρ y.id = b) && decide (pos ≤ (y.pos : Int))) = false := by
      have he : (ks.findIdx? (fun x : Wr => (decide (ρ x.id = b) && decide (pos ≤ (x.pos : Int))))).isSome = true := by
        rw [List.findIdx?_isSome]
        simp only [List.any_eq_true]
        apply Classical.byContradiction
        intro h
        apply hall
        intro x hx
        cases hxi : (decide (ρ x.id = b) && decide (pos ≤ (x.pos : Int))) with
        | false => rfl
        | true => exact absurd ⟨x, hx, hxi⟩ h
      obtain ⟨k, hk⟩ := Option.isSome_iff_exists.1 he
      rw [List.findIdx?_eq_some_iff_getElem] at hk
      obtain ⟨h1, h2, h3⟩ := hk
      refine ⟨k, ks[k], List.getElem?_eq_getElem h1, h2, fun j y hj hy => ?_⟩
      have h4 := h3 j hj
      rw [List.getElem?_eq_getElem (by omega)] at hy
      rw [← Option.some.inj hy]
      exact Bool.eq_false_iff.2 h4
    rw [ixV_at hx hp hno] at hI
    have HI := Lib.hid hI
    have hD := DelI.start (p := (fun x : Wr => (decide (ρ x.id = b) && decide (pos ≤ (x.pos : Int))))) hx hp hno
    have hkn : k < n := by have := (List.getElem?_eq_some_iff.1 hx).1; omega
    have HD := Lib.hid hD
    have hk1' : ((k : Int) == -1) = false := by rw [beq_eq_false_iff_ne]; omega
    obtain ⟨g, cc, e1, hbg, hlc⟩ := ho.form (by omega)
    obtain rfl : A = some ⟨g, 0, none⟩ := by injection e1
    have hg0 : ga ≠ g := fun e => hne0 (by rw [e]; rfl)
    have HKK0 := Lib.hid hk0
    have hg1 : gp ≠ g := fun e => hne1 (by rw [e]; rfl)
    have HKK1 := Lib.hid hk1
    have HGT := Lib.hid (own_ty ho (rfl : (Value.slice (some ⟨g, 0, none⟩) n c).ownBlock = some g))
    clear hI hD hx hp hno hn hall hk0 hk1 e1 hne0 hne1 hX hBB
    go_enter Try.func48, Try.ntmps48
    go_wp2_with (go_at_call 58; refine HI.out.mono ?_; rintro e w2 ⟨rfl, b2⟩; have O2 := own_frm ho (Frm.of_below (S := no) b2) (fun _ _ h => h))
    go_loopw [5, 6] (fun u5 u6 wr => ∃ (i j : Nat) (cur : List Wr), j ≤ n ∧ i < j ∧ u5 = .int .i64 i ∧ u6 = .int .i64 j ∧ Hid (DelI (fun x : Wr => (decide (ρ x.id = b) && decide (pos ≤ (x.pos : Int)))) ks cur i j) ∧ Hid (wr.ownsRow base 60 3 (.slice (some ⟨g, 0, none⟩) n c) n (flatW ρ cur)) ∧ Hid (Frm (at1 g) w wr)) (fun _ u6 _ => n - (intOf u6).toNat)
    case atStart => exact ⟨k, k + 1, ks, by omega, by omega, rfl, by go_num, HD, O2, Frm.of_below b2⟩
    case round =>
      obtain ⟨i, j, cur, hjn, hij, rfl, rfl, HD2, HO, HF⟩ := hrel
      clear HD O2
      have hkw0 : wr.cell? ⟨ga, 0, none⟩ = some (.pointer (some ⟨b, 0, none⟩)) := (HF.out.cell (p := ⟨ga, 0, none⟩) (block_lt_of_cell HKK0.out) (show ¬ at1 g ga from fun e => hg0 e)).trans HKK0.out
      have hkw1 : wr.cell? ⟨gp, 0, none⟩ = some (.int .i64 pos) := (HF.out.cell (p := ⟨gp, 0, none⟩) (block_lt_of_cell HKK1.out) (show ¬ at1 g gp from fun e => hg1 e)).trans HKK1.out
      by_cases hlt : j < n
      · obtain ⟨x, hx⟩ : ∃ x, ks[j]? = some x := ⟨ks[j]'(by have := HN.out; omega), List.getElem?_eq_getElem _⟩
        have hcx : cur[j]? = some x := by rw [HD2.out.rest j (Nat.le_refl _)]; exact hx
        have hil : i < cur.length := by have := HD2.out.len; have := HN.out; omega
        have hcl : ∀ w', Below wr.heap.size wr w' → Calls Try.prog 49 #[.agg #[.pointer (some ⟨ρ x.id, 0, none⟩), .int .i64 x.pos, .string x.data], .pointer (some ⟨ga, 0, none⟩), .pointer (some ⟨gp, 0, none⟩)] w' fun e w'' => e = .returned (.bool (decide (ρ x.id = b) && decide (pos ≤ (x.pos : Int)))) ∧ Below w'.heap.size w' w'' := fun w' hb => wclos_any ρ x b pos ga gp w' (cell_b hb hkw0) (cell_b hb hkw1) (((HXX.out x (List.mem_of_getElem? hx)).far HF.out HGT.out).below hb) ((HBB.out.far HF.out HGT.out).below hb)
        have cj0 : wr.cell? ⟨g, j * 3, none⟩ = some (.pointer (some ⟨ρ x.id, 0, none⟩)) := by
          have := HO.out.cells (g := g) rfl (j * 3) _ (flatW_at ρ cur j x hcx 0 _ rfl)
          rwa [add_flat, Nat.zero_add] at this
        have cj1 : wr.cell? ⟨g, j * 3 + 1, none⟩ = some (.int .i64 x.pos) := by
          have := HO.out.cells (g := g) rfl (j * 3 + 1) _ (flatW_at ρ cur j x hcx 1 _ rfl)
          rwa [add_flat, Nat.zero_add] at this
        have cj2 : wr.cell? ⟨g, j * 3 + 2, none⟩ = some (.string x.data) := by
          have := HO.out.cells (g := g) rfl (j * 3 + 2) _ (flatW_at ρ cur j x hcx 2 _ rfl)
          rwa [add_flat, Nat.zero_add] at this
        obtain ⟨q, hq⟩ : ∃ q, q = (decide (ρ x.id = b) && decide (pos ≤ (x.pos : Int))) := ⟨_, rfl⟩
        rw [← hq] at hcl
        have hji : (j : Int) < (n : Int) := by omega
        have hii : (i : Int) < (n : Int) := by omega
        have HCL := Lib.hid hcl
        have HX := Lib.hid hx
        have HQ := Lib.hid hq
        have HIL := Lib.hid hil
        have O3 := HO.out.alloc (.cells #[.pointer (some ⟨ρ x.id, 0, none⟩), .int .i64 x.pos, .string x.data] 60)
        have hb3 := (Below.refl wr.heap.size wr).alloc (Nat.le_refl _) (.cells #[.pointer (some ⟨ρ x.id, 0, none⟩), .int .i64 x.pos, .string x.data] 60)
        have HB3 := Lib.hid hb3
        have K := Blk.new wr 60 #[.pointer (some ⟨ρ x.id, 0, none⟩), .int .i64 x.pos, .string x.data]
        clear hcl hq hx hcx hil hb3
        cases q
        · have HK2 := Lib.hid (HD2.out.keep HX.out HQ.out.symm)
          have ci : ∃ y : Wr, cur[i]? = some y := ⟨_, List.getElem?_eq_getElem HIL.out⟩
          obtain ⟨y, hy⟩ := ci
          have HY := Lib.hid hy
          clear hy
          go_wp2_with (go_at_call 49; refine (HCL.out _ HB3.out).mono ?_; rintro e w5 ⟨rfl, b5⟩
                       have O5 := own_frm O3 (Frm.of_below (S := no) b5) (fun _ _ h => h)
                       have K5 := K.below b5
                       have y0 : w5.cell? ⟨wr.heap.size, 0, none⟩ = some (.pointer (some ⟨ρ x.id, 0, none⟩)) := K5.cell 0
                       have y1 : w5.cell? ⟨wr.heap.size, 1, none⟩ = some (.int .i64 x.pos) := K5.cell 1
                       have y2 : w5.cell? ⟨wr.heap.size, 2, none⟩ = some (.string x.data) := K5.cell 2
                       have ci0 : w5.cell? ⟨g, i * 3, none⟩ = some (.pointer (some ⟨ρ y.id, 0, none⟩)) := by
                         have := O5.cells (g := g) rfl (i * 3) _ (flatW_at ρ cur i y HY.out 0 _ rfl)
                         rwa [add_flat, Nat.zero_add] at this
                       have ci1 : w5.cell? ⟨g, i * 3 + 1, none⟩ = some (.int .i64 y.pos) := by
                         have := O5.cells (g := g) rfl (i * 3 + 1) _ (flatW_at ρ cur i y HY.out 1 _ rfl)
                         rwa [add_flat, Nat.zero_add] at this
                       have ci2 : w5.cell? ⟨g, i * 3 + 2, none⟩ = some (.string y.data) := by
                         have := O5.cells (g := g) rfl (i * 3 + 2) _ (flatW_at ρ cur i y HY.out 2 _ rfl)
                         rwa [add_flat, Nat.zero_add] at this
                       have fi0 := own_free O5 (i * 3)
                       have fi1 := own_free O5 (i * 3 + 1)
                       have fi2 := own_free O5 (i * 3 + 2))
          go_roundw
          case rel =>
            refine ⟨i + 1, j + 1, cur.set i x, by omega, by omega, by go_num, by go_num, HK2, ?_, (((((HF.out.alloc _).step b5).setCell (p := ⟨g, i * 3, none⟩) (fun _ => rfl) _).setCell (p := ⟨g, i * 3 + 1, none⟩) (fun _ => rfl) _).setCell (p := ⟨g, i * 3 + 2, none⟩) (fun _ => rfl) _)⟩
            have := (own_put (x := .string x.data) (own_put (x := .int .i64 x.pos) (own_put (x := .pointer (some ⟨ρ x.id, 0, none⟩)) O5 (p := i * 3) (by omega)) (p := i * 3 + 1) (by omega)) (p := i * 3 + 2) (by omega))
            rwa [wflat_set] at this
          case measure => simp [intOf]; omega
        · have HK2 := Lib.hid (HD2.out.drop HX.out HQ.out.symm)
          go_wp2_with (go_at_call 49; refine (HCL.out _ HB3.out).mono ?_; rintro e w5 ⟨rfl, b5⟩
                       have O5 := own_frm O3 (Frm.of_below (S := no) b5) (fun _ _ h => h))
          go_roundw
          case rel => exact ⟨i, j + 1, cur, by omega, by omega, rfl, by go_num, HK2, O5, (HF.out.alloc _).step b5⟩
          case measure => simp [intOf]; omega
      · obtain rfl : n = j := by omega
        have hdone : cur.take i = (ks.filter fun x => !(decide (ρ x.id = b) && decide (pos ≤ (x.pos : Int)))) := by
          have := HD2.out
          rw [← HN.out] at this
          exact this.done
        have hil : (ks.filter fun x => !(decide (ρ x.id = b) && decide (pos ≤ (x.pos : Int)))).length = i := by
          rw [← hdone, List.length_take]; have := HD2.out.len; have := HN.out; omega
        have hO := HO.out
        obtain ⟨zs, hzs⟩ : ∃ zs : List Value, zs = (Builtin.zeroCells (Value.agg #[.pointer none, .int .i64 0, .string ByteArray.empty]).cells (n - i)).toList := ⟨_, rfl⟩
        have hzl : zs.length = (n - i) * 3 := by rw [hzs, Array.length_toList, size_zeroCells]; rfl
        have hzm : ∀ u ∈ zs, u.oneCell' = true := fun u hu => by
          rw [hzs] at hu
          unfold Builtin.zeroCells at hu
          rw [Array.toList_map, List.mem_map] at hu
          obtain ⟨q, _, rfl⟩ := hu
          have hsz : (Value.agg #[.pointer none, .int .i64 0, .string ByteArray.empty]).cells = #[.pointer none, .int .i64 0, .string ByteArray.empty] := by kernel_rfl
          rw [hsz]
          show ((#[.pointer none, .int .i64 0, .string ByteArray.empty] : Array Value)[q % 3]!).oneCell' = true
          have : q % 3 = 0 ∨ q % 3 = 1 ∨ q % 3 = 2 := by omega
          rcases this with h | h | h <;> rw [h] <;> rfl
        have hcl2 := own_cleared (zs := zs) hO (i := i) (by omega) hzl
        have hclr : ∀ ty, (Builtin.clear_ #[47] ty #[.slice (some ⟨g, i * 3, none⟩) (n - i) (c - i)]).run Try.prog wr = .ok (.tuple #[]) (wr.setCells g (i * 3) zs) := fun ty => by
          obtain ⟨cu, hB, _, _, _, hcs, _⟩ := own_open hO
          have h1 : i * 3 + (n - i) * 3 = n * 3 := by omega
          have h2 : n * 3 ≤ c * 3 := by omega
          refine run_clear_sz wr _ _ ty (.agg #[.pointer none, .int .i64 0, .string ByteArray.empty]) Try.underlying47 (by simp [zeroValue, typeInfo, hi0, hz0]) g (i * 3) _ _ zs ?_ (by omega) hzm (fun t ht => ?_) (fun t _ => own_free hO _)
          · exact hzs.symm
          · rw [hzl] at ht
            rw [hB.cell, Array.getElem?_eq_getElem (by omega)]; rfl
        have HO2 : Hid ((wr.setCells g (i * 3) zs).ownsRow base 60 3 (.slice (some ⟨g, 0, none⟩) i c) i (flatW ρ (ks.filter fun x => !(decide (ρ x.id = b) && decide (pos ≤ (x.pos : Int)))))) := by
          have := hcl2.1
          rw [wflat_take, hdone] at this
          exact this
        have HF2 := Lib.hid (HF.out.then_ hcl2.2)
        have HIL := Lib.hid hil
        have hin : (i : Int) ≤ (n : Int) := by omega
        have hin2 : i ≤ n := by omega
        have hic : i ≤ c := by omega
        clear hdone hil hzs hcl2 hO hzm hzl
        have hci : ¬ (c = i) := by omega
        go_wp2_with ((at_builtin; (refine wpList_clear_run wr rfl (.tmp 38) 47 rfl _ rfl _ _ (hclr _) ?_)))
        go_ret
        exact ⟨i, hin2, HIL.out, rfl, HO2.out, HF2.out.mono fun k _ e => congrArg some (show k = g from e).symm⟩
end Go.Proofs.Ytfgpadikmnhldaa
