/-
  conf.Text and conf.Read: what they give. Conditions: no more than a thousand members; a text of no more than a thousand bytes; the library's own variables are as told.
-/
import Derived.Test.YtkbfcmkocgkdjaaGreatDoorConfP
import Derived.Test.YtkbfcmkocgkdjaaGreatDoorConfW
import Derived.Test.YtkbfcmkocgkdjaaGreatDoorPackNumW
import Derived.Test.YtkbfcmkocgkdjaaGreatDoorLayJoin
import Derived.Test.YtkbfcmkocgkdjaaGreatDoorLaySplit
namespace Go.Proofs.YtkbfcmkocgkdjaaGreatDoor
open Go Go.RowKit
attribute [local go_sem] cell_set_if

theorem powIs_below {w w' : World} (h : PowIs w) (hb : Below w.heap.size w w') : PowIs w' := tabIs_below h hb
theorem strInfo : (Tryz.prog.info? 9).map (fun i => (i.zero, i.size, i.bytes)) = some (some (.string ByteArray.empty), 1, 16) := by kernel_rfl
theorem itoas_take (l : List Int) (k : Nat) (x : Int) (h : l[k]? = some x) : (l.take (k + 1)).map Lib.itoa = (l.take k).map Lib.itoa ++ [Lib.itoa x] := by
  rw [List.take_add_one, h, List.map_append]; rfl
/-- The cells of texts. -/
def strsV (ps : List (List UInt8)) : List Value := ps.map fun p => .string (bs p)
theorem strsV_app (a b : List (List UInt8)) : strsV (a ++ b) = strsV a ++ strsV b := by unfold strsV; simp

set_option maxRecDepth 100000 in
set_option maxHeartbeats 2000000 in
theorem ctext_any (A : Option Addr) (n c : Nat) (l : List Int) (w : World) (hr : Rd w A (flatZ l)) (hn : l.length = n) (hm : n ≤ 1000) (ht : PowIs w) :
    Calls Tryz.prog 6 #[.slice A n c] w fun e w' => e = .returned (.tuple #[.string (bs (textV l).1), .int .i64 (textV l).2]) ∧ Below w.heap.size w w' := by
  obtain ⟨i0, hi0, hz0, hz1, hz2⟩ := info_parts strInfo
  have HR := Lib.hid hr
  have HN := Lib.hid hn
  have HT := Lib.hid ht
  have hni : (n : Int) ≤ 1000 := by omega
  have hc := cright_any A n c l w hr hn (by omega)
  obtain ⟨ok, hok⟩ : ∃ ok, ok = rightV l := ⟨_, rfl⟩
  rw [← hok] at hc
  have HC := Lib.hid hc
  have HOK := Lib.hid hok
  clear hr hn ht hc hok
  cases ok
  · have HF : Hid (textV l = ([], 1)) := by unfold Hid textV; rw [if_neg (by rw [← HOK.out]; simp)]
    go_enter Tryz.func6, Tryz.ntmps6
    go_wp2_with (go_at_call 26; refine HC.out.mono ?_; rintro e w1 ⟨rfl, q1⟩)
    go_ret2
    exact ⟨by (rw [HF.out]) <;> rfl, q1.below _⟩
  · have hin := right_in HOK.out.symm
    have hpos := rightV_pos HOK.out.symm
    have HF : Hid (textV l = (textL l, 0)) := by unfold Hid textV; rw [if_pos HOK.out.symm]
    have HIN := Lib.hid hin
    have HPOS := Lib.hid hpos
    clear hin hpos
    go_enter Tryz.func6, Tryz.ntmps6
    go_wp2_with (go_at_call 26; refine HC.out.mono ?_; rintro e w1 ⟨rfl, q1⟩)
    have B1 := q1.below w.heap.size
    go_loopw [4, 12] (fun u4 u12 wr => ∃ k : Nat, k ≤ n ∧ u12 = .int .i64 k ∧ wr.ownsRow w.heap.size 9 1 u4 k (strsV ((l.take k).map Lib.itoa)) ∧ Below w.heap.size w wr) (fun _ u12 _ => n - (intOf u12).toNat)
    case atStart => exact ⟨0, by omega, rfl, World.ownsRow_nil _ _ _ _, B1⟩
    case round =>
      obtain ⟨k, hk, rfl, hO, hB⟩ := hrel
      by_cases hlt : k < n
      · obtain ⟨b1, o1, x, rfl, _, hx, d0⟩ := (HR.out.below hB).num (k := k) (by have := HN.out; omega)
        have hki : (k : Int) < (n : Int) := by omega
        have hx2 := HIN.out x (List.mem_of_getElem? hx)
        have HTK := Lib.hid (itoas_take l k x hx)
        obtain ⟨S, hS⟩ : ∃ S, S = bs (Lib.itoa x) := ⟨_, rfl⟩
        have hd := digits_any x wr (by omega) (by omega) (powIs_below HT.out hB)
        rw [show str (Lib.itoa x) = .string S by rw [hS]] at hd
        have HD := Lib.hid hd
        have HS := Lib.hid hS
        clear hd hx hx2 hS
        go_wp2_with (first
          | (go_at_call 27; refine HD.out.mono ?_; rintro e w2 ⟨rfl, b2⟩; have O2 := own_frm hO (Frm.of_below (S := no) b2) (fun _ _ => id); have B2 := below_of b2 hB hB.size)
          | (at_builtin; refine wpList_app rfl (.tmp 16) (.tmp 19) 51 rfl w.heap.size 9 i0 _ 1 16 Tryz.underlying51 hi0 hz0 hz1 hz2 rfl (by omega) u4 k _ rfl (O2.alloc _) _ 1 1 [.string S] rfl (Rd.one _ _ _) rfl (one_str _) (by unfold maxLen; omega) (by omega) (by have := B2.size; simp; omega) ?_; intro v' w3 o3 _ b3 _))
        go_roundw
        case rel => exact ⟨k + 1, by omega, by go_num, by rw [HTK.out, strsV_app]; rw [HS.out] at o3; exact o3, (B2.alloc B2.size _).trans b3⟩
        case measure => simp [intOf]; omega
      · obtain rfl : n = k := by omega
        have hall : l.take n = l := List.take_of_length_le (by have := HN.out; omega)
        rw [hall] at hO
        obtain ⟨q, c2, hv, hbq, hlq⟩ := hO.form (by have := HPOS.out; have := HN.out; omega)
        subst hv
        have hnc : n ≤ c2 := by obtain ⟨A', d, e, h⟩ := own_form hO; injection e with e1 e2 e3; omega
        have hJ : Calls Tryz.prog 28 #[.slice (some ⟨q, 0, none⟩) n c2, .string ⟨#[44]⟩] wr fun e w' => e = .returned (.string (bs (textL l))) ∧ Below wr.heap.size wr w' := by
          have hxl : (l.map fun x => bs (Lib.itoa x)).length = n := by rw [List.length_map, HN.out]
          have hmap : (l.map fun x => bs (Lib.itoa x)).map (·.data.toList) = l.map Lib.itoa := by
            rw [List.map_map]; exact List.map_congr_left fun x _ => by simp [bs]
          have htl := textL_itoa l HIN.out
          have hlen : (textL l).length ≤ 2 * n := by
            have : ∀ l : List Int, (textL l).length ≤ 2 * l.length := by
              intro l
              induction l with
              | nil => simp [textL]
              | cons x l ih =>
                cases l with
                | nil => simp [textL]
                | cons y l => simp only [textL, List.length_cons] at ih ⊢; omega
            have h := this l
            rw [HN.out] at h
            exact h
          have hj := join_any q 0 c2 (l.map fun x => bs (Lib.itoa x)) ⟨#[44]⟩ wr (fun j x hx => by
            rw [List.getElem?_map, Option.map_eq_some_iff] at hx
            obtain ⟨y, hy, rfl⟩ := hx
            have := hO.cells (g := q) rfl j (.string (bs (Lib.itoa y))) (by unfold strsV; rw [List.map_map, List.getElem?_map, hy]; rfl)
            rw [add_flat] at this
            exact this) hlq (by rw [hxl]; omega) (by rw [hxl]; exact hnc) (by rw [hmap]; show (Lib.join (l.map Lib.itoa) [44]).length ≤ _; rw [htl]; omega)
          rw [hxl, hmap] at hj
          have e : (⟨(Lib.join (l.map Lib.itoa) (⟨#[44]⟩ : ByteArray).data.toList).toArray⟩ : ByteArray) = bs (textL l) := by
            show bs (Lib.join (l.map Lib.itoa) [44]) = _
            rw [htl]
          rw [e] at hj
          exact hj
        obtain ⟨S, hS⟩ : ∃ S, S = bs (textL l) := ⟨_, rfl⟩
        rw [← hS] at hJ
        have HJ := Lib.hid hJ
        have HR2 : Hid (Value.string (bs (textV l).1) = .string S ∧ (textV l).2 = 0) := by unfold Hid; rw [HF.out, hS]; exact ⟨rfl, rfl⟩
        clear hJ hall hS
        go_wp2_with (go_at_call 28; refine HJ.out.mono ?_; rintro e w2 ⟨rfl, b2⟩)
        go_ret2
        exact ⟨by (rw [HR2.out.1, HR2.out.2]) <;> rfl, below_of b2 hB hB.size⟩

/-- How far Read has come: k pieces are numbers. -/
def ReadI (s : List UInt8) (k : Nat) (ns : List Int) : Prop := ((cutC s).take k).map numV = ns.map fun x => (x, 0)
theorem ReadI.next {s p : List UInt8} {k : Nat} {ns : List Int} {x : Int} (h : ReadI s k ns) (hp : (cutC s)[k]? = some p) (hx : numV p = (x, 0)) : ReadI s (k + 1) (ns ++ [x]) := by
  unfold ReadI
  rw [List.take_add_one, hp, List.map_append, h]
  simp [hx]
theorem ReadI.bad {s p : List UInt8} {k : Nat} (hp : (cutC s)[k]? = some p) (hx : (numV p).2 ≠ 0) : readV s = ([], 6) :=
  readV_no fun ns h => by
    exfalso
    have e := congrArg (fun l => l[k]?) h
    simp only [List.getElem?_map, hp] at e
    cases hn : ns[k]? with
    | none => rw [hn] at e; simp at e
    | some x => rw [hn] at e; simp at e; rw [e] at hx; exact hx rfl
theorem ReadI.all {s : List UInt8} {ns : List Int} (h : ReadI s (cutC s).length ns) : readV s = if rightV ns = true then (ns, 0) else ([], 6) := by
  unfold ReadI at h
  rw [List.take_length] at h
  split
  · rename_i hr; exact readV_yes h hr
  · rename_i hr
    refine readV_no fun ms hm => ?_
    have : ms = ns := by
      rw [h] at hm
      have := congrArg (List.map Prod.fst) hm
      simpa [Function.comp_def] using this.symm
    subst this
    simpa using hr
/-- What is given: a list of the call's own, and a number. -/
def OwnR (base : Nat) (R : List Int × Int) (e : Ending) (w' : World) : Prop := ∃ B m d, e = .returned (.tuple #[.slice B m d, .int .i64 R.2]) ∧ R.1.length = m ∧ w'.ownsRow base 3 1 (.slice B m d) m (flatZ R.1)
theorem OwnR.none (base : Nat) (y : Int) (w' : World) {R : List Int × Int} (h : R = ([], y)) : OwnR base R (.returned (.tuple #[.slice none 0 0, .int .i64 y])) w' := by
  subst h
  exact ⟨Option.none, 0, 0, rfl, rfl, World.ownsRow_nil _ _ _ _⟩

theorem csplit_any (s : ByteArray) (w : World) (h : MaxIs w) (hs : s.size ≤ 1000) :
    Calls Tryz.prog 31 #[.string s, .string ⟨#[44]⟩] w fun e w' => ∃ B n, e = .returned (.slice (some ⟨B, 0, none⟩) n n) ∧ (cutC (bts s)).length = n ∧ n ≤ 1001 ∧ Rd w' (some ⟨B, 0, none⟩) (strsV (cutC (bts s))) ∧ Below w.heap.size w w' := by
  have hone : (⟨#[44]⟩ : ByteArray).data.toList = [44] := rfl
  have hcnt : Lib.countB s ⟨#[44]⟩ = (bts s).count 44 := by
    unfold Lib.countB
    exact Lib.count_one 44 (bts s)
  have hdata := Lib.splitB_data ⟨#[44]⟩ 0 (Lib.countB s ⟨#[44]⟩) s
  rw [hone] at hdata
  have hcut : (Lib.splitB ⟨#[44]⟩ 0 (Lib.countB s ⟨#[44]⟩) s).map (·.data.toList) = cutC (bts s) := by
    rw [hdata, hcnt]; exact splitK_cut (bts s)
  have hlen : (Lib.splitB ⟨#[44]⟩ 0 (Lib.countB s ⟨#[44]⟩) s).length = Lib.countB s ⟨#[44]⟩ + 1 := Lib.splitB_all ⟨#[44]⟩ (by decide) 0 _ s rfl
  have hle : Lib.countB s ⟨#[44]⟩ ≤ s.size := Lib.countB_le ⟨#[44]⟩ (by decide) _ s (Nat.le_refl _)
  have hcells : (Lib.splitB ⟨#[44]⟩ 0 (Lib.countB s ⟨#[44]⟩) s).map Value.string = strsV (cutC (bts s)) := by
    unfold strsV
    rw [← hcut, List.map_map]
    exact List.map_congr_left fun x _ => by simp [bs]
  refine (split_any s ⟨#[44]⟩ w h (by omega) (by decide)).mono ?_
  rintro e w' ⟨rfl, rfl⟩
  refine ⟨w.heap.size, _, rfl, by rw [← hcut, List.length_map, hlen], by omega, ?_, (Below.refl _ _).alloc (Nat.le_refl _) _⟩
  have := Rd.new w ((Lib.splitB ⟨#[44]⟩ 0 (Lib.countB s ⟨#[44]⟩) s).map Value.string).toArray 9
  rw [List.toList_toArray, hcells] at this
  rw [hcells]
  exact this
set_option maxRecDepth 100000 in
set_option maxHeartbeats 2000000 in
theorem cread_any (s : ByteArray) (w : World) (hs : s.size ≤ 1000) (ht : MaxIs w) :
    Calls Tryz.prog 8 #[.string s] w fun e w' => OwnR w.heap.size (readV (bts s)) e w' ∧ Below w.heap.size w w' := by
  obtain ⟨i0, hi0, hz0, hz1, hz2⟩ := info_parts zinfo
  have HS := Lib.hid (csplit_any s w ht hs)
  have hsz := Lib.hid hs
  have HL : Hid (∀ p ∈ cutC (bts s), p.length ≤ 1000) := fun p hp => by
    have key : ∀ l : List UInt8, ∀ p ∈ cutC l, p.length ≤ l.length := by
      intro l
      induction l with
      | nil => intro p hp; simp [cutC] at hp; subst hp; simp
      | cons b l ih =>
        intro p hp
        unfold cutC at hp
        split at hp
        · rcases List.mem_cons.1 hp with rfl | hp
          · simp
          · have := ih p hp; simp; omega
        · split at hp
          · simp at hp; subst hp; simp
          · rename_i q qs hq
            rcases List.mem_cons.1 hp with rfl | hp
            · have := ih q (by rw [hq]; simp); simp; omega
            · have := ih p (by rw [hq]; simp [hp]); simp; omega
    have h1 := key _ p hp
    rw [bts_len] at h1
    omega
  clear ht hs
  go_enter Tryz.func8, Tryz.ntmps8
  go_wp2_with (go_at_call 31; refine HS.out.mono ?_; rintro e w1 ⟨B, n, rfl, hlen, hn, hR, b1⟩; have HLen := Lib.hid hlen; have HR := Lib.hid hR; clear hlen hR)
  have hni : (n : Int) ≤ 1001 := by omega
  go_loopw [4, 12] (fun u4 u12 wr => ∃ (k : Nat) (ns : List Int), k ≤ n ∧ u12 = .int .i64 k ∧ Hid (ns.length = k) ∧ Hid (ReadI (bts s) k ns) ∧ wr.ownsRow w1.heap.size 3 1 u4 k (flatZ ns) ∧ Below w1.heap.size w1 wr ∧ Below w.heap.size w wr) (fun _ u12 _ => n - (intOf u12).toNat)
  case atStart => exact ⟨0, [], by omega, rfl, rfl, rfl, World.ownsRow_nil _ _ _ _, Below.refl _ _, b1⟩
  case round =>
    obtain ⟨k, ns, hk, rfl, HNl, HI, hO, hB1, hB⟩ := hrel
    by_cases hlt : k < n
    · obtain ⟨p, hp⟩ : ∃ p, (cutC (bts s))[k]? = some p := ⟨(cutC (bts s))[k]'(by have := HLen.out; omega), List.getElem?_eq_getElem _⟩
      obtain ⟨ad, hB', hcell⟩ := (HR.out.below hB1).at_ (k := k) (x := .string (bs p)) (by unfold strsV; rw [List.getElem?_map, hp]; rfl)
      injection hB' with hB'
      subst hB'
      rw [add_flat, Nat.zero_add] at hcell
      have hki : (k : Int) < (n : Int) := by omega
      have hpl := HL.out p (List.mem_of_getElem? hp)
      obtain ⟨S, hS⟩ : ∃ S, S = bs p := ⟨_, rfl⟩
      rw [← hS] at hcell
      have hbp : bts S = p := by rw [hS, bts_bs]
      obtain ⟨below, hbel⟩ : ∃ b, b = decide ((bts S).head? = some 45) := ⟨_, rfl⟩
      obtain ⟨D, hD⟩ : ∃ D, D = if below = true then S.extract 1 S.size else S := ⟨_, rfl⟩
      have hSs : S.size = p.length := by rw [hS, bs_size]
      have hDl : D.size ≤ 1000 := by
        rw [hD]; split
        · rw [ByteArray.size_extract]; omega
        · omega
      have hnum := fun w => number_of S D below w (fun w => cutdash_any S D below w hbel hD) hDl
      have hnv : numD (bts D) below = numV p := by
        unfold numV
        rw [hD, hbel, hbp]
        by_cases h45 : p.head? = some 45
        · simp only [h45, decide_true, if_true]
          congr 1
          rw [bts_extract, hbp, List.take_of_length_le (by omega)]
        · simp only [h45, decide_false, if_false, Bool.false_eq_true]
          rw [hbp]
      rw [hnv] at hnum
      obtain ⟨x, y, hxy⟩ : ∃ x y, numV p = (x, y) := ⟨_, _, rfl⟩
      rw [hxy] at hnum
      have HNum := Lib.hid hnum
      have HXY := Lib.hid hxy
      have HP := Lib.hid hp
      clear hnum hxy hp hnv hDl hSs hD hbel hbp hS hpl
      by_cases hy : y = 0
      · subst hy
        have HI2 := Lib.hid (HI.out.next HP.out HXY.out)
        go_wp2_with (first
          | (go_at_call 32; refine (HNum.out _).mono ?_; rintro e w2 ⟨rfl, hw2⟩; subst hw2)
          | (at_builtin; refine wpList_app rfl (.tmp 23) (.tmp 25) 22 rfl w1.heap.size 3 i0 _ 1 8 Tryz.underlying22 hi0 hz0 hz1 hz2 rfl (by omega) u4 k _ rfl (hO.alloc _) _ 1 1 [.int .i64 x] rfl (Rd.one _ _ _) rfl (one_int _ _) (by unfold maxLen; omega) (by omega) (by have := hB1.size; simp; omega) ?_; intro v' w3 o3 hg3 b3 _))
        have hl2 : Hid ((ns ++ [x]).length = k + 1) := by unfold Hid; rw [List.length_append, HNl.out]; rfl
        have B3 : Below w1.heap.size w1 w3 := (hB1.alloc hB1.size _).trans b3
        go_roundw
        case rel => exact ⟨k + 1, ns ++ [x], by omega, by go_num, hl2, HI2, by rw [flatZ_app]; exact o3, B3, below_of B3 b1 b1.size⟩
        case measure => simp [intOf]; omega
      · have hy1 : (y != 0) = true := by simpa using hy
        have hy2 : (y == 0) = false := by simpa using hy
        have HBad : Hid (readV (bts s) = ([], 6)) := ReadI.bad HP.out (by rw [HXY.out]; exact hy)
        clear hy
        go_wp2_with (go_at_call 32; refine (HNum.out _).mono ?_; rintro e w2 ⟨rfl, hw2⟩; subst hw2)
        go_ret2
        exact ⟨OwnR.none _ _ _ HBad.out, hB⟩
    · obtain rfl : n = k := by omega
      have hrd : readV (bts s) = if rightV ns = true then (ns, 0) else ([], 6) := by
        have h := HI.out
        rw [← HLen.out] at h
        exact h.all
      obtain ⟨A, c, rfl, hc⟩ := own_form hO
      have hcr := cright_any A n c ns wr (Rd.of_own hO) HNl.out (by omega)
      obtain ⟨ok, hok⟩ : ∃ ok, ok = rightV ns := ⟨_, rfl⟩
      rw [← hok] at hcr hrd
      have HCR := Lib.hid hcr
      have HRd := Lib.hid hrd
      clear hcr hrd hok
      cases ok
      · go_wp2_with (go_at_call 26; refine HCR.out.mono ?_; rintro e w2 ⟨rfl, q2⟩)
        go_ret2
        exact ⟨OwnR.none _ _ _ HRd.out, below_of (q2.below _) hB hB.size⟩
      · go_wp2_with (go_at_call 26; refine HCR.out.mono ?_; rintro e w2 ⟨rfl, q2⟩)
        go_ret2
        exact ⟨⟨A, n, c, by (rw [HRd.out]) <;> rfl, by rw [HRd.out]; exact HNl.out, by rw [HRd.out]; exact own_frm (own_base hO b1.size) (Frm.of_below (S := no) (q2.below _)) (fun _ _ => id)⟩, below_of (q2.below _) hB hB.size⟩
end Go.Proofs.YtkbfcmkocgkdjaaGreatDoor
