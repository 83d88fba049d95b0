/-
  The document's Free: Release: what it does. Condition: the list is in order.
-/
import Derived.Test.YtdpgeoiehbijlaaGreatFreeRB
import Derived.Test.YtdpgeoiehbijlaaGreatFreeI
namespace Go.Proofs.YtdpgeoiehbijlaaGreat
open Go Go.RowKit
attribute [local go_sem] cell_set_if

/-- What is not released among the first k. -/
def keepK (b : Int) (pd : List (Int × Int)) (k : Nat) : List (Int × Int) := (pd.take k).filter fun q => !decide (q.1 < b)
theorem keepK_no {b : Int} {pd : List (Int × Int)} {k : Nat} {x : Int × Int} (hx : pd[k]? = some x) (h : x.1 < b) : keepK b pd (k + 1) = keepK b pd k := by
  unfold keepK; rw [List.take_add_one, hx]; simp [h]
theorem keepK_yes {b : Int} {pd : List (Int × Int)} {k : Nat} {x : Int × Int} (hx : pd[k]? = some x) (h : ¬ x.1 < b) : keepK b pd (k + 1) = keepK b pd k ++ [x] := by
  unfold keepK; rw [List.take_add_one, hx, Option.toList_some, List.filter_append, List.filter_cons_of_pos (by simpa using h)]; rfl
theorem keepK_len (b : Int) (pd : List (Int × Int)) (k : Nat) : (keepK b pd k).length ≤ k := by
  unfold keepK; exact Nat.le_trans (List.length_filter_le _ _) (by rw [List.length_take]; omega)
/-- The list, of whose pending pages the first k are looked through. -/
def relD (s : Fs) (b : Int) (k : Nat) : Fs := { s with fr := sortZ (s.fr ++ outK (fun t => decide (t < b)) s.pd k) }
/-- A row of the call's own is apart from the list. -/
theorem FreeT.apart {T E : TypeId} {w : World} {base base2 g sz n : Nat} {s : Fs} {v1 v2 u : Value} {xs : List Value} (h : FreeT T E w base g s v1 v2) (ho : w.ownsRow base2 E sz u n xs) (hT : T ≠ E) (hE : 3 ≠ E) (hl : ∀ k, v2.ownBlock = some k → k < base2) : ∀ k, u.ownBlock = some k → ¬ mineF g v1 v2 k := fun k hk hm => by
  rcases hm with rfl | hm | hm
  · exact hT (h.blk.ty.eq (own_ty ho hk))
  · exact hE ((own_ty h.o1 hm).eq (own_ty ho hk))
  · have := hl k hm; have := (ho.lt k hk).1; omega
set_option maxRecDepth 100000 in
set_option maxHeartbeats 4000000 in
theorem rrel_any (base g : Nat) (s : Fs) (b : Int) (v1 v2 : Value) (w : World) (h : FreeDoc w base g s v1 v2) (hok : s.ok) (hbase : base ≤ w.heap.size) :
    Calls Tryz.prog 16 #[.pointer (some ⟨g, 0, none⟩), .int .i64 b] w fun e w' => e = .returned (.int .i64 ((relS s b).2 : Nat)) ∧ ∃ v1' v2', FreeDoc w' base g (relS s b).1 v1' v2' ∧ TurnF g v1 v2 w v1' v2' w' := by
  obtain ⟨i0, hi0, hz0, hz1, hz2⟩ := info_parts waitInfo
  obtain ⟨A1, c1, A2, c2, hv1, hv2, _, r2, _, _⟩ := h.reads
  have hold : ∀ k, v2.ownBlock = some k → k < w.heap.size := fun k hk => (h.o2.lt k hk).2
  obtain ⟨n, hn⟩ : ∃ n, n = s.pd.length := ⟨_, rfl⟩
  have hlen := hok.len
  have hni : (n : Int) ≤ 4000 := by omega
  have HR := Lib.hid r2
  have HN := Lib.hid hn
  have HOK := Lib.hid hok
  have HOLD := Lib.hid hold
  have H0 := Lib.hid h
  rw [← hn] at hv2
  have HV2 := Lib.hid hv2
  clear h hlen hok hn hv1 hv2 hold r2
  go_enter Tryz.func16, Tryz.ntmps16
  go_wp2
  go_loopw [5, 6, 7] (fun u5 u6 u7 wr => ∃ (k q m : Nat) (v1' : Value), k ≤ n ∧ u7 = .int .i64 k ∧ u5 = .int .i64 q ∧ q ≤ k ∧ m ≤ k ∧ Hid ((outK (fun t => decide (t < b)) s.pd k).length = q) ∧ Hid ((keepK b s.pd k).length = m) ∧ Hid (FreeDoc wr base g (relD s b k) v1' v2) ∧ Hid (TurnF g v1 v2 w v1' v2 wr) ∧ Hid (wr.ownsRow w.heap.size 73 2 u6 m (flatP (keepK b s.pd k)))) (fun _ _ u7 _ => n - (intOf u7).toNat)
  case atStart =>
    refine ⟨0, 0, 0, v1, by omega, rfl, rfl, by omega, by omega, rfl, rfl, ?_, TurnF.refl _ _ _ _, World.ownsRow_nil _ _ _ _⟩
    have e : relD s b 0 = s := by unfold relD; rw [show outK (fun t => decide (t < b)) s.pd 0 = [] from rfl, List.append_nil, sortZ_id HOK.out.up]
    unfold Hid; rw [e]; exact H0.out
  case round =>
    obtain ⟨k, q, m, v1', hk, rfl, rfl, hq, hm, HQ, HM, HF, HT, HO⟩ := hrel
    have hsz := HT.out.frm.size
    obtain ⟨B1, d1, B2, d2, hw1, hw2, hr1, hr2, hd1, _⟩ := HF.out.reads
    obtain ⟨f, hf⟩ : ∃ f, f = (relD s b k).fr.length := ⟨_, rfl⟩
    rw [← hf] at hw1 hd1
    have hf4 : f ≤ 4000 := by
      have h1 : f = s.fr.length + q := by rw [hf]; show (sortZ _).length = _; rw [sortZ_len, List.length_append, HQ.out]
      have := HOK.out.len; have := HN.out; omega
    subst hw1
    have HFL := Lib.hid hf
    have HR1 := Lib.hid hr1
    have c1' : wr.cell? ⟨g, 1, none⟩ = some (.slice B1 f d1) := HF.out.blk.cell 1
    have c2' : wr.cell? ⟨g, 2, none⟩ = some (.slice A2 n c2) := by rw [← HV2.out]; exact HF.out.blk.cell 2
    have HR2 : Hid (Rd wr A2 (flatP s.pd)) := by
      unfold Hid
      have : (Value.slice A2 n c2) = .slice B2 (relD s b k).pd.length d2 := by rw [← HV2.out, hw2]
      obtain rfl : A2 = B2 := by injection this
      exact hr2
    obtain ⟨C, d, rfl, hd⟩ := own_form HO.out
    clear hw2 hr2 hf hr1
    by_cases hlt : k < n
    · obtain ⟨b1, o1, x, rfl, _, hx, e0, e1⟩ := HR2.out.pair (k := k) (by have := HN.out; omega)
      have hki : (k : Int) < (n : Int) := by omega
      obtain ⟨x1, x2⟩ := x
      by_cases hxb : x1 < b
      · have hpos : (fun t : Int => decide (t < b)) (x1, x2).1 = true := decide_eq_true hxb
        have hE := outK_yes (p := fun t => decide (t < b)) hx hpos
        have hK := keepK_no (b := b) hx hxb
        have hnd := all_nodup' HOK.out (fun t => decide (t < b)) (k + 1)
        have hnd0 := all_nodup' HOK.out (fun t => decide (t < b)) k
        rw [hE, ← List.append_assoc] at hnd
        have HE : Hid (sortZ ((relD s b k).fr ++ [x2]) = (relD s b (k + 1)).fr) := by unfold Hid relD; simp only; rw [sortZ_snoc hnd, hE, List.append_assoc]
        have HQ2 : Hid ((outK (fun t => decide (t < b)) s.pd (k + 1)).length = q + 1) := by unfold Hid; rw [hE, List.length_append, HQ.out]; rfl
        have hput := rputZ_any B1 f d1 (relD s b k).fr x2 wr.drew HR1.out.drew HFL.out.symm hd1 (by omega) (sortZ_rise hnd0) (fun hmem => by
          have hmem' : x2 ∈ sortZ (s.fr ++ outK (fun t => decide (t < b)) s.pd k) := hmem
          rw [sortZ_mem] at hmem'
          rw [List.nodup_append] at hnd
          exact hnd.2.2 x2 hmem' x2 (by simp) rfl)
        rw [HE.out] at hput
        have HP := Lib.hid hput
        have HKK := Lib.hid hK
        have hdd : decide (x1 < b) = true := decide_eq_true hxb
        have BV : Blk wr.drew g 35 #[.int .i64 s.pages, .slice B1 f d1, v2] := HF.out.blk
        have HB0 := Lib.hid BV
        have e1d : wr.drew.cell? ⟨b1, o1 + k * 2 + 1, none⟩ = some (.int .i64 x2) := e1
        have c1d : wr.drew.cell? ⟨g, 1, none⟩ = some (.slice B1 f d1) := c1'
        have c2d : wr.drew.cell? ⟨g, 2, none⟩ = some (.slice (some ⟨b1, o1, none⟩) n c2) := c2'
        have hb0 : Below wr.heap.size wr wr.drew := (Below.refl _ wr).drew
        clear hpos hE hK hnd hnd0 hput hx hxb BV
        go_upto_region 7 with fail
        go_region_law ((try go_simp); go_at_call 38; with_reducible refine HP.out.mono ?_; rintro e w5 ⟨⟨B5, d5, rfl, o5⟩, b5⟩
                       have B5k := HB0.out.below b5
                       have y5 : w5.cell? ⟨g, 1, none⟩ = some (.slice B1 f d1) := B5k.cell 1
                       have z5 := B5k.free 1
                       have bb5 := hb0.trans b5)
        all_goals
          have F5 := HF.out.below bb5
          have hs5 : w.heap.size ≤ w5.heap.size := by have := bb5.size; omega
          have FS : Frm (at1 g) wr (w5.setCell ⟨g, 1, none⟩ (.slice B5 (f + 1 : Nat) d5)) := (Frm.of_below (S := at1 g) bb5).setCell (p := ⟨g, 1, none⟩) (fun _ => rfl) _
          have HF6 : Hid (FreeDoc (w5.setCell ⟨g, 1, none⟩ (.slice B5 (f + 1 : Nat) d5)) base g (relD s b (k + 1)) (.slice B5 (f + 1 : Nat) d5) v2) := by
            have hl3 : (relD s b (k + 1)).fr.length = f + 1 := by rw [← HE.out, sortZ_len, List.length_append, ← HFL.out]; rfl
            refine ⟨?_, HF.out.low, ?_, ?_⟩
            · have := B5k.set_ 1 (.slice B5 (f + 1 : Nat) d5)
              show Blk _ g _ #[.int .i64 s.pages, _, v2]
              simpa using this
            · rw [hl3]
              refine own_frm (own_base o5 (by have := hb0.size; omega)) ((Frm.refl (at1 g) _).setCell (p := ⟨g, 1, none⟩) (fun _ => rfl) _) (fun q hq e => ?_)
              have h1 := (o5.lt q hq).1
              have h2 := HF.out.blk.lt
              have h3 : q = g := e
              have h4 : wr.heap.size ≤ q := h1
              omega
            · exact own_frm HF.out.o2 FS (fun q hq e => HF.out.blk.own_ne HF.out.o2 (by decide) (e ▸ hq))
          have HT6 : Hid (TurnF g v1 v2 w (.slice B5 (f + 1 : Nat) d5) v2 (w5.setCell ⟨g, 1, none⟩ (.slice B5 (f + 1 : Nat) d5))) := by
            refine HT.out.trans ⟨FS.mono fun i _ hi => .inl hi, fun j hj => ?_⟩
            rcases hj with hj | hj | hj
            · exact .inl (.inl hj)
            · exact .inr (o5.lt j hj).1
            · exact .inl (.inr (.inr hj))
          have HO6 : Hid ((w5.setCell ⟨g, 1, none⟩ (.slice B5 (f + 1 : Nat) d5)).ownsRow w.heap.size 73 2 (.slice C m d) m (flatP (keepK b s.pd (k + 1)))) := by
            unfold Hid; rw [HKK.out]
            exact own_frm HO.out FS (fun q hq e => HF.out.apart HO.out (by decide) (by decide) HOLD.out q hq (.inl e))
          have HM6 : Hid ((keepK b s.pd (k + 1)).length = m) := by unfold Hid; rw [HKK.out]; exact HM.out
          go_wp2
          go_roundw
          case rel => exact ⟨k + 1, q + 1, m, _, by omega, by go_num, by go_num, by omega, by omega, HQ2, HM6, HF6, HT6, HO6⟩
          case measure => simp [intOf]; omega
      · have hneg : (fun t : Int => decide (t < b)) (x1, x2).1 = false := decide_eq_false hxb
        have hE := outK_no (p := fun t => decide (t < b)) hx hneg
        have hK := keepK_yes (b := b) hx hxb
        have HD : Hid (relD s b (k + 1) = relD s b k) := by unfold Hid relD; rw [hE]
        have HQ2 : Hid ((outK (fun t => decide (t < b)) s.pd (k + 1)).length = q) := by unfold Hid; rw [hE]; exact HQ.out
        have HKK := Lib.hid hK
        have hdd : decide (x1 < b) = false := decide_eq_false hxb
        clear hneg hE hK hx hxb
        go_wp2_with (at_builtin
                     refine wpList_app rfl (.tmp 45) (.tmp 53) 33 rfl w.heap.size 73 i0 _ 2 16 Tryz.underlying33 hi0 hz0 hz1 hz2 rfl (by omega) (.slice C m d) m _ rfl (HO.out.alloc _) _ 1 1 [.int .i64 x1, .int .i64 x2] rfl (Rd.new _ _ _) rfl (by simp [Value.oneCell']) (by unfold maxLen; omega) (by omega) (by simp; omega) ?_
                     intro v3 w3 ho3 hg3 hb3 hat3
                     obtain ⟨A3, c3, rfl, hc3⟩ := own_form ho3)
        have F3 : Frm (fun k => (Value.slice C m d).ownBlock = some k) wr w3 := ((Frm.refl _ wr).alloc (.cells #[.int .i64 x1, .int .i64 x2] 73)).grown hg3 (fun k hk _ => hk)
        have HF6 : Hid (FreeDoc w3 base g (relD s b (k + 1)) (.slice B1 f d1) v2) := by
          unfold Hid; rw [HD.out]
          exact HF.out.frm F3 fun q hq hs => HF.out.apart HO.out (by decide) (by decide) HOLD.out q hs hq
        have HT6 : Hid (TurnF g v1 v2 w (.slice B1 f d1) v2 w3) := by
          refine ⟨HT.out.frm.trans F3 fun i hi hs => ?_, HT.out.own⟩
          have := (HO.out.lt i hs).1; omega
        have HO6 : Hid (w3.ownsRow w.heap.size 73 2 (.slice A3 (m + 1 : Nat) c3) (m + 1) (flatP (keepK b s.pd (k + 1)))) := by unfold Hid; rw [HKK.out, flatP_app]; exact ho3
        have HM6 : Hid ((keepK b s.pd (k + 1)).length = m + 1) := by unfold Hid; rw [HKK.out, List.length_append, HM.out]; rfl
        go_roundw
        case rel => exact ⟨k + 1, q, m + 1, _, by omega, by go_num, by go_num, by omega, by omega, HQ2, HM6, HF6, HT6, HO6⟩
        case measure => simp [intOf]; omega
    · obtain rfl : n = k := by omega
      have hkk : keepK b s.pd n = s.pd.filter fun q => !decide (q.1 < b) := by unfold keepK; rw [HN.out, List.take_length]
      have hout : outK (fun t => decide (t < b)) s.pd n = outS (fun t => decide (t < b)) s := by rw [HN.out]; exact outK_all _ _
      have hrel : relS s b = ({ relD s b n with pd := keepK b s.pd n }, q) := by unfold relS relD; rw [hkk, ← hout, HQ.out]
      have HREL := Lib.hid hrel
      have BV := HF.out.blk
      have z2 := BV.free 2
      have FS : Frm (at1 g) wr (wr.setCell ⟨g, 2, none⟩ (.slice C m d)) := (Frm.refl (at1 g) _).setCell (p := ⟨g, 2, none⟩) (fun _ => rfl) _
      have HAP := Lib.hid (HF.out.apart HO.out (by decide) (by decide) HOLD.out)
      have HF6 : Hid (FreeDoc (wr.setCell ⟨g, 2, none⟩ (.slice C m d)) base g { relD s b n with pd := keepK b s.pd n } (.slice B1 f d1) (.slice C m d)) := by
        refine ⟨?_, HF.out.low, ?_, ?_⟩
        · have := BV.set_ 2 (.slice C m d)
          rw [show (relD s b n).pages = s.pages from rfl] at this
          show Blk _ g _ #[.int .i64 s.pages, .slice B1 f d1, _]
          simpa using this
        · exact own_frm HF.out.o1 FS (fun q hq e => BV.own_ne HF.out.o1 (by decide) (e ▸ hq))
        · show World.ownsRow _ _ _ _ _ (keepK b s.pd n).length _
          rw [HM.out]
          exact own_base (own_frm HO.out FS (fun q hq e => HAP.out q hq (.inl e))) hbase
      have HT6 : Hid (TurnF g v1 v2 w (.slice B1 f d1) (.slice C m d) (wr.setCell ⟨g, 2, none⟩ (.slice C m d))) := by
        refine ⟨HT.out.frm.trans FS fun i hi hs => .inl hs, fun j hj => ?_⟩
        rcases hj with hj | hj | hj
        · exact .inl (.inl hj)
        · exact HT.out.own j (.inr (.inl hj))
        · exact .inr (HO.out.lt j hj).1
      clear hkk hout hrel BV
      go_wp2
      go_ret
      exact ⟨by (rw [HREL.out]) <;> rfl, _, _, by rw [HREL.out]; exact HF6.out, HT6.out⟩
end Go.Proofs.YtdpgeoiehbijlaaGreat
