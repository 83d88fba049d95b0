/-
  What Read of items gives. Condition: no more than a million bytes.
-/
import Derived.Test.YtldkhhipfoeckaaItemLay
namespace Go.Proofs.Ytldkhhipfoeckaa
open Go Go.RowKit
attribute [local go_sem] cell_set_if

theorem getNum_small (n : Nat) (s : PS) (hn : n ≤ 4) : ∃ m : Nat, m < 256 ^ n ∧ (getNum n s).1 = (m : Int) := by
  refine ⟨numL (getRaw n s).1, ?_, ?_⟩
  · refine Nat.lt_of_lt_of_le (numL_lt _) (Nat.pow_le_pow_right (by omega) (getRaw_len n s))
  · unfold getNum sgn64
    have h := numL_lt (getRaw n s).1
    have h2 : 256 ^ (getRaw n s).1.length ≤ 256 ^ 4 := Nat.pow_le_pow_right (by omega) (Nat.le_trans (getRaw_len n s) hn)
    rw [if_pos (by omega)]
theorem getRaw_len' (n : Nat) (s : PS) : (getRaw (n : Int) s).1.length ≤ n := getRaw_len n s
theorem getText_len (s : PS) : (getText s).1.length ≤ 65535 := by
  unfold getText
  obtain ⟨m, hm, e⟩ := getNum_small 2 s (by omega)
  rw [e]
  have := getRaw_len' m (getNum 2 s).2
  omega
theorem sumI_snoc (ks : List Im) (x : Im) : sumI (ks ++ [x]) = sumI ks + (5 + x.key.size + x.val.size) := by simp [sumI]
theorem getIs_sum (s : PS) (n : Nat) : sumI (getIs s n).1 ≤ n * 131075 := by
  induction n with
  | zero => exact Nat.le_refl _
  | succ n ih =>
    show sumI ((getIs s n).1 ++ [(getI (getIs s n).2).1]) ≤ _
    rw [sumI_snoc]
    have : (getI (getIs s n).2).1.key.size ≤ 65535 := by
      show (bs _).size ≤ _
      rw [bs_size]; exact getText_len _
    have : (getI (getIs s n).2).1.val.size ≤ 65535 := by
      show (bs _).size ≤ _
      rw [bs_size]; exact getText_len _
    omega
theorem iteminfo : (Try.prog.info? 108).map (fun i => (i.zero, i.size, i.bytes)) = some (some (itemV ⟨⟨#[]⟩, ⟨#[]⟩, 0⟩), 3, 40) := by kernel_rfl
theorem flatI_one (ks : List Im) : ∀ u ∈ flatI ks, u.oneCell' = true := flat_one Im.cells (fun x u hu => by
  unfold Im.cells at hu; simp at hu; rcases hu with rfl | rfl | rfl <;> rfl) ks
/-- A list of items, of the call's own, and an error. -/
inductive ReadI (base : Nat) (e : Ending) (w' : World) (r : List Im × Int) : Prop
  | mk (A : Option Addr) (n c : Nat) (hn : r.1.length = n) (he : e = .returned (.tuple #[.slice A n c, .int .i64 r.2])) (ho : w'.ownsRow base 108 3 (.slice A n c) n (flatI r.1)) : ReadI base e w' r

set_option maxRecDepth 100000 in
set_option maxHeartbeats 2000000 in
theorem iread_any (b : ByteArray) (w : World) (hb : b.size ≤ 1000000) :
    Calls Try.prog 124 #[.string b] w fun e w' => ReadI w.heap.size e w' (readS b) ∧ Below w.heap.size w w' := by
  obtain ⟨i0, hi0, hz0, hz1, hz2⟩ := info_parts iteminfo
  have hbl : (bts b).length ≤ 1000000 := by rw [bts_len]; exact hb
  obtain ⟨m, hm, hme⟩ := getNum_small 1 (bts b, 0) (by omega)
  have hm' : (m : Int) < 256 := by omega
  have hBy : ∀ g w, GetS w g (bts b, 0) → Calls Try.prog 154 #[ptr g] w fun e w' => e = .returned (.int .i64 m) ∧ GetS w' g (getNum 1 (bts b, 0)).2 ∧ Frm (at1 g) w w' := fun g w h => by
    have := gbyte_s g (bts b, 0) w h (by show (bts b).length ≤ _; omega)
    rwa [hme] at this
  have hsl : (getNum 1 (bts b, 0)).2.1.length ≤ 1000000 := Nat.le_trans (getNum_le 1 _) hbl
  have hRR : readS b = if itemsE b ≠ 0 then ([], itemsE b) else if layS (itemsOf b) = (b, 0) then (itemsOf b, 0) else ([], 6) := rfl
  have hkE : itemsE b = (endG (getIs (getNum 1 (bts b, 0)).2 m).2).2 := by unfold itemsE; rw [hme]; rfl
  have hkO : itemsOf b = (getIs (getNum 1 (bts b, 0)).2 m).1 := by unfold itemsOf; rw [hme]; rfl
  generalize (getNum 1 (bts b, 0)).2 = s1 at *
  generalize itemsE b = E at *
  generalize itemsOf b = ks at *
  generalize readS b = rr at *
  have HRR := Lib.hid hRR
  have HkE := Lib.hid hkE
  have HkO := Lib.hid hkO
  have HBy := Lib.hid hBy
  clear hRR hkE hkO hBy hme hbl
  go_enter Try.func124, Try.ntmps124
  go_wp2_with (first
    | (go_at_call 153; refine (from_s b _).mono ?_; rintro e w1 ⟨rfl, G1, b1⟩)
    | (go_at_call 154; refine (HBy.out _ _ G1).mono ?_; rintro e w2 ⟨rfl, G2, f2⟩; have B2 := below_frm b1 f2 (Nat.le_refl _) (fun i hi => by unfold at1 at hi; omega)))
  go_loopw [5, 14] (fun u5 u14 wr => ∃ k : Nat, k ≤ m ∧ u14 = .int .i64 k ∧ wr.ownsRow w.heap.size 108 3 u5 k (flatI (getIs s1 k).1) ∧ GetS wr w.heap.size (getIs s1 k).2 ∧ Below w.heap.size w wr) (fun _ u14 _ => m - (intOf u14).toNat)
  case atStart => exact ⟨0, by omega, rfl, World.ownsRow_nil _ _ _ _, G2, B2⟩
  case round =>
    obtain ⟨k, hk, rfl, hO, hG, hB⟩ := hrel
    by_cases hlt : k < m
    · have hst : getIs s1 (k + 1) = ((getIs s1 k).1 ++ [(getI (getIs s1 k).2).1], (getI (getIs s1 k).2).2) := rfl
      have hgl := Nat.le_trans (getIs_le s1 k) hsl
      have hkl := getIs_len s1 k
      generalize getIs s1 k = r0 at hst hgl hkl hO hG
      obtain ⟨xs, s⟩ := r0
      simp only at hst hgl hkl hO hG
      have hBk : ∀ w g, GetS w g s → Calls Try.prog 154 #[ptr g] w fun e w' => e = .returned (.int .i64 (getNum 1 s).1) ∧ GetS w' g (getNum 1 s).2 ∧ Frm (at1 g) w w' := fun w g h => gbyte_s g s w h (by omega)
      have hg2 := Nat.le_trans (getNum_le 1 s) hgl
      have hTx : ∀ w g, GetS w g (getNum 1 s).2 → Calls Try.prog 156 #[ptr g] w fun e w' => e = .returned (.string (bs (getText (getNum 1 s).2).1)) ∧ GetS w' g (getText (getNum 1 s).2).2 ∧ Frm (at1 g) w w' := fun w g h => gtext_s g _ w h (by omega)
      have hg3 := Nat.le_trans (getText_le (getNum 1 s).2) hg2
      have hTv : ∀ w g, GetS w g (getText (getNum 1 s).2).2 → Calls Try.prog 156 #[ptr g] w fun e w' => e = .returned (.string (bs (getText (getText (getNum 1 s).2).2).1)) ∧ GetS w' g (getText (getText (getNum 1 s).2).2).2 ∧ Frm (at1 g) w w' := fun w g h => gtext_s g _ w h (by omega)
      unfold getI at hst
      clear hg2 hg3
      generalize bs (getText (getText (getNum 1 s).2).2).1 = T2 at hst hTv
      generalize (getText (getText (getNum 1 s).2).2).2 = s4 at hst hTv
      generalize bs (getText (getNum 1 s).2).1 = T at hst hTx
      generalize (getText (getNum 1 s).2).2 = s3 at hst hTx hTv
      generalize (getNum 1 s).2 = s2 at hst hTx hBk
      generalize (getNum 1 s).1 = p at hst hBk
      have hfl : flatI (xs ++ [⟨T, T2, p⟩]) = flatI xs ++ [.string T, .string T2, .int .i64 p] := by unfold flatI; rw [flat_snoc]; rfl
      have HST := Lib.hid hst
      have HFL := Lib.hid hfl
      have HBk := Lib.hid hBk
      have HTx := Lib.hid hTx
      have HTv := Lib.hid hTv
      clear hst hBk hTx hTv hgl hfl
      go_wp2_with (first
        | (go_at_call 154; refine (HBk.out _ _ hG).mono ?_; rintro e w3 ⟨rfl, G3, f3⟩
           have O3 := own_frm hO f3 (fun g hg h => by unfold at1 at h; subst h; exact Blk.own_ne hG hO (by decide) hg)
           have B3 := below_frm hB f3 (Nat.le_refl _) (fun i hi => by unfold at1 at hi; omega)
           have G4 := G3.alloc (.cells #[.string ⟨#[]⟩, .string ⟨#[]⟩, .int .i64 p] 108)
           have K4 := Blk.new w3 108 #[.string ⟨#[]⟩, .string ⟨#[]⟩, .int .i64 p]
           have O4 := O3.alloc (.cells #[.string ⟨#[]⟩, .string ⟨#[]⟩, .int .i64 p] 108)
           have B4 := B3.alloc B3.size (.cells #[.string ⟨#[]⟩, .string ⟨#[]⟩, .int .i64 p] 108)
           have hne := Blk.ne_ G4 K4 (by decide)
           have hlo3 := B3.size)
        | (go_at_call 156; refine (HTv.out _ _ G5).mono ?_; rintro e w6 ⟨rfl, G6, f6⟩
           have K6 := K5.frm f6 (fun h => by unfold at1 at h; exact hne h.symm)
           have O6 := own_frm O5 f6 (fun g hg h => by unfold at1 at h; subst h; exact Blk.own_ne G5 O5 (by decide) hg)
           have B6 := below_frm B5 f6 (Nat.le_refl _) (fun i hi => by unfold at1 at hi; omega)
           have K7 := K6.set_ 0 (.string T)
           have O7 := own_frm O6 ((Frm.refl (at1 w3.heap.size) w6).setCell (p := ⟨w3.heap.size, 0, none⟩) (fun _ => rfl) (.string T)) (fun g hg h => by unfold at1 at h; have := (O3.lt g hg).2; omega)
           have G7 : GetS (w6.setCell ⟨w3.heap.size, 0, none⟩ (.string T)) w.heap.size s4 := Blk.far G6 hne _
           have B7 := B6.setCell (p := ⟨w3.heap.size, 0, none⟩) hlo3 (.string T)
           have K8 := K7.set_ 1 (.string T2)
           have O8 := own_frm O7 ((Frm.refl (at1 w3.heap.size) (w6.setCell ⟨w3.heap.size, 0, none⟩ (.string T))).setCell (p := ⟨w3.heap.size, 1, none⟩) (fun _ => rfl) (.string T2)) (fun g hg h => by unfold at1 at h; have := (O3.lt g hg).2; omega)
           have G8 : GetS ((w6.setCell ⟨w3.heap.size, 0, none⟩ (.string T)).setCell ⟨w3.heap.size, 1, none⟩ (.string T2)) w.heap.size s4 := Blk.far G7 hne _
           have B8 := B7.setCell (p := ⟨w3.heap.size, 1, none⟩) hlo3 (.string T2)
           have k60 := K6.cell 0
           have k61 := K6.cell 1
           have k62 := K6.cell 2
           have f60 := K6.free 0
           have f61 := K6.free 1
           have f71 := K7.free 1
           have k80 := K8.cell 0
           have k81 := K8.cell 1
           have k82 := K8.cell 2)
        | (go_at_call 156; refine (HTx.out _ _ G4).mono ?_; rintro e w5 ⟨rfl, G5, f5⟩
           have K5 := K4.frm f5 (fun h => by unfold at1 at h; exact hne h.symm)
           have O5 := own_frm O4 f5 (fun g hg h => by unfold at1 at h; subst h; exact Blk.own_ne G4 O4 (by decide) hg)
           have B5 := below_frm B4 f5 (Nat.le_refl _) (fun i hi => by unfold at1 at hi; omega))
        | (at_builtin
           refine wpList_app rfl (.tmp 25) (.tmp 27) 96 rfl w.heap.size 108 i0 _ 3 40 Try.underlying96 hi0 hz0 hz1 hz2 rfl (by omega) u5 k _ rfl (O8.alloc _) _ 1 1 [.string T, .string T2, .int .i64 p] rfl (by simpa using Rd.new ((w6.setCell ⟨w3.heap.size, 0, none⟩ (.string T)).setCell ⟨w3.heap.size, 1, none⟩ (.string T2)) #[.string T, .string T2, .int .i64 p] 108) rfl (by simp [Value.oneCell']) (by unfold maxLen; omega) (by omega) (by have := B8.size; simp at this ⊢; omega) ?_
           intro v7 w7 hown7 hg7 hb7 hat7))
      go_roundw
      case rel =>
        refine ⟨k + 1, by omega, by go_num, ?_, ?_, (B8.alloc B8.size _).trans hb7⟩
        · rw [HST.out]; show w7.ownsRow _ _ _ _ _ (flatI (xs ++ [⟨T, T2, p⟩])); rw [HFL.out]; exact hown7
        · rw [HST.out]; exact Blk.grown (G8.alloc _) hg7 (Blk.own_ne G8 O8 (by decide))
      case measure => simp [intOf]; omega
    · obtain rfl : k = m := by omega
      obtain ⟨A1, c1, rfl, hc1⟩ := own_form hO
      have hEnd : ∀ w g, GetS w g (getIs s1 k).2 → Calls Try.prog 157 #[ptr g] w fun e w' => e = .returned (.int .i64 E) ∧ GetS w' g (endG (getIs s1 k).2) ∧ Frm (at1 g) w w' := fun w g h => by
        rw [HkE.out]; exact gend_s g _ w h
      have hsum := getIs_sum s1 k
      have hkl := getIs_len s1 k
      rw [← HkO.out] at hO hsum hkl
      have HEnd := Lib.hid hEnd
      clear hEnd
      by_cases hE : E = 0
      · subst hE
        have hrr : rr = if layS ks = (b, 0) then (ks, 0) else ([], 6) := by rw [HRR.out]; simp
        have hLay := fun w h => ilay_any A1 k c1 ks w h hkl (by omega) (by omega)
        generalize layS ks = l at hrr hLay
        obtain ⟨S, x⟩ := l
        simp only at hLay
        have HLay := Lib.hid hLay
        clear hLay
        by_cases hx : x = 0
        · subst hx
          by_cases hS : S = b
          · subst hS
            rw [if_pos rfl] at hrr
            have hq : (S.toList == S.toList) = true := by simp
            have HRr := Lib.hid hrr
            clear hrr
            go_wp2_with (first
              | (go_at_call 157; refine (HEnd.out _ _ hG).mono ?_; rintro e w3 ⟨rfl, G3, f3⟩
                 have O3 := own_frm hO f3 (fun g hg h => by unfold at1 at h; subst h; exact Blk.own_ne hG hO (by decide) hg)
                 have B3 := below_frm hB f3 (Nat.le_refl _) (fun i hi => by unfold at1 at hi; omega))
              | (go_at_call 61; refine (HLay.out _ (Rd.of_own O3)).mono ?_; rintro e w4 ⟨rfl, b4⟩
                 have O4 := own_frm O3 (Frm.of_below (S := no) b4) (fun _ _ h => h)
                 have B4 := below_of b4 B3 B3.size))
            go_ret2
            exact ⟨by rw [HRr.out]; exact ⟨A1, k, c1, hkl, rfl, O4⟩, B4⟩
          · rw [if_neg (fun h => hS (congrArg Prod.fst h))] at hrr
            have hq : (S.toList == b.toList) = false := by rw [str_beq]; simpa using fun h => hS (bts_inj h)
            have HRr := Lib.hid hrr
            clear hrr hS
            go_wp2_with (first
              | (go_at_call 157; refine (HEnd.out _ _ hG).mono ?_; rintro e w3 ⟨rfl, G3, f3⟩
                 have O3 := own_frm hO f3 (fun g hg h => by unfold at1 at h; subst h; exact Blk.own_ne hG hO (by decide) hg)
                 have B3 := below_frm hB f3 (Nat.le_refl _) (fun i hi => by unfold at1 at hi; omega))
              | (go_at_call 61; refine (HLay.out _ (Rd.of_own O3)).mono ?_; rintro e w4 ⟨rfl, b4⟩
                 have B4 := below_of b4 B3 B3.size))
            go_ret2
            exact ⟨by rw [HRr.out]; exact ⟨none, 0, 0, rfl, rfl, World.ownsRow_nil _ _ _ _⟩, B4⟩
        · rw [if_neg (fun h => hx (congrArg Prod.snd h))] at hrr
          have hq : (x != 0) = true := by simpa using hx
          have HRr := Lib.hid hrr
          clear hrr hx
          go_wp2_with (first
            | (go_at_call 157; refine (HEnd.out _ _ hG).mono ?_; rintro e w3 ⟨rfl, G3, f3⟩
               have O3 := own_frm hO f3 (fun g hg h => by unfold at1 at h; subst h; exact Blk.own_ne hG hO (by decide) hg)
               have B3 := below_frm hB f3 (Nat.le_refl _) (fun i hi => by unfold at1 at hi; omega))
            | (go_at_call 61; refine (HLay.out _ (Rd.of_own O3)).mono ?_; rintro e w4 ⟨rfl, b4⟩
               have B4 := below_of b4 B3 B3.size))
          go_ret2
          exact ⟨by rw [HRr.out]; exact ⟨none, 0, 0, rfl, rfl, World.ownsRow_nil _ _ _ _⟩, B4⟩
      · have hrr : rr = ([], E) := by rw [HRR.out, if_pos hE]
        have hq : (E != 0) = true := by simpa using hE
        have HRr := Lib.hid hrr
        clear hrr hE
        go_wp2_with (go_at_call 157; refine (HEnd.out _ _ hG).mono ?_; rintro e w3 ⟨rfl, G3, f3⟩
                     have B3 := below_frm hB f3 (Nat.le_refl _) (fun i hi => by unfold at1 at hi; omega))
        go_ret2
        exact ⟨by rw [HRr.out]; exact ⟨none, 0, 0, rfl, rfl, World.ownsRow_nil _ _ _ _⟩, B3⟩
end Go.Proofs.Ytldkhhipfoeckaa
