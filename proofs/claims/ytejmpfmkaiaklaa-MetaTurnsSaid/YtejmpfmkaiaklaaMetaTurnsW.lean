/-
  The walk of the law MetaTurns: for every input it returns true and changes nothing that was there. No condition but those of the arguments' form.
-/
import Derived.Test.YtejmpfmkaiaklaaMetaTurnsP
import Derived.Test.YtejmpfmkaiaklaaRowMetas
import Derived.Test.YtejmpfmkaiaklaaPageRef
namespace Go.Proofs.Ytejmpfmkaiaklaa
open Go Go.RowKit
attribute [local go_sem] cell_set_if

theorem turns_row2 {w : World} {g : Nat} {t : TypeId} {x y : Value} (h : Blk w g t #[x, y]) : w.cell? ⟨g, 0, none⟩ = some x ∧ w.cell? ⟨g, 1, none⟩ = some y := ⟨h.cell 0, h.cell 1⟩
/-- The slots and the meta, as they lie. -/
structure TR (w wx : World) (gs gm : Nat) (a b : ByteArray) (m : Mt) : Prop where
  S : Blk wx gs 9 #[.string a, .string b]
  M : Blk wx gm 59 (mcells m)
  B : Below w.heap.size w wx
  lo : w.heap.size ≤ gs
section
variable {w wx w' : World} {gs gm : Nat} {a b : ByteArray} {m : Mt}
theorem TR.below (h : TR w wx gs gm a b m) (hb : Below wx.heap.size wx w') : TR w w' gs gm a b m := ⟨h.S.below hb, h.M.below hb, below_of hb h.B h.B.size, h.lo⟩
theorem TR.alloc (h : TR w wx gs gm a b m) (o : Obj) : TR w (wx.alloc o) gs gm a b m := h.below ((Below.refl _ _).alloc (Nat.le_refl _) o)
theorem TR.drew (h : TR w wx gs gm a b m) : TR w wx.drew gs gm a b m := h.below (Below.refl _ _).drew
theorem TR.drewN (h : TR w wx gs gm a b m) (n : Nat) : TR w (wx.drewN n) gs gm a b m := h.below (below_drewN (Below.refl _ _) n)
theorem TR.far (h : TR w wx gs gm a b m) {p : Addr} (h1 : gs ≠ p.block) (h2 : gm ≠ p.block) (h3 : w.heap.size ≤ p.block) (u : Value) : TR w (wx.setCell p u) gs gm a b m := ⟨h.S.far h1 u, h.M.far h2 u, h.B.setCell h3 u, h.lo⟩
theorem TR.far4 (h : TR w wx gs gm a b m) (g : Nat) (h1 : gs ≠ g) (h2 : gm ≠ g) (h3 : w.heap.size ≤ g) (u0 u1 u2 u3 : Value) : TR w ((((wx.setCell ⟨g, 0, none⟩ u0).setCell ⟨g, 1, none⟩ u1).setCell ⟨g, 2, none⟩ u2).setCell ⟨g, 3, none⟩ u3) gs gm a b m :=
  (((h.far (p := ⟨g, 0, none⟩) h1 h2 h3 u0).far (p := ⟨g, 1, none⟩) h1 h2 h3 u1).far (p := ⟨g, 2, none⟩) h1 h2 h3 u2).far (p := ⟨g, 3, none⟩) h1 h2 h3 u3
theorem TR.ne (h : TR w wx gs gm a b m) : gs ≠ gm := Blk.ne_ h.S h.M (by decide)
theorem TR.way2 (h : TR w wx gs gm a b m) (o : Obj) (b5 : Below (wx.alloc o).drew.heap.size (wx.alloc o).drew w') (u0 u1 u2 u3 : Value) :
    TR w ((((w'.setCell ⟨wx.heap.size, 0, none⟩ u0).setCell ⟨wx.heap.size, 1, none⟩ u1).setCell ⟨wx.heap.size, 2, none⟩ u2).setCell ⟨wx.heap.size, 3, none⟩ u3) gs gm a b m :=
  (((h.alloc o).drew).below b5).far4 _ (Nat.ne_of_lt h.S.lt) (Nat.ne_of_lt h.M.lt) h.B.size _ _ _ _
theorem TR.slot0 (h : TR w wx gs gm a b m) (s : ByteArray) : TR w (wx.setCell ⟨gs, 0, none⟩ (.string s)) gs gm s b m := ⟨h.S.set_ 0 _, h.M.far (Ne.symm h.ne) _, h.B.setCell h.lo _, h.lo⟩
theorem TR.slot1 (h : TR w wx gs gm a b m) (s : ByteArray) : TR w (wx.setCell ⟨gs, 1, none⟩ (.string s)) gs gm a s m := ⟨h.S.set_ 1 _, h.M.far (Ne.symm h.ne) _, h.B.setCell h.lo _, h.lo⟩
end
/-- The two slots' bytes. -/
def sl (a b : ByteArray) (j : Nat) : List UInt8 := if j = 0 then bts a else bts b

theorem bts_nil {a : ByteArray} (h : bts a = []) : a = ⟨#[]⟩ := bts_inj h
theorem torn_bts (S OLD : ByteArray) (l l' : List UInt8) (hS : bts S = l) (hO : bts OLD = l') (hz : OLD.size = 256) (cut : Nat) : bts (S.extract 0 cut ++ OLD.extract cut 256) = l.take cut ++ l'.drop cut := by
  have e : l'.take 256 = l' := List.take_of_length_le (by rw [← hO, bts_len]; omega)
  rw [bts_append, bts_extract, bts_extract, hS, hO, e]; rfl
theorem old_str (a : ByteArray) (h : bts a = [] ∨ (bts a).length = 256) : ∃ OLD : ByteArray, OLD.size = 256 ∧ bts OLD = oldL (bts a) ∧ (a = ⟨#[]⟩ ∧ OLD = bs (zerosL 256) ∨ (a.size = 256 ∧ (a.toList == []) = false ∧ a.toList.isEmpty = false) ∧ a = OLD) := by
  rcases h with h | h
  · exact ⟨bs (zerosL 256), by rw [bs_size]; exact List.length_replicate, by rw [bts_bs, h]; rfl, .inl ⟨bts_nil h, rfl⟩⟩
  · have hne : bts a ≠ [] := fun e => by rw [e] at h; cases h
    refine ⟨a, by rw [← bts_len]; exact h, (if_neg hne).symm, .inr ⟨⟨by rw [← bts_len]; exact h, ?_, ?_⟩, rfl⟩⟩
    · rw [ByteArray.toList_eq]; cases h : a.data.toList; exact absurd h hne; rfl
    · rw [ByteArray.toList_eq]; cases h : a.data.toList; exact absurd h hne; rfl
/-- One meta more, in the program's own words. -/
theorem turn_str {tx : Nat} {a b : ByteArray} (h : SlotsOk tx (sl a b)) {m : Mt} (hm : okM m) (ht : m.tx = (tx : Int) + 1) (htx : tx ≤ 1000) {cut : Nat} (hc : cut ≤ 256) :
    ∃ (S OLD T : ByteArray) (x : Mt) (f : Int), S = bs (layM m) ∧ S.size = 256 ∧ OLD.size = 256 ∧ T = S.extract 0 cut ++ OLD.extract cut 256 ∧
      (((T.toList == S.toList) = true ∧ f = 0 ∧ x = m) ∨ ((T.toList == S.toList) = false ∧ (tx = 0 ∧ f = 25 ∨ 1 ≤ tx ∧ f = 0 ∧ x.tx = (tx : Int)))) ∧
      ((((tx : Int) + 1) % 2 = 0 ∧ (a = ⟨#[]⟩ ∧ OLD = bs (zerosL 256) ∨ (a.size = 256 ∧ (a.toList == []) = false ∧ a.toList.isEmpty = false) ∧ a = OLD) ∧ SlotsOk (tx + 1) (sl S b) ∧
        (∀ w, Calls Try.prog 44 #[.string T, .string b] w fun e w' => e = .returned (.tuple #[metaV x, .int .i64 f]) ∧ Below w.heap.size w w') ∧
        (∀ w, Calls Try.prog 44 #[.string S, .string b] w fun e w' => e = .returned (.tuple #[metaV m, .int .i64 0]) ∧ Below w.heap.size w w')) ∨
       (((tx : Int) + 1) % 2 = 1 ∧ (b = ⟨#[]⟩ ∧ OLD = bs (zerosL 256) ∨ (b.size = 256 ∧ (b.toList == []) = false ∧ b.toList.isEmpty = false) ∧ b = OLD) ∧ SlotsOk (tx + 1) (sl a S) ∧
        (∀ w, Calls Try.prog 44 #[.string a, .string T] w fun e w' => e = .returned (.tuple #[metaV x, .int .i64 f]) ∧ Below w.heap.size w w') ∧
        (∀ w, Calls Try.prog 44 #[.string a, .string S] w fun e w' => e = .returned (.tuple #[metaV m, .int .i64 0]) ∧ Below w.heap.size w w'))) := by
  obtain ⟨p1, p2, x, f, p3, p4⟩ := turn_plain h hm ht htx hc
  have hS : bts (bs (layM m)) = layM m := bts_bs _
  have hSz : (bs (layM m)).size = 256 := by rw [bs_size]; exact layM_len hm
  rcases p3 with ⟨q, c1, c2⟩ | ⟨q, c1, c2⟩
  · have q' : tx % 2 = 1 := by omega
    rw [q] at p1 p4
    rw [q'] at p2
    have p1' : bts a = [] ∨ (bts a).length = 256 := p1
    have p2' : bts b = [] ∨ (bts b).length = 256 := p2
    obtain ⟨OLD, o1, o2, o3⟩ := old_str a p1'
    have hT := torn_bts (bs (layM m)) OLD _ _ hS o2 o1 cut
    have hbz : b.size ≤ 256 := by rw [← bts_len]; rcases p2' with h | h <;> rw [h] <;> first | decide | omega
    refine ⟨bs (layM m), OLD, _, x, f, rfl, hSz, o1, rfl, ?_, .inl ⟨by omega, o3, slots_next h hm ht (by rw [q]; exact hS) (by rw [q']; rfl), fun w => choose_str _ _ (by rw [ByteArray.size_append, ByteArray.size_extract, ByteArray.size_extract]; omega) (by omega) x f (by rw [hT]; exact c1) w, fun w => choose_str _ _ (by omega) (by omega) m 0 (by rw [hS]; exact c2) w⟩⟩
    rcases p4 with ⟨r1, r2, r3⟩ | ⟨r1, r2⟩
    · exact .inl ⟨by rw [str_beq, hT, hS]; exact decide_eq_true r1, r2, r3⟩
    · exact .inr ⟨by rw [str_beq, hT, hS]; exact decide_eq_false r1, r2⟩
  · have q' : tx % 2 = 0 := by omega
    rw [q] at p1 p4
    rw [q'] at p2
    have p1' : bts b = [] ∨ (bts b).length = 256 := p1
    have p2' : bts a = [] ∨ (bts a).length = 256 := p2
    obtain ⟨OLD, o1, o2, o3⟩ := old_str b p1'
    have hT := torn_bts (bs (layM m)) OLD _ _ hS o2 o1 cut
    have hbz : a.size ≤ 256 := by rw [← bts_len]; rcases p2' with h | h <;> rw [h] <;> first | decide | omega
    refine ⟨bs (layM m), OLD, _, x, f, rfl, hSz, o1, rfl, ?_, .inr ⟨by omega, o3, slots_next h hm ht (by rw [q]; exact hS) (by rw [q']; rfl), fun w => choose_str _ _ (by omega) (by rw [ByteArray.size_append, ByteArray.size_extract, ByteArray.size_extract]; omega) x f (by rw [hT]; exact c1) w, fun w => choose_str _ _ (by omega) (by omega) m 0 (by rw [hS]; exact c2) w⟩⟩
    rcases p4 with ⟨r1, r2, r3⟩ | ⟨r1, r2⟩
    · exact .inl ⟨by rw [str_beq, hT, hS]; exact decide_eq_true r1, r2, r3⟩
    · exact .inr ⟨by rw [str_beq, hT, hS]; exact decide_eq_false r1, r2⟩

set_option maxRecDepth 100000 in
set_option maxHeartbeats 40000000 in
theorem turns_yes (A : Option Addr) (n c : Nat) (ms : List Mt) (cut : Nat) (w : World) (hr : Rd w A (flatM ms)) (hn : ms.length = n) (h30 : n ≤ 30) (hc : cut ≤ 256) :
    Calls Try.prog 10 #[.slice A n c, .int .i64 cut] w fun e w' => e = .returned (.bool true) ∧ Below w.heap.size w w' := by
  have HR := Lib.hid hr
  have HN := Lib.hid hn
  have hc' : (cut : Int) ≤ 256 := by omega
  have hnn : (n : Int) ≤ 30 := by omega
  clear hr hn
  go_enter Try.func10, Try.ntmps10
  go_wp2_with (go_at_call 35; refine (alive6_any _).mono ?_; rintro e w1 ⟨rfl, b1⟩)
  go_loopw [4, 6, 7] (fun u4 u6 u7 wr => ∃ (k tx : Nat) (a b : ByteArray), k ≤ n ∧ tx ≤ k ∧ u7 = .int .i64 k ∧ u6 = .int .i64 tx ∧ SlotsOk tx (sl a b) ∧ Blk wr w1.heap.size 9 #[.string a, .string b] ∧ Below w.heap.size w wr) (fun _ _ u7 _ => n - (intOf u7).toNat)
  case atStart => exact ⟨0, 0, ⟨#[]⟩, ⟨#[]⟩, by omega, by omega, rfl, rfl, .inl ⟨rfl, rfl, rfl⟩, Blk.new _ _ _, b1.alloc b1.size _⟩
  case round =>
    obtain ⟨k, tx, a, b, hk, htk, rfl, rfl, hSl, hS, hB⟩ := hrel
    have HSl := Lib.hid hSl
    have hlo : w.heap.size ≤ w1.heap.size := b1.size
    clear hSl
    by_cases hlt : k < n
    · obtain ⟨m0, hm0⟩ : ∃ m, ms[k]? = some m := ⟨ms[k]'(by have := HN.out; omega), List.getElem?_eq_getElem _⟩
      obtain ⟨bb, o, rfl, hb, hcs⟩ := HR.out.flat (by rw [flatM_len]; have := HN.out; omega)
      have hcc : ∀ j x, m0.cells[j]? = some x → wr.cell? ⟨bb, o + (k * 4 + j), none⟩ = some x := fun j x hj => by
        rw [(below_cells hB).1 bb _ hb]; exact hcs _ x (flatM_at ms k m0 hm0 j x hj)
      obtain ⟨t0, ro, fr, pg⟩ := m0
      have d0 : wr.cell? ⟨bb, o + k * 4, none⟩ = some (.int .i64 t0) := by have := hcc 0 _ rfl; simpa using this
      have d1 : wr.cell? ⟨bb, o + k * 4 + 1, none⟩ = some (.int .i64 ro) := by have := hcc 1 _ rfl; rwa [← Nat.add_assoc] at this
      have d2 : wr.cell? ⟨bb, o + k * 4 + 2, none⟩ = some (.int .i64 fr) := by have := hcc 2 _ rfl; rwa [← Nat.add_assoc] at this
      have d3 : wr.cell? ⟨bb, o + k * 4 + 3, none⟩ = some (.int .i64 pg) := by have := hcc 3 _ rfl; rwa [← Nat.add_assoc] at this
      have hV := fun w => mvalid_any ((tx : Int) + 1) ro fr pg w
      have T0 : TR w (wr.alloc (.cells #[.int .i64 ((tx : Int) + 1), .int .i64 ro, .int .i64 fr, .int .i64 pg] 59)) w1.heap.size wr.heap.size a b ⟨(tx : Int) + 1, ro, fr, pg⟩ := ⟨hS.alloc _, Blk.new _ _ _, hB.alloc hB.size _, hlo⟩
      clear hcs hcc hm0
      by_cases hok : okM ⟨(tx : Int) + 1, ro, fr, pg⟩
      · rw [decide_eq_true hok] at hV
        have hL : ∀ w, Calls Try.prog 36 #[m4 ((tx : Int) + 1) ro fr pg] w fun e w' => e = .returned (.tuple #[.string (bs (layM ⟨(tx : Int) + 1, ro, fr, pg⟩)), .int .i64 0]) ∧ Below w.heap.size w w' := fun w => by
          obtain ⟨a', r', f', p', hm⟩ := okM_nats hok
          injection hm with m1 m2 m3 m4'
          have := mlay_ok a' r' f' p' w (by rw [← m1, ← m2, ← m3, ← m4']; exact hok)
          rw [← m1, ← m2, ← m3, ← m4'] at this; exact this
        obtain ⟨S, OLD, T, x, f, hSe, hSz, hOz, hTe, hX, hq⟩ := turn_str HSl.out hok rfl (by omega) hc
        rw [← hSe] at hL
        have HV := Lib.hid hV
        have HL := Lib.hid hL
        have HX := Lib.hid hX
        have hTT := hTe.symm
        have HT0 := Lib.hid T0
        have hneS : ((S.size : Int) != 256) = false := by rw [hSz]; rfl
        clear hV hok T0 hS hSe hL hX hTe
        rcases hq with ⟨q, ho, hnext, hC1, hC2⟩ | ⟨q, ho, hnext, hC1, hC2⟩
        · have HNX := Lib.hid hnext
          have HC1 := Lib.hid hC1
          have HC2 := Lib.hid hC2
          have HO := Lib.hid ho
          have hslot : ∀ w, Calls Try.prog 41 #[.int .i64 ((tx : Int) + 1)] w fun e w' => e = .returned (.int .i64 0) ∧ w' = w := fun w => by
            have := slot_any ((tx : Int) + 1) w; rw [q] at this; exact this
          have HSLOT := Lib.hid hslot
          clear hnext hC1 hC2 hslot ho
          go_wp2_with fail
          refine (HV.out _).mono ?_; rintro e w2 ⟨rfl, b2⟩
          have T2 := HT0.out.below b2
          have c2 := T2.M.cell
          go_wp2_with fail
          refine (HL.out _).mono ?_; rintro e w3 ⟨rfl, b3⟩
          have T3 := T2.below b3
          have c3 := T3.M.cell
          have s3 := turns_row2 T3.S
          clear c2
          go_wp2_with fail
          refine (HSLOT.out _).mono ?_; rintro e w4 ⟨rfl, hw4⟩; subst hw4
          go_upto_if 77 with fail
          try rw [q]
          clear q
          go_cut [12] from 77 to 78 (fun u wx => u = .string OLD ∧ TR w wx w1.heap.size wr.heap.size a b ⟨(tx : Int) + 1, ro, fr, pg⟩)
          case first =>
            rcases HO.out with ⟨h1, hOLD⟩ | ⟨⟨o1, o2, o3⟩, h1⟩
            · subst h1
              have HZ : Hid (∀ w, Calls Try.prog 26 #[.int .i64 256] w fun e w' => e = .returned (.string OLD) ∧ Below w.heap.size w w') := fun w => by rw [hOLD]; exact refzeros_any 256 w (by omega)
              have e0 : ((⟨#[]⟩ : ByteArray).toList == []) = true := by rw [ByteArray.toList_eq]; rfl
              have e1 : (⟨#[]⟩ : ByteArray).toList.isEmpty = true := by rw [ByteArray.toList_eq]; rfl
              clear hOLD
              go_wp2_with (go_at_call 26; refine (HZ.out _).mono ?_; rintro e w5 ⟨rfl, b5⟩)
              · go_meet
                exact ⟨rfl, T3.below b5⟩
              · exfalso
                have h := ‹(⟨#[]⟩ : ByteArray).toList.isEmpty = false›
                rw [e1] at h; cases h
            · subst h1
              go_wp2_with fail
              · exfalso
                have h := ‹a.toList.isEmpty = true›
                rw [o3] at h; cases h
              · go_meet
                exact ⟨rfl, T3⟩
          case rest =>
          obtain ⟨rfl, T4⟩ := hcut
          clear T3 c3 s3
          go_wp2_with fail
          go_quiet (fail)
          go_upto_region 21 with fail
          have T5 := T4.drewN nq
          have s5 := turns_row2 T5.S
          generalize wc.drewN nq = W5 at T5 s5 ⊢
          clear T4
          go_cut [14] from 86 to 92 (fun u wx => ∃ gt : Nat, u = .slice (some ⟨gt, 0, none⟩) 2 2 ∧ Blk wx gt 9 #[.string a, .string b] ∧ gt ≠ w1.heap.size ∧ wr.heap.size < gt ∧ TR w wx w1.heap.size wr.heap.size a b ⟨(tx : Int) + 1, ro, fr, pg⟩)
          case first =>
            go_region
            all_goals (go_wp2_with fail; go_meet)
            all_goals first
              | exact ⟨_, rfl, Blk.new _ _ _, Nat.ne_of_gt T5.S.lt, T5.M.lt, T5.alloc _⟩
              | exact ⟨_, rfl, (Blk.new _ _ _).drew, Nat.ne_of_gt T5.S.lt, T5.M.lt, (T5.alloc _).drew⟩
              | exact ⟨_, rfl, Blk.new _ _ _, Nat.ne_of_gt T5.S.lt, T5.M.lt, T5.drew.alloc _⟩
              | exact ⟨_, rfl, (Blk.new _ _ _).drewN _, Nat.ne_of_gt T5.S.lt, T5.M.lt, (T5.alloc _).drewN _⟩
          case rest =>
          obtain ⟨gt, rfl, hT6, hne6, hgt6, T6⟩ := hcut
          have cT6 := hT6.cell 0
          have fT6 := hT6.free 0
          simp at cT6
          go_upto_region 23 with fail
          have hT7 := hT6.set_ 0 (.string T)
          have T7 : TR w (wc.setCell ⟨gt, 0, none⟩ (.string T)) w1.heap.size wr.heap.size a b ⟨(tx : Int) + 1, ro, fr, pg⟩ := T6.far (p := ⟨gt, 0, none⟩) (Ne.symm hne6) (Nat.ne_of_lt hgt6) (by show _ ≤ gt; have := hB.size; omega) _
          generalize wc.setCell ⟨gt, 0, none⟩ (.string T) = W7 at hT7 T7 ⊢
          clear T6 hT6 cT6 fT6 T5 s5
          go_cut [15, 16] from 97 to 106 (fun u v wx => ∃ p : Nat, u = .pointer (some ⟨p, 0, none⟩) ∧ v = .int .i64 f ∧ Blk wx p 59 (mcells x) ∧ TR w wx w1.heap.size wr.heap.size a b ⟨(tx : Int) + 1, ro, fr, pg⟩)
          case first =>
              have A0 := turns_row2 hT7.drew
              have Az := turns_row2 (hT7.alloc (.cells #[.int .i64 0, .int .i64 0, .int .i64 0, .int .i64 0] 59)).drew
              have hne : (W7.heap.size = gt) = False := by have := hT7.lt; simp; omega
              go_region_held3 (fun w' => w'.cell? ⟨gt, 0, none⟩ = some (.string T) ∧ w'.cell? ⟨gt, 1, none⟩ = some (.string b))
                (first | exact A0 | with_reducible assumption | (simp only [cell_set_if, hne, false_and, if_false]; with_reducible assumption))
                (first
                  | (go_at_call 44; with_reducible refine (HC1.out W7.drew).mono ?_; rintro e w5 ⟨rfl, b5⟩; have R5 := hT7.drew.below b5; have D5 := turns_row2 R5; have D5z := turns_row2 (R5.alloc (.cells #[.int .i64 0, .int .i64 0, .int .i64 0, .int .i64 0] 59)); have R5a := R5.alloc (.cells #[.int .i64 x.tx, .int .i64 x.ro, .int .i64 x.fr, .int .i64 x.pg] 59); have D5a := turns_row2 R5a)
                  | (go_at_call 44; with_reducible refine (HC1.out (W7.alloc (.cells #[.int .i64 0, .int .i64 0, .int .i64 0, .int .i64 0] 59)).drew).mono ?_; rintro e w5 ⟨rfl, b5⟩; have R5 := (hT7.alloc (.cells #[.int .i64 0, .int .i64 0, .int .i64 0, .int .i64 0] 59)).drew.below b5; have D5 := turns_row2 R5; have Z5 := (Blk.new W7 59 #[.int .i64 0, .int .i64 0, .int .i64 0, .int .i64 0]).drew.below b5; have zc := Z5.cell; have zf := Z5.free))
              all_goals (go_wp2_with fail; go_meet)
              all_goals first
                | exact ⟨w5.heap.size, rfl, rfl, Blk.new _ _ _, (T7.drew.below b5).alloc _⟩
                | exact ⟨W7.heap.size, rfl, rfl, (((Z5.set_ 0 (.int .i64 x.tx)).set_ 1 (.int .i64 x.ro)).set_ 2 (.int .i64 x.fr)).set_ 3 (.int .i64 x.pg), T7.way2 _ b5 _ _ _ _⟩
          case rest =>
          obtain ⟨p8, rfl, rfl, hX8, T8⟩ := hcut
          have m8 := T8.M.cell
          have x8 := hX8.cell
          have s8 := T8.S.free 0
          have s9 := turns_row2 T8.S
          clear T7 hT7
          go_upto_region 24 with fail
          go_cut [150] from 107 to 150 (fun u wx => u = .bool false ∧ wx = wc)
          case first =>
            clear s8 s9
            rcases HX.out with ⟨t1, h2, h3⟩ | ⟨t1, ⟨h2, h3⟩ | ⟨h1, h2, h3⟩⟩
            · subst h2; subst h3
              go_wp2_with fail; go_meet; exact ⟨rfl, rfl⟩
            · subst h2; subst h3
              go_wp2_with fail; go_meet; exact ⟨rfl, rfl⟩
            · obtain ⟨x1, x2, x3, x4⟩ := x
              have h3' : x1 = (tx : Int) := h3
              subst h2; subst h3'
              have e0 : ((tx : Int) == 0) = false := by simp; omega
              have e1 : (0 : Int) < (tx : Int) := by omega
              go_wp2_with fail; go_meet; exact ⟨rfl, rfl⟩
          case rest =>
          obtain ⟨rfl, rfl⟩ := hcut
          go_upto_region 28 with fail
          have T9 := T8.slot0 S
          generalize World.setCell _ ⟨w1.heap.size, 0, none⟩ (.string S) = W9 at T9 ⊢
          clear T8 s8 s9 m8 x8 hX8
          go_cut [17, 18] from 157 to 166 (fun u v wx => ∃ p : Nat, u = .pointer (some ⟨p, 0, none⟩) ∧ v = .int .i64 0 ∧ Blk wx p 59 (mcells ⟨(tx : Int) + 1, ro, fr, pg⟩) ∧ TR w wx w1.heap.size wr.heap.size S b ⟨(tx : Int) + 1, ro, fr, pg⟩)
          case first =>
              have A0 := turns_row2 T9.S.drew
              have Az := turns_row2 (T9.S.alloc (.cells #[.int .i64 0, .int .i64 0, .int .i64 0, .int .i64 0] 59)).drew
              have hne : (W9.heap.size = w1.heap.size) = False := by have := T9.S.lt; simp; omega
              go_region_held3 (fun w' => w'.cell? ⟨w1.heap.size, 0, none⟩ = some (.string S) ∧ w'.cell? ⟨w1.heap.size, 1, none⟩ = some (.string b))
                (first | exact A0 | with_reducible assumption | (simp only [cell_set_if, hne, false_and, if_false]; with_reducible assumption))
                (first
                  | (go_at_call 44; with_reducible refine (HC2.out W9.drew).mono ?_; rintro e w5 ⟨rfl, b5⟩; have R5 := T9.S.drew.below b5; have D5 := turns_row2 R5; have D5z := turns_row2 (R5.alloc (.cells #[.int .i64 0, .int .i64 0, .int .i64 0, .int .i64 0] 59)); have R5a := R5.alloc (.cells #[.int .i64 ((tx : Int) + 1), .int .i64 ro, .int .i64 fr, .int .i64 pg] 59); have D5a := turns_row2 R5a)
                  | (go_at_call 44; with_reducible refine (HC2.out (W9.alloc (.cells #[.int .i64 0, .int .i64 0, .int .i64 0, .int .i64 0] 59)).drew).mono ?_; rintro e w5 ⟨rfl, b5⟩; have R5 := (T9.S.alloc (.cells #[.int .i64 0, .int .i64 0, .int .i64 0, .int .i64 0] 59)).drew.below b5; have D5 := turns_row2 R5; have Z5 := (Blk.new W9 59 #[.int .i64 0, .int .i64 0, .int .i64 0, .int .i64 0]).drew.below b5; have zc := Z5.cell; have zf := Z5.free))
              all_goals (go_wp2_with fail; go_meet)
              all_goals first
                | exact ⟨w5.heap.size, rfl, rfl, Blk.new _ _ _, (T9.drew.below b5).alloc _⟩
                | exact ⟨W9.heap.size, rfl, rfl, (((Z5.set_ 0 (.int .i64 ((tx : Int) + 1))).set_ 1 (.int .i64 ro)).set_ 2 (.int .i64 fr)).set_ 3 (.int .i64 pg), T9.way2 _ b5 _ _ _ _⟩
          case rest =>
          obtain ⟨p10, rfl, rfl, hX10, T10⟩ := hcut
          have m10 := T10.M.cell
          have x10 := hX10.cell
          go_wp2
          go_roundw
          case rel => exact ⟨k + 1, tx + 1, S, b, by omega, by omega, by go_num, by go_num, HNX.out, T10.S, T10.B⟩
          case measure => simp [intOf]; omega
        · have HNX := Lib.hid hnext
          have HC1 := Lib.hid hC1
          have HC2 := Lib.hid hC2
          have HO := Lib.hid ho
          have hslot : ∀ w, Calls Try.prog 41 #[.int .i64 ((tx : Int) + 1)] w fun e w' => e = .returned (.int .i64 1) ∧ w' = w := fun w => by
            have := slot_any ((tx : Int) + 1) w; rw [q] at this; exact this
          have HSLOT := Lib.hid hslot
          clear hnext hC1 hC2 hslot ho
          go_wp2_with fail
          refine (HV.out _).mono ?_; rintro e w2 ⟨rfl, b2⟩
          have T2 := HT0.out.below b2
          have c2 := T2.M.cell
          go_wp2_with fail
          refine (HL.out _).mono ?_; rintro e w3 ⟨rfl, b3⟩
          have T3 := T2.below b3
          have c3 := T3.M.cell
          have s3 := turns_row2 T3.S
          clear c2
          go_wp2_with fail
          refine (HSLOT.out _).mono ?_; rintro e w4 ⟨rfl, hw4⟩; subst hw4
          go_upto_if 77 with fail
          try rw [q]
          clear q
          go_cut [12] from 77 to 78 (fun u wx => u = .string OLD ∧ TR w wx w1.heap.size wr.heap.size a b ⟨(tx : Int) + 1, ro, fr, pg⟩)
          case first =>
            rcases HO.out with ⟨h1, hOLD⟩ | ⟨⟨o1, o2, o3⟩, h1⟩
            · subst h1
              have HZ : Hid (∀ w, Calls Try.prog 26 #[.int .i64 256] w fun e w' => e = .returned (.string OLD) ∧ Below w.heap.size w w') := fun w => by rw [hOLD]; exact refzeros_any 256 w (by omega)
              have e0 : ((⟨#[]⟩ : ByteArray).toList == []) = true := by rw [ByteArray.toList_eq]; rfl
              have e1 : (⟨#[]⟩ : ByteArray).toList.isEmpty = true := by rw [ByteArray.toList_eq]; rfl
              clear hOLD
              go_wp2_with (go_at_call 26; refine (HZ.out _).mono ?_; rintro e w5 ⟨rfl, b5⟩)
              · go_meet
                exact ⟨rfl, T3.below b5⟩
              · exfalso
                have h := ‹(⟨#[]⟩ : ByteArray).toList.isEmpty = false›
                rw [e1] at h; cases h
            · subst h1
              go_wp2_with fail
              · exfalso
                have h := ‹b.toList.isEmpty = true›
                rw [o3] at h; cases h
              · go_meet
                exact ⟨rfl, T3⟩
          case rest =>
          obtain ⟨rfl, T4⟩ := hcut
          clear T3 c3 s3
          go_wp2_with fail
          go_quiet (fail)
          go_upto_region 21 with fail
          have T5 := T4.drewN nq
          have s5 := turns_row2 T5.S
          generalize wc.drewN nq = W5 at T5 s5 ⊢
          clear T4
          go_cut [14] from 86 to 92 (fun u wx => ∃ gt : Nat, u = .slice (some ⟨gt, 0, none⟩) 2 2 ∧ Blk wx gt 9 #[.string a, .string b] ∧ gt ≠ w1.heap.size ∧ wr.heap.size < gt ∧ TR w wx w1.heap.size wr.heap.size a b ⟨(tx : Int) + 1, ro, fr, pg⟩)
          case first =>
            go_region
            all_goals (go_wp2_with fail; go_meet)
            all_goals first
              | exact ⟨_, rfl, Blk.new _ _ _, Nat.ne_of_gt T5.S.lt, T5.M.lt, T5.alloc _⟩
              | exact ⟨_, rfl, (Blk.new _ _ _).drew, Nat.ne_of_gt T5.S.lt, T5.M.lt, (T5.alloc _).drew⟩
              | exact ⟨_, rfl, Blk.new _ _ _, Nat.ne_of_gt T5.S.lt, T5.M.lt, T5.drew.alloc _⟩
              | exact ⟨_, rfl, (Blk.new _ _ _).drewN _, Nat.ne_of_gt T5.S.lt, T5.M.lt, (T5.alloc _).drewN _⟩
          case rest =>
          obtain ⟨gt, rfl, hT6, hne6, hgt6, T6⟩ := hcut
          have cT6 := hT6.cell 1
          have fT6 := hT6.free 1
          simp at cT6
          go_upto_region 23 with fail
          have hT7 := hT6.set_ 1 (.string T)
          have T7 : TR w (wc.setCell ⟨gt, 1, none⟩ (.string T)) w1.heap.size wr.heap.size a b ⟨(tx : Int) + 1, ro, fr, pg⟩ := T6.far (p := ⟨gt, 1, none⟩) (Ne.symm hne6) (Nat.ne_of_lt hgt6) (by show _ ≤ gt; have := hB.size; omega) _
          generalize wc.setCell ⟨gt, 1, none⟩ (.string T) = W7 at hT7 T7 ⊢
          clear T6 hT6 cT6 fT6 T5 s5
          go_cut [15, 16] from 97 to 106 (fun u v wx => ∃ p : Nat, u = .pointer (some ⟨p, 0, none⟩) ∧ v = .int .i64 f ∧ Blk wx p 59 (mcells x) ∧ TR w wx w1.heap.size wr.heap.size a b ⟨(tx : Int) + 1, ro, fr, pg⟩)
          case first =>
              have A0 := turns_row2 hT7.drew
              have Az := turns_row2 (hT7.alloc (.cells #[.int .i64 0, .int .i64 0, .int .i64 0, .int .i64 0] 59)).drew
              have hne : (W7.heap.size = gt) = False := by have := hT7.lt; simp; omega
              go_region_held3 (fun w' => w'.cell? ⟨gt, 0, none⟩ = some (.string a) ∧ w'.cell? ⟨gt, 1, none⟩ = some (.string T))
                (first | exact A0 | with_reducible assumption | (simp only [cell_set_if, hne, false_and, if_false]; with_reducible assumption))
                (first
                  | (go_at_call 44; with_reducible refine (HC1.out W7.drew).mono ?_; rintro e w5 ⟨rfl, b5⟩; have R5 := hT7.drew.below b5; have D5 := turns_row2 R5; have D5z := turns_row2 (R5.alloc (.cells #[.int .i64 0, .int .i64 0, .int .i64 0, .int .i64 0] 59)); have R5a := R5.alloc (.cells #[.int .i64 x.tx, .int .i64 x.ro, .int .i64 x.fr, .int .i64 x.pg] 59); have D5a := turns_row2 R5a)
                  | (go_at_call 44; with_reducible refine (HC1.out (W7.alloc (.cells #[.int .i64 0, .int .i64 0, .int .i64 0, .int .i64 0] 59)).drew).mono ?_; rintro e w5 ⟨rfl, b5⟩; have R5 := (hT7.alloc (.cells #[.int .i64 0, .int .i64 0, .int .i64 0, .int .i64 0] 59)).drew.below b5; have D5 := turns_row2 R5; have Z5 := (Blk.new W7 59 #[.int .i64 0, .int .i64 0, .int .i64 0, .int .i64 0]).drew.below b5; have zc := Z5.cell; have zf := Z5.free))
              all_goals (go_wp2_with fail; go_meet)
              all_goals first
                | exact ⟨w5.heap.size, rfl, rfl, Blk.new _ _ _, (T7.drew.below b5).alloc _⟩
                | exact ⟨W7.heap.size, rfl, rfl, (((Z5.set_ 0 (.int .i64 x.tx)).set_ 1 (.int .i64 x.ro)).set_ 2 (.int .i64 x.fr)).set_ 3 (.int .i64 x.pg), T7.way2 _ b5 _ _ _ _⟩
          case rest =>
          obtain ⟨p8, rfl, rfl, hX8, T8⟩ := hcut
          have m8 := T8.M.cell
          have x8 := hX8.cell
          have s8 := T8.S.free 1
          have s9 := turns_row2 T8.S
          clear T7 hT7
          go_upto_region 24 with fail
          go_cut [150] from 107 to 150 (fun u wx => u = .bool false ∧ wx = wc)
          case first =>
            clear s8 s9
            rcases HX.out with ⟨t1, h2, h3⟩ | ⟨t1, ⟨h2, h3⟩ | ⟨h1, h2, h3⟩⟩
            · subst h2; subst h3
              go_wp2_with fail; go_meet; exact ⟨rfl, rfl⟩
            · subst h2; subst h3
              go_wp2_with fail; go_meet; exact ⟨rfl, rfl⟩
            · obtain ⟨x1, x2, x3, x4⟩ := x
              have h3' : x1 = (tx : Int) := h3
              subst h2; subst h3'
              have e0 : ((tx : Int) == 0) = false := by simp; omega
              have e1 : (0 : Int) < (tx : Int) := by omega
              go_wp2_with fail; go_meet; exact ⟨rfl, rfl⟩
          case rest =>
          obtain ⟨rfl, rfl⟩ := hcut
          go_upto_region 28 with fail
          have T9 := T8.slot1 S
          generalize World.setCell _ ⟨w1.heap.size, 1, none⟩ (.string S) = W9 at T9 ⊢
          clear T8 s8 s9 m8 x8 hX8
          go_cut [17, 18] from 157 to 166 (fun u v wx => ∃ p : Nat, u = .pointer (some ⟨p, 0, none⟩) ∧ v = .int .i64 0 ∧ Blk wx p 59 (mcells ⟨(tx : Int) + 1, ro, fr, pg⟩) ∧ TR w wx w1.heap.size wr.heap.size a S ⟨(tx : Int) + 1, ro, fr, pg⟩)
          case first =>
              have A0 := turns_row2 T9.S.drew
              have Az := turns_row2 (T9.S.alloc (.cells #[.int .i64 0, .int .i64 0, .int .i64 0, .int .i64 0] 59)).drew
              have hne : (W9.heap.size = w1.heap.size) = False := by have := T9.S.lt; simp; omega
              go_region_held3 (fun w' => w'.cell? ⟨w1.heap.size, 0, none⟩ = some (.string a) ∧ w'.cell? ⟨w1.heap.size, 1, none⟩ = some (.string S))
                (first | exact A0 | with_reducible assumption | (simp only [cell_set_if, hne, false_and, if_false]; with_reducible assumption))
                (first
                  | (go_at_call 44; with_reducible refine (HC2.out W9.drew).mono ?_; rintro e w5 ⟨rfl, b5⟩; have R5 := T9.S.drew.below b5; have D5 := turns_row2 R5; have D5z := turns_row2 (R5.alloc (.cells #[.int .i64 0, .int .i64 0, .int .i64 0, .int .i64 0] 59)); have R5a := R5.alloc (.cells #[.int .i64 ((tx : Int) + 1), .int .i64 ro, .int .i64 fr, .int .i64 pg] 59); have D5a := turns_row2 R5a)
                  | (go_at_call 44; with_reducible refine (HC2.out (W9.alloc (.cells #[.int .i64 0, .int .i64 0, .int .i64 0, .int .i64 0] 59)).drew).mono ?_; rintro e w5 ⟨rfl, b5⟩; have R5 := (T9.S.alloc (.cells #[.int .i64 0, .int .i64 0, .int .i64 0, .int .i64 0] 59)).drew.below b5; have D5 := turns_row2 R5; have Z5 := (Blk.new W9 59 #[.int .i64 0, .int .i64 0, .int .i64 0, .int .i64 0]).drew.below b5; have zc := Z5.cell; have zf := Z5.free))
              all_goals (go_wp2_with fail; go_meet)
              all_goals first
                | exact ⟨w5.heap.size, rfl, rfl, Blk.new _ _ _, (T9.drew.below b5).alloc _⟩
                | exact ⟨W9.heap.size, rfl, rfl, (((Z5.set_ 0 (.int .i64 ((tx : Int) + 1))).set_ 1 (.int .i64 ro)).set_ 2 (.int .i64 fr)).set_ 3 (.int .i64 pg), T9.way2 _ b5 _ _ _ _⟩
          case rest =>
          obtain ⟨p10, rfl, rfl, hX10, T10⟩ := hcut
          have m10 := T10.M.cell
          have x10 := hX10.cell
          go_wp2
          go_roundw
          case rel => exact ⟨k + 1, tx + 1, a, S, by omega, by omega, by go_num, by go_num, HNX.out, T10.S, T10.B⟩
          case measure => simp [intOf]; omega
      · rw [decide_eq_false hok] at hV
        have HV := Lib.hid hV
        clear hV hok
        go_wp2_with (go_at_call 39; refine (HV.out _).mono ?_; rintro e w2 ⟨rfl, b2⟩; have T2 := T0.below b2)
        go_roundw
        case rel => exact ⟨k + 1, tx, a, b, by omega, by omega, by go_num, rfl, HSl.out, T2.S, T2.B⟩
        case measure => simp [intOf]; omega
    · go_wp2
      go_ret
      exact ⟨rfl, hB⟩
end Go.Proofs.Ytejmpfmkaiaklaa
