/-
  A book grows all its lists of entries. Conditions: fewer than a thousand lists, of no more than 4000 elements, all marked.
-/
import Derived.Test.YtgigkekajdgngaaGreatBookEntriesC
namespace Go.Proofs.YtgigkekajdgngaaGreat
open Go Go.RowKit
attribute [local go_sem] cell_set_if

/-- A book's lists are being grown: i of them stand grown behind u. -/
structure GrowEn (base : Nat) (w0 w : World) (g N : Nat) (n : Nat → Nat) (v1 v2 : Value) (V : List Value) (i : Nat) (u : Value) (G : List Value) : Prop where
  P : BookP base w g N (fun j => marksEn j 0 (n j)) v1 v2 V
  o : w.ownsRow w0.heap.size 22 1 u i G
  r : RowsEn w base G i (fun j => marksEn j 0 (n j + 72))
  bl : ∀ (j : Nat) (x : Value) (q : Nat), G[j]? = some x → x.ownBlock = some q → (∃ y, V[j]? = some y ∧ y.ownBlock = some q) ∨ w0.heap.size ≤ q
  F : Frm (VS V) w0 w
/-- A list's block is the kept one's, or a new one. -/
def FromEn (w0 : World) (V : List Value) (i : Nat) (G : List Value) (l : Value) : Prop :=
  ∀ q, l.ownBlock = some q → (∃ y, V[i]? = some y ∧ y.ownBlock = some q) ∨ (w0.heap.size ≤ q ∧ ∀ (j : Nat) (x : Value), G[j]? = some x → x.ownBlock ≠ some q)
section
variable {base g N i : Nat} {w0 w w' : World} {n : Nat → Nat} {v1 v2 u : Value} {V G : List Value}
theorem GrowEn.start (h : BookP base w g N (fun j => marksEn j 0 (n j)) v1 v2 V) : GrowEn base w w g N n v1 v2 V 0 (.slice none 0 0) [] :=
  ⟨h, World.ownsRow_nil _ _ _ _, ⟨rfl, fun i hi => by omega⟩, fun j x q hx => by simp at hx, Frm.refl _ _⟩
theorem GrowEn.below (h : GrowEn base w0 w g N n v1 v2 V i u G) (k : Below w.heap.size w w') : GrowEn base w0 w' g N n v1 v2 V i u G :=
  ⟨h.P.below k, own_frm h.o (S := no) (Frm.of_below k) (fun _ _ h => h), h.r.below k, h.bl, h.F.step k⟩
theorem GrowEn.app (h : GrowEn base w0 w g N n v1 v2 V i u G) (hV0 : ∀ (j : Nat) (y : Value) (q : Nat), V[j]? = some y → y.ownBlock = some q → q < w0.heap.size) {l : Value} {m : Nat} {xs : List Value} (hl : w.ownsRow base 61 5 l m xs) (hl' : w'.ownsRow base 61 5 l m xs)
    (hm : n i ≤ m) (hg : w.grownBy w' l.ownBlock) (hlb : FromEn w0 V i G l) : GrowEn base w0 w' g N n v1 v2 V i u G := by
  have F' : Frm (fun k => l.ownBlock = some k) w w' := (Frm.refl _ w).grown hg fun k hk _ => hk
  refine ⟨⟨h.P.lo, h.P.B.frm F' (Blk.own_ne h.P.B hl (by decide)), own_frm h.P.r1 F' (fun k hk hs => own_own h.P.r1 hl (by decide) hk hs), ⟨h.P.rV.len, fun j hj => ?_⟩, h.P.ap⟩, own_frm h.o F' (fun k hk hs => own_own h.o hl (by decide) hk hs), h.r.frm F' (fun j x q hx hq hs => ?_), h.bl, h.F.trans F' (fun k hk hs => ?_)⟩
  · obtain ⟨A, c, h1, h2⟩ := h.P.rV.at_ j hj
    refine ⟨A, c, h1, ?_⟩
    by_cases hc : j = i
    · subst hc
      exact own_thru hg hl hl' h2 fun _ => by simp only [marksEn_len]; exact hm
    · refine own_frm h2 F' fun q hq hs => ?_
      rcases hlb q hs with ⟨y, hy, hyq⟩ | ⟨hq0, _⟩
      · exact h.P.ap i j y _ q (fun e => hc e.symm) hy h1 hyq hq
      · have := hV0 j _ q h1 hq; omega
  · rcases hlb q hs with ⟨y, hy, hyq⟩ | ⟨_, hf⟩
    · rcases h.bl j x q hx hq with ⟨z, hz, hzq⟩ | hq0
      · have hj : j < i := by have := (List.getElem?_eq_some_iff.1 hx).1; rw [h.r.len] at this; exact this
        exact h.P.ap i j y z q (by omega) hy hz hyq hzq
      · have := hV0 i y q hy hyq; omega
    · exact hf j x hx hq
  · rcases hlb k hs with ⟨y, hy, hyq⟩ | ⟨hq0, _⟩
    · exact ⟨i, y, hy, hyq⟩
    · omega
theorem GrowEn.push (h : GrowEn base w0 w g N n v1 v2 V i u G) (h10 : ∀ q, v1.ownBlock = some q → q < w0.heap.size) {u' : Value} {A : Option Addr} {m c : Nat} (hm : m = n i + 72) (hl : w.ownsRow base 61 5 (.slice A m c) m (flatEn (marksEn i 0 m)))
    (hlb : FromEn w0 V i G (.slice A m c)) (hg : w.grownBy w' u.ownBlock) (hu : w'.ownsRow w0.heap.size 22 1 u' (i + 1) (G ++ [.slice A m c])) : GrowEn base w0 w' g N n v1 v2 V (i + 1) u' (G ++ [.slice A m c]) := by
  have F' : Frm (fun k => u.ownBlock = some k) w w' := (Frm.refl _ w).grown hg fun k hk _ => hk
  have hlo : ∀ q, u.ownBlock = some q → w0.heap.size ≤ q := fun q hq => (h.o.lt q hq).1
  have hgl := h.r.len
  refine ⟨⟨h.P.lo, h.P.B.frm F' (Blk.own_ne h.P.B h.o (by decide)), own_frm h.P.r1 F' (fun k hk hs => by have := h10 k hk; have := hlo k hs; omega), h.P.rV.frm F' (fun j x q hx hq hs => h.P.rV.ne h.o (by decide) j x q hx hq hs), h.P.ap⟩, hu, ?_, fun j x q hx hq => ?_, h.F.trans F' (fun k hk hs => by have := hlo k hs; omega)⟩
  · have R : RowsEn w' base G i (fun j => marksEn j 0 (n j + 72)) := h.r.frm F' fun j x q hx hq hs => h.r.ne h.o (by decide) j x q hx hq hs
    refine (R.snoc (marksEn_len i 0 m) (own_frm hl F' fun q hq hs => own_own h.o hl (by decide) hs hq)).congr fun j hj => ?_
    by_cases hc : j = i
    · subst hc; rw [if_pos rfl, hm]
    · rw [if_neg hc]
  · by_cases hc : j < G.length
    · rw [List.getElem?_append_left hc] at hx
      exact h.bl j x q hx hq
    · have hji : j = i := by
        have := (List.getElem?_eq_some_iff.1 hx).1
        rw [List.length_append, hgl] at this
        simp only [List.length_cons, List.length_nil] at this
        omega
      subst hji
      rw [List.getElem?_append_right (by omega), hgl, Nat.sub_self] at hx
      injection hx with hx
      subst hx
      rcases hlb q hq with h1 | ⟨h1, _⟩
      · exact .inl h1
      · exact .inr h1
end
/-- A list that an append gave is the kept one's, or a new one. -/
theorem FromEn.next {w0 w : World} {V G : List Value} {i : Nat} {l l' : Value} (h : FromEn w0 V i G l) (hlo : w0.heap.size ≤ w.heap.size) (hG : ∀ (j : Nat) (x : Value) (q : Nat), G[j]? = some x → x.ownBlock = some q → q < w.heap.size) (he : l'.ownBlock = l.ownBlock ∨ l'.ownBlock = some w.heap.size) : FromEn w0 V i G l' := by
  intro q hq
  rcases he with he | he
  · exact h q (by rw [← he]; exact hq)
  · rw [hq] at he
    injection he with he
    subst he
    exact .inr ⟨hlo, fun j x hx hq2 => by have := hG j x _ hx hq2; omega⟩

theorem growmark_any (i m q : Nat) (w : World) (hi : i ≤ 100000) (hm : m ≤ 100000) (hq : 0 < q) (hq2 : q ≤ 100000) :
    Calls Tryz.prog 117 #[.int .i64 i, .int .i64 m, .int .i64 q] w fun e w' => (∃ g c, e = .returned (.slice (some ⟨g, 0, none⟩) q c) ∧ w'.ownsRow w.heap.size 61 5 (.slice (some ⟨g, 0, none⟩) q c) q (flatEn (marksEn i m q))) ∧ Below w.heap.size w w' :=
  (markEn_any i m q w hi hm hq2).mono fun e w' ⟨⟨A, n, c, hn, he, ho⟩, hb⟩ => by
    rw [marksEn_len] at hn
    subst hn
    obtain ⟨g, c', hv, _⟩ := ho.form hq
    have hA : A = some ⟨g, 0, none⟩ := by injection hv
    subst hA
    exact ⟨⟨g, c, he, ho⟩, hb⟩
theorem growmark_one (i m : Nat) (w : World) (hi : i ≤ 100000) (hm : m ≤ 100000) :
    Calls Tryz.prog 117 #[.int .i64 i, .int .i64 m, .int .i64 1] w fun e w' => (∃ g c, e = .returned (.slice (some ⟨g, 0, none⟩) 1 c) ∧ w'.ownsRow w.heap.size 61 5 (.slice (some ⟨g, 0, none⟩) 1 c) 1 (flatEn (marksEn i m 1))) ∧ Below w.heap.size w w' := growmark_any i m 1 w hi hm (by omega) (by omega)
theorem growmark_many (i m : Nat) (w : World) (hi : i ≤ 100000) (hm : m ≤ 100000) :
    Calls Tryz.prog 117 #[.int .i64 i, .int .i64 m, .int .i64 60] w fun e w' => (∃ g c, e = .returned (.slice (some ⟨g, 0, none⟩) 60 c) ∧ w'.ownsRow w.heap.size 61 5 (.slice (some ⟨g, 0, none⟩) 60 c) 60 (flatEn (marksEn i m 60))) ∧ Below w.heap.size w w' := growmark_any i m 60 w hi hm (by omega) (by omega)
set_option maxRecDepth 100000 in
set_option maxHeartbeats 4000000 in
theorem growEn_any (base g N : Nat) (n : Nat → Nat) (v1 v2 : Value) (V : List Value) (w : World) (h : BookP base w g N (fun j => marksEn j 0 (n j)) v1 v2 V) (hN : N < 1000) (hn : ∀ j, n j ≤ 4000) (hb : base ≤ w.heap.size) :
    Calls Tryz.prog 75 #[.pointer (some ⟨g, 0, none⟩)] w fun e w' => ∃ A c G, e = .returned (.slice A N c) ∧ GrowEn base w w' g N n v1 v2 V N (.slice A N c) G := by
  obtain ⟨A1, c1, hv1, hc1⟩ := own_form h.r1
  obtain ⟨i0, hi0, hz0, hz1, hz2⟩ := info_parts enInfo
  obtain ⟨i1, hi1, hy0, hy1, hy2⟩ := info_parts rowinfo
  have hV0 : ∀ (j : Nat) (y : Value) (q : Nat), V[j]? = some y → y.ownBlock = some q → q < w.heap.size := fun j y q hy hq => (h.rV.lt j y q hy hq).2
  have h10 : ∀ q, v1.ownBlock = some q → q < w.heap.size := fun q hq => (h.r1.lt q hq).2
  have HV0 := Lib.hid hV0
  have H10 := Lib.hid h10
  have HV1 := Lib.hid hv1
  have HNB := Lib.hid hn
  have hNN : (N : Int) < 1000 := by omega
  have HS := Lib.hid (GrowEn.start h)
  clear h hv1 hn hV0 h10
  go_enter Tryz.func75, Tryz.ntmps75
  go_wp2
  go_loopw [3, 4] (fun u3 u4 wr => ∃ (i : Nat) (G : List Value), i ≤ N ∧ u4 = .int .i64 i ∧ GrowEn base w wr g N n v1 v2 V i u3 G) (fun _ u4 _ => N - (intOf u4).toNat)
  case atStart => exact ⟨0, [], by omega, rfl, HS.out⟩
  case round =>
    obtain ⟨i, G, hi, rfl, hK⟩ := hrel
    have e6 : wr.cell? ⟨g, 16, none⟩ = some (.slice A1 N c1) := by rw [hK.P.B.cell 16, HV1.out]; rfl
    by_cases hlt : i < N
    · obtain ⟨B1, d1, hV, hO⟩ := hK.P.rV.at_ i hlt
      simp only [marksEn_len] at hV hO
      have hR1 : Rd wr A1 V := Rd.of_own (by have := hK.P.r1; rwa [HV1.out] at this)
      obtain ⟨b1, o1, rfl, hb1, hcs1⟩ := hR1.flat (by rw [hK.P.rV.len]; omega)
      have x1 := hcs1 i _ hV
      have hii : (i : Int) < (N : Int) := by omega
      have hL := HNB.out i
      have hG0 : ∀ (j : Nat) (x : Value) (q : Nat), G[j]? = some x → x.ownBlock = some q → q < wr.heap.size := fun j x q hx hq => (hK.r.lt j x q hx hq).2
      obtain ⟨bs, hbs⟩ : ∃ bs, bs = wr.heap.size := ⟨_, rfl⟩
      rw [← hbs] at hG0
      have HG0 := Lib.hid hG0
      have hF0 : FromEn w V i G (.slice B1 (n i) d1) := fun q hq => .inl ⟨_, hV, hq⟩
      have HF0 := Lib.hid hF0
      have HO := Lib.hid hO
      have HK := Lib.hid hK
      have hws : w.heap.size ≤ wr.heap.size := hK.F.size
      obtain ⟨L, hLn⟩ : ∃ L, L = n i := ⟨_, rfl⟩
      have HLn := Lib.hid hLn
      rw [← hLn] at x1
      clear hO hR1 hcs1 hV hF0 hG0
      go_wp2
      go_loopw [5, 6] (fun u5 u6 wx => ∃ (t m : Nat) (Al : Option Addr) (cl : Nat), t ≤ 12 ∧ u6 = .int .i64 t ∧ m = n i + t ∧ u5 = .slice Al m cl ∧ bs ≤ wx.heap.size ∧ wx.ownsRow base 61 5 (.slice Al m cl) m (flatEn (marksEn i 0 m)) ∧ FromEn w V i G (.slice Al m cl) ∧ GrowEn base w wx g N n v1 v2 V i u3 G) (fun _ u6 _ => 12 - (intOf u6).toNat)
      case atStart => exact ⟨0, n i, B1, d1, by omega, rfl, rfl, by rw [← HLn.out], by omega, HO.out, HF0.out, HK.out⟩
      case round =>
        obtain ⟨t, m, Al, cl, ht, rfl, hm, rfl, hbx, hOl, hFl, hKl⟩ := hrel
        have hm12 : m ≤ 4012 := by omega
        have hM1 := growmark_one i m wr (by omega) (by omega)
        have hM60 := growmark_many i m wr (by omega) (by omega)
        have HM1 := Lib.hid hM1
        have HM60 := Lib.hid hM60
        have HM := Lib.hid hm
        have HAp : ∀ q, Hid (flatEn (marksEn i 0 m) ++ flatEn (marksEn i m q) = flatEn (marksEn i 0 (m + q))) := fun q => by unfold Hid; rw [← flatEn_app, marksEn_app]
        have HA1 := HAp 1
        have HA60 := HAp 60
        have hbw : base ≤ wr.heap.size := by omega
        have hGx : ∀ (w5 : World), wr.heap.size ≤ w5.heap.size → ∀ (j : Nat) (x : Value) (q : Nat), G[j]? = some x → x.ownBlock = some q → q < w5.heap.size := fun w5 h5 j x q hx hq => by have := HG0.out j x q hx hq; omega
        have HGx := Lib.hid hGx
        clear hM1 hM60 hm HAp hGx hLn
        by_cases htt : t < 12
        · have hti : (t : Int) < 12 := by omega
          go_wp2_with (first
            | (go_at_call 117; with_reducible refine HM1.out.mono ?_; rintro e w5 ⟨⟨g5, c5, rfl, ho5⟩, b5⟩; have O5 := own_frm hOl (S := no) (Frm.of_below b5) (fun _ _ h => h); have K5 := hKl.below b5; have s5 : wr.heap.size ≤ w5.heap.size := b5.size)
            | (at_builtin
               refine wpList_app2 rfl (.tmp 27) (.tmp 31) 22 rfl base 61 i0 _ 5 56 Tryz.underlying22 hi0 hz0 hz1 hz2 rfl (by omega) (.slice Al m cl) m (flatEn (marksEn i 0 m)) rfl O5 ⟨g5, 0, none⟩ 1 c5 (flatEn (marksEn i m 1)) rfl (Rd.of_own ho5) (by rw [flatEn_len, marksEn_len]) (flatEn_one _) (by unfold maxLen; omega) (by omega) (by omega) ?_
               intro v6 w6 ho6 hg6 hb6 hat6 hk6
               rw [HA1.out] at ho6
               obtain ⟨A6, c6', rfl, hc6⟩ := own_form ho6))
          go_roundw
          case rel => exact ⟨t + 1, m + 1, A6, c6', by omega, by go_num, by have := HM.out; omega, rfl, by have := hb6.size; have := hg6.size; omega, ho6, hFl.next (by omega) (HGx.out w5 s5) hat6, K5.app HV0.out O5 hk6 (by have := HM.out; omega) hg6 hFl⟩
          case measure => simp [intOf]; omega
        · have hti : (12 : Int) ≤ (t : Int) := by omega
          have hm72 : m + 60 = n i + 72 := by have := HM.out; omega
          have HM72 := Lib.hid hm72
          clear hm72
          go_wp2_with (first
            | (go_at_call 117; with_reducible refine HM60.out.mono ?_; rintro e w5 ⟨⟨g5, c5, rfl, ho5⟩, b5⟩; have O5 := own_frm hOl (S := no) (Frm.of_below b5) (fun _ _ h => h); have K5 := hKl.below b5; have s5 : wr.heap.size ≤ w5.heap.size := b5.size)
            | (at_builtin
               refine wpList_app2 rfl (.tmp 34) (.tmp 38) 22 rfl base 61 i0 _ 5 56 Tryz.underlying22 hi0 hz0 hz1 hz2 rfl (by omega) (.slice Al m cl) m (flatEn (marksEn i 0 m)) rfl O5 ⟨g5, 0, none⟩ 60 c5 (flatEn (marksEn i m 60)) rfl (Rd.of_own ho5) (by rw [flatEn_len, marksEn_len]) (flatEn_one _) (by unfold maxLen; omega) (by omega) (by omega) ?_
               intro v6 w6 ho6 hg6 hb6 hat6 hk6
               rw [HA60.out] at ho6
               obtain ⟨A6, c6', rfl, hc6⟩ := own_form ho6
               have K6 := K5.app HV0.out O5 hk6 (by have := HM.out; omega) hg6 hFl
               have F6 := hFl.next (by omega) (HGx.out w5 s5) hat6
               have K7 := K6.below ((Below.refl _ _).alloc (Nat.le_refl _) (.cells #[.slice A6 (m + 60) c6'] 22))
               have ho7 := ho6.alloc (.cells #[.slice A6 (m + 60) c6'] 22))
            | (at_builtin
               refine wpList_app rfl (.tmp 33) (.tmp 40) 37 rfl w.heap.size 22 i1 _ 1 24 Tryz.underlying37 hi1 hy0 hy1 hy2 rfl (by omega) u3 i G rfl K7.o _ 1 1 [.slice A6 (m + 60) c6'] rfl (Rd.one _ _ _) rfl (by simp [Value.oneCell']) (by unfold maxLen; omega) (by omega) (by have := hg6.size; simp; omega) ?_
               intro v8 w8 ho8 hg8 hb8 hat8))
          go_roundw
          case rel => exact ⟨i + 1, _, by omega, by go_num, K7.push H10.out HM72.out ho7 F6 hg8 ho8⟩
          case measure => simp [intOf]; omega
    · obtain rfl : i = N := by omega
      obtain ⟨A3, c3, rfl, hc3⟩ := own_form hK.o
      go_wp2
      go_ret
      exact ⟨A3, c3, G, rfl, hK⟩
end Go.Proofs.YtgigkekajdgngaaGreat
