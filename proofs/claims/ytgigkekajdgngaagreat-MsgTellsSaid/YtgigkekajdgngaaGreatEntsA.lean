/-
  Entries copied, and compared: copyCmds, copyEntries, SameCmds, SameEntries, SameReq. Conditions: rows of no more than a hundred thousand.
-/
import Derived.Test.YtgigkekajdgngaaGreatPostE
import Derived.Test.YtgigkekajdgngaaGreatMtOne
import Derived.Test.YtgigkekajdgngaaGreatRowsEntries
namespace Go.Proofs.YtgigkekajdgngaaGreat
open Go Go.RowKit
attribute [local go_sem] cell_set_if

theorem flatCm_one (l : List Cm) : ∀ u ∈ flatCm l, u.oneCell' = true := flat_one Cm.cells (fun x u hu => by unfold Cm.cells at hu; simp at hu; rcases hu with rfl | rfl | rfl | rfl | rfl <;> rfl) l
theorem flatEn_one (l : List En) : ∀ u ∈ flatEn l, u.oneCell' = true := flat_one En.cells (fun x u hu => by unfold En.cells at hu; simp at hu; rcases hu with rfl | rfl | rfl | rfl | rfl <;> rfl) l
/-- An entry whose commands lie somewhere. -/
def En.has (w : World) (x : En) : Prop := Rd w x.A (flatCm x.cmds) ∧ x.cmds.length = x.n ∧ x.n ≤ 100000
theorem En.has.below {w w' : World} {x : En} (h : x.has w) (b : Below w.heap.size w w') : x.has w' := ⟨h.1.below b, h.2⟩
/-- An entry whose commands lie in a row of one's own. -/
def En.mine (w : World) (base : Nat) (x : En) : Prop := w.ownsRow base 117 5 x.row x.n (flatCm x.cmds) ∧ x.cmds.length = x.n ∧ x.n ≤ 100000
theorem En.mine.has {w : World} {base : Nat} {x : En} (h : x.mine w base) : x.has w := ⟨Rd.of_own h.1, h.2⟩
theorem En.mine.frm {w w' : World} {base : Nat} {x : En} {S : Nat → Prop} {Ts : List TypeId} (h : x.mine w base) (k : Frm S w w') (hS : TyS w S Ts) (hn : 117 ∉ Ts) : x.mine w' base := ⟨own_frm_ty h.1 k hS hn, h.2⟩
theorem En.mine.below {w w' : World} {base : Nat} {x : En} (h : x.mine w base) (b : Below w.heap.size w w') : x.mine w' base := ⟨own_frm h.1 (Frm.of_below b (S := no)) (fun _ _ => id), h.2⟩
theorem En.mine.low {w : World} {base base' : Nat} {x : En} (h : x.mine w base) (hb : base' ≤ base) : x.mine w base' := ⟨own_base h.1 hb, h.2⟩
theorem En.owned.mine {w : World} {base : Nat} {x : En} (h : x.owned w base) : x.mine w base := ⟨h.1, h.2.1, by have := h.2.2.1; omega⟩
theorem plE_eq {x y : En} (h : plE x = plE y) : x.index = y.index ∧ x.term = y.term ∧ x.client = y.client ∧ x.seq = y.seq ∧ x.n = y.n ∧ x.cmds = y.cmds := by
  refine ⟨?_, ?_, ?_, ?_, ?_, ?_⟩
  · show (plE x).index = (plE y).index; rw [h]
  · show (plE x).term = (plE y).term; rw [h]
  · show (plE x).client = (plE y).client; rw [h]
  · show (plE x).seq = (plE y).seq; rw [h]
  · show (plE x).n = (plE y).n; rw [h]
  · show (plE x).cmds = (plE y).cmds; rw [h]
theorem flatEn_set4 (xs : List En) (k : Nat) (hk : k < xs.length) (A : Option Addr) (n c : Nat) (hn : xs[k].n = n) : (flatEn xs).set (k * 5 + 4) (.slice A n c) = flatEn (xs.set k { xs[k] with A := A, c := c }) := by
  induction xs generalizing k with
  | nil => exact absurd hk (by simp)
  | cons y ys ih =>
    have e : ∀ (z : En) zs, flatEn (z :: zs) = .int .i64 z.index :: .int .i64 z.term :: .int .i64 z.client :: .int .i64 z.seq :: .slice z.A z.n z.c :: flatEn zs := fun _ _ => rfl
    cases k with
    | zero =>
      have hn' : y.n = n := hn
      subst hn'
      rw [e]; rfl
    | succ k =>
      have h := ih k (by simpa using hk) (by simpa using hn)
      rw [show (k + 1) * 5 + 4 = (k * 5 + 4) + 1 + 1 + 1 + 1 + 1 by omega, e, List.set_cons_succ, List.set_cons_succ, List.set_cons_succ, List.set_cons_succ, List.set_cons_succ, h]
      rfl
set_option maxRecDepth 100000 in
theorem copyCm_any (A : Option Addr) (n c : Nat) (xs : List Cm) (w : World) (hr : Rd w A (flatCm xs)) (hn : xs.length = n) (hn1 : n ≤ 100000) :
    Calls Tryz.prog 90 #[.slice A n c] w fun e w' => (∃ B d, e = .returned (.slice B n d) ∧ w'.ownsRow w.heap.size 117 5 (.slice B n d) n (flatCm xs)) ∧ Below w.heap.size w w' := by
  obtain ⟨i0, hi0, hz0, hz1, hz2⟩ := info_parts cmInfo
  go_enter Tryz.func90, Tryz.ntmps90
  go_wp2_with (first
    | (at_builtin
       refine wpList_app rfl (.const (.slice none 0 0)) (.tmp 3) 57 rfl w.heap.size 117 i0 _ 5 72 Tryz.underlying57 hi0 hz0 hz1 hz2 rfl (by omega) (.slice none 0 0) 0 _ rfl (World.ownsRow_nil _ _ _ _) A n c (flatCm xs) rfl hr (by rw [flatCm_len, hn]) (flatCm_one xs) (by unfold maxLen; omega) (by omega) (Nat.le_refl _) ?_
       intro v5 w5 hown5 hg5 hb5 hat5
       rw [Nat.zero_add, List.nil_append] at hown5
       obtain ⟨A1, c1, rfl, hc1⟩ := own_form hown5))
  go_ret
  exact ⟨⟨A1, c1, rfl, hown5⟩, hb5⟩
/-- Entries copied: a list of the call's own, that tells the same, with commands of its own. -/
inductive CopyEn (base : Nat) (e : Ending) (w' : World) (xs : List En) : Prop
  | mk (A : Option Addr) (n c : Nat) (ys : List En) (hn : ys.length = n) (he : e = .returned (.slice A n c)) (ho : w'.ownsRow base 61 5 (.slice A n c) n (flatEn ys)) (hp : ys.map plE = xs.map plE) (hm : ∀ y ∈ ys, y.mine w' base) : CopyEn base e w' xs
set_option maxRecDepth 100000 in
set_option maxHeartbeats 8000000 in
theorem copyEn_any (A : Option Addr) (n c : Nat) (xs : List En) (w : World) (hr : Rd w A (flatEn xs)) (hn : xs.length = n) (hn1 : n ≤ 100000) (hh : ∀ x ∈ xs, x.has w) :
    Calls Tryz.prog 25 #[.slice A n c] w fun e w' => CopyEn w.heap.size e w' xs ∧ Below w.heap.size w w' := by
  obtain ⟨i0, hi0, hz0, hz1, hz2⟩ := info_parts enInfo
  have HN := Lib.hid hn
  have HH := Lib.hid hh
  have hni : (n : Int) ≤ 100000 := by omega
  go_enter Tryz.func25, Tryz.ntmps25
  go_wp2_with (first
    | (at_builtin
       refine wpList_app rfl (.const (.slice none 0 0)) (.tmp 4) 22 rfl w.heap.size 61 i0 _ 5 56 Tryz.underlying22 hi0 hz0 hz1 hz2 rfl (by omega) (.slice none 0 0) 0 _ rfl (World.ownsRow_nil _ _ _ _) A n c (flatEn xs) rfl hr (by rw [flatEn_len, hn]) (flatEn_one xs) (by unfold maxLen; omega) (by omega) (Nat.le_refl _) ?_
       intro v5 w5 hown5 hg5 hb5 hat5
       rw [Nat.zero_add, List.nil_append] at hown5
       obtain ⟨A1, c1, rfl, hc1⟩ := own_form hown5))
  have HO5 := Lib.hid hown5
  have HB5 := Lib.hid hb5
  clear hr hn hh hown5 hb5 hg5 hat5
  go_loopw [3] (fun u3 wr => ∃ (k : Nat) (fs : List En), k ≤ n ∧ u3 = .int .i64 k ∧ Hid (fs.length = k ∧ fs.map plE = (xs.take k).map plE) ∧ Hid (wr.ownsRow w.heap.size 61 5 (.slice A1 n c1) n (flatEn (fs ++ xs.drop k))) ∧ Hid (∀ y ∈ fs, y.mine wr w.heap.size) ∧ Hid (Below w.heap.size w wr)) (fun u3 _ => n - (intOf u3).toNat)
  case atStart => exact ⟨0, [], by omega, rfl, ⟨rfl, rfl⟩, HO5.out, fun y hy => absurd hy (by simp), HB5.out⟩
  case round =>
    clear HO5 HB5
    obtain ⟨k, fs, hkn, rfl, HF, HO, HM, HB⟩ := hrel
    by_cases hlt : k < n
    · have hki : (k : Int) < (n : Int) := by omega
      obtain ⟨g, c2, hv, _⟩ := HO.out.form (by omega)
      have hA : A1 = some ⟨g, 0, none⟩ := by injection hv
      subst hA
      obtain ⟨x, hx⟩ : ∃ x, xs[k]? = some x := ⟨_, List.getElem?_eq_getElem (by have := HN.out; omega)⟩
      have hkx : k < xs.length := by have := HN.out; omega
      have hxe : xs[k] = x := by rw [List.getElem?_eq_getElem hkx] at hx; exact Option.some.inj hx
      have hd : xs.drop k = x :: xs.drop (k + 1) := by rw [List.drop_eq_getElem_cons hkx, hxe]
      have hat : (fs ++ xs.drop k)[k]? = some x := by rw [List.getElem?_append_right (by have := HF.out.1; omega), HF.out.1, Nat.sub_self, hd]; rfl
      have hlen : k < (fs ++ xs.drop k).length := (List.getElem?_eq_some_iff.1 hat).1
      obtain ⟨b1, o1, x', hA', _, hx', d0, d1, d2, d3, d4⟩ := (Rd.of_own HO.out).en (k := k) hlen
      injection hA' with hA'
      injection hA' with e1 e2
      subst e1 e2
      have hxx : x' = x := Option.some.inj (hx'.symm.trans hat)
      subst hxx
      rw [Nat.zero_add] at d4
      have z4 := own_free HO.out (k * 5 + 4)
      have hxh := HH.out x' (List.mem_of_getElem? hx)
      have hcp := copyCm_any x'.A x'.n x'.c x'.cmds wr (hxh.1.below HB.out) hxh.2.1 hxh.2.2
      have HC := Lib.hid hcp
      have HX := Lib.hid hx
      have HXH := Lib.hid hxh.2
      have hnx : (fs ++ xs.drop k)[k] = x' := by rw [List.getElem?_eq_getElem hlen] at hat; exact Option.some.inj hat
      have HSET : Hid (∀ B d, (flatEn (fs ++ xs.drop k)).set (k * 5 + 4) (.slice B x'.n d) = flatEn ((fs ++ [{ x' with A := B, c := d }]) ++ xs.drop (k + 1))) := fun B d => by
        rw [flatEn_set4 _ k hlen B x'.n d (by rw [hnx]), hnx, hd, List.set_append_right _ _ (by have := HF.out.1; omega), HF.out.1, Nat.sub_self, List.set_cons_zero, List.append_assoc]
        rfl
      have hgl : g < wr.heap.size := (HO.out.lt g rfl).2
      have hglo : w.heap.size ≤ g := (HO.out.lt g rfl).1
      clear hcp hx hxe hd hat hlen hx' hxh hnx d0 d1 d2 d3 hv hkx
      go_wp2_with (go_at_call 90; refine HC.out.mono ?_; rintro e w7 ⟨⟨B, d, rfl, ho7⟩, b7⟩
                   have O7 := own_frm HO.out (Frm.of_below b7 (S := no)) (fun _ _ => id)
                   have x7 : w7.cell? ⟨g, k * 5 + 4, none⟩ = some (.slice x'.A x'.n x'.c) := cell_b b7 d4
                   have z7 := own_free O7 (k * 5 + 4))
      have FS : Frm (at1 g) w7 (w7.setCell ⟨g, k * 5 + 4, none⟩ (.slice B x'.n d)) := (Frm.refl (at1 g) w7).setCell (p := ⟨g, k * 5 + 4, none⟩) (fun _ => rfl) _
      have TS : TyS w7 (at1 g) [61] := fun q _ hq => ⟨_, by simp, own_ty O7 (by have : q = g := hq; rw [this]; rfl)⟩
      have B7 := HB.out.trans (b7.mono HB.out.size)
      go_roundw
      case rel =>
        refine ⟨k + 1, fs ++ [{ x' with A := B, c := d }], by omega, by go_num, ?_, ?_, ?_, ?_⟩
        · have h := HF.out
          refine ⟨by rw [List.length_append, h.1]; rfl, ?_⟩
          rw [List.take_add_one, HX.out]
          simp only [List.map_append, h.2, List.map_cons, List.map_nil, Option.toList]
          rfl
        · show World.ownsRow _ _ _ _ _ _ _
          rw [← HSET.out B d]
          exact own_put O7 (by omega)
        · intro y hy
          rcases List.mem_append.1 hy with h | h
          · exact ((HM.out y h).below b7).frm FS TS (by decide)
          · rw [List.mem_singleton.1 h]
            have hm : En.mine w7 w.heap.size { x' with A := B, c := d } := ⟨own_base ho7 HB.out.size, HXH.out⟩
            exact hm.frm FS TS (by decide)
        · exact B7.setCell hglo _
      case measure => simp [intOf]; omega
    · obtain rfl : k = n := by omega
      go_wp2
      go_ret
      have ho := HO.out
      rw [List.drop_of_length_le (by have := HN.out; omega), List.append_nil] at ho
      have hp := HF.out.2
      rw [List.take_of_length_le (by have := HN.out; omega)] at hp
      exact ⟨⟨A1, k, c1, fs, HF.out.1, rfl, ho, hp, HM.out⟩, HB.out⟩
end Go.Proofs.YtgigkekajdgngaaGreat
