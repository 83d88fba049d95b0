/-
  A write is done upon what is safe of a file: what redo does. Conditions: sectors are sectors; a place that a file may have; one byte at least is kept.
-/
import Derived.Test.YtfgpadikmnhldaaDiskD
import Derived.Test.YtfgpadikmnhldaaCloneS
import Derived.Test.YtfgpadikmnhldaaRepeat
import Derived.StillTailTactics
namespace Go.Proofs.Ytfgpadikmnhldaa
open Go Go.RowKit
attribute [local go_sem] cell_set_if

theorem dzeros_any (w : World) :
    Calls Try.prog 47 #[.string ⟨#[0]⟩, .int .i64 256] w fun e w' => e = .returned (.string zeros256) ∧ Below w.heap.size w w' :=
  (repeat_any ⟨#[0]⟩ 256 w (by omega) (by show 1 * 256 ≤ _; omega)).mono fun e w' ⟨he, hb⟩ => ⟨by
    rw [he]
    have : Lib.repeatL (ByteArray.data ⟨#[0]⟩).toList 256 = List.replicate 256 0 := by
      show Lib.repeatL (List.replicate 1 0) 256 = _
      rw [Lib.repeatL_replicate, Nat.mul_one]
    rw [this]; rfl, hb⟩
/-- So many sectors more are safe. -/
def padN (l : List ByteArray) (j : Nat) : List ByteArray := l ++ List.replicate j zeros256
theorem padN_len (l : List ByteArray) (j : Nat) : (padN l j).length = l.length + j := by unfold padN; rw [List.length_append, List.length_replicate]
theorem padN_succ (l : List ByteArray) (j : Nat) : padN l (j + 1) = padN l j ++ [zeros256] := by unfold padN; rw [List.replicate_succ', List.append_assoc]
theorem padN_done {l : List ByteArray} {j pos : Nat} (h1 : l.length + j ≤ max l.length (pos + 1)) (h2 : pos < l.length + j) : padN l j = padTo l (pos + 1) := by
  unfold padN padTo
  rw [show pos + 1 - l.length = j by omega]
theorem padN_size {l : List ByteArray} {j : Nat} (h : ∀ s ∈ l, s.size = 256) : ∀ s ∈ padN l j, s.size = 256 := fun s hs => by
  unfold padN at hs
  rcases List.mem_append.1 hs with hs | hs
  · exact h s hs
  · rw [(List.mem_replicate.1 hs).2]; exact zeros_size
set_option maxRecDepth 100000 in
set_option maxHeartbeats 4000000 in
theorem dredo_file {base b : Nat} {f : Fl} {vl vs : Value} (w : World) (hF : FileAt w base b f vl vs) (pos : Nat) (data : ByteArray) (hp : pos ≤ 4000) (hd : data.size = 256) (hl : f.safe.length ≤ 4001) (hs : ∀ s ∈ f.safe, s.size = 256)
    (hne : ∀ q, vl.ownBlock = some q → vs.ownBlock ≠ some q) (k : Nat) (hk0 : 0 < k) (hk : k ≤ 256) :
    Calls Try.prog 37 #[.agg #[.pointer (some ⟨b, 0, none⟩), .int .i64 pos, .string data], .int .i64 k] w fun e w' => e = .returned (.tuple #[]) ∧ ∃ vs', FileAt w' base b { f with safe := redoL f.safe pos data k, known := true } vl vs' ∧ Frm (fun q => q = b ∨ vs.ownBlock = some q) w w' ∧ ∀ q, vs'.ownBlock = some q → vs.ownBlock = some q ∨ w.heap.size ≤ q := by
  obtain ⟨i0, hi0, hz0, hz1, hz2⟩ := info_parts strInfoD
  have ba : Below w.heap.size w (w.alloc (.cells #[.pointer (some ⟨b, 0, none⟩), .int .i64 pos, .string data] 60)) := (Below.refl _ _).alloc (Nat.le_refl _) _
  have KW := Blk.new w 60 #[.pointer (some ⟨b, 0, none⟩), .int .i64 pos, .string data]
  have F0 := hF.frm (S := no) (Frm.of_below ba) (fun h => h) (fun _ _ h => h) (fun _ _ h => h)
  have hbw : b < w.heap.size := hF.blk.lt
  have hlo := hF.lo
  have hgw : ¬ (w.heap.size = b ∨ vs.ownBlock = some w.heap.size) := fun h => by
    rcases h with h | h
    · omega
    · have := (hF.os.lt _ h).2; omega
  have HFR : Hid (Frm (fun q => q = b ∨ vs.ownBlock = some q) w (w.alloc (.cells #[.pointer (some ⟨b, 0, none⟩), .int .i64 pos, .string data] 60))) := Frm.of_below ba
  have hOL := hF.ol.lt
  have hOS := hF.os.lt
  go_enter Try.func37, Try.ntmps37
  go_upto_region 1 with fail
  have hsz : w.heap.size ≤ (w.alloc (.cells #[.pointer (some ⟨b, 0, none⟩), .int .i64 pos, .string data] 60)).heap.size := ba.size
  generalize w.alloc (.cells #[.pointer (some ⟨b, 0, none⟩), .int .i64 pos, .string data] 60) = W at KW F0 HFR hsz ba ⊢
  obtain ⟨gw, hgwe⟩ : ∃ gw, gw = w.heap.size := ⟨_, rfl⟩
  rw [← hgwe] at KW hgw ⊢
  have w0 : W.cell? ⟨gw, 0, none⟩ = some (.pointer (some ⟨b, 0, none⟩)) := KW.cell 0
  have HKW := Lib.hid KW
  have HGW := Lib.hid hgw
  have HNE := Lib.hid hne
  have HS := Lib.hid hs
  have HOL := Lib.hid hOL
  have HOS := Lib.hid hOS
  have HGE := Lib.hid hgwe
  have HF0 := Lib.hid F0
  have hdi : (data.size : Int) = 256 := by omega
  have HD := Lib.hid hd
  clear hF ba F0 hgw hne hs hOL hOS hgwe KW hd
  go_wp2
  go_loopw [8] (fun u8 wr => ∃ (j : Nat) (vs' : Value), f.safe.length + j ≤ max f.safe.length (pos + 1) ∧ Hid (FileAt wr base b { f with safe := padN f.safe j } vl vs') ∧ Hid (Frm (fun q => q = b ∨ vs.ownBlock = some q) W wr) ∧ Hid (∀ q, vs'.ownBlock = some q → vs.ownBlock = some q ∨ W.heap.size ≤ q)) (fun _ wr => match wr.cell? ⟨b, 1, none⟩ with
    | some (.slice _ l _) => pos + 1 - l
    | _ => 0)
  case atStart => exact ⟨0, vs, by omega, by (have : padN f.safe 0 = f.safe := by unfold padN; simp); unfold Hid; rw [this]; exact HF0.out, Frm.refl _ _, fun q hq => .inl hq⟩
  case round =>
    obtain ⟨j, vs', hj, HF, HFW, HV⟩ := hrel
    obtain ⟨As, cs, hvs, hcs⟩ := own_form HF.out.os
    obtain ⟨L, hL⟩ : ∃ L, (padN f.safe j).length = L := ⟨_, rfl⟩
    have hLj1 : L ≤ f.safe.length + j := by rw [← hL]; exact Nat.le_of_eq (padN_len _ _)
    have hLj2 : f.safe.length + j ≤ L := by rw [← hL]; exact Nat.le_of_eq (padN_len _ _).symm
    have hL4 : L ≤ 4002 := by omega
    simp only at hvs hcs
    rw [hL] at hvs hcs
    have e1 : wr.cell? ⟨b, 1, none⟩ = some (.slice As L cs) := by rw [← hvs]; exact HF.out.blk.cell 1
    have hsw := HFW.out.size
    have gwl : gw < W.heap.size := HKW.out.lt
    have KR := HKW.out.frm HFW.out HGW.out
    have g1 : wr.cell? ⟨gw, 1, none⟩ = some (.int .i64 pos) := KR.cell 1
    have g2 : wr.cell? ⟨gw, 2, none⟩ = some (.string data) := KR.cell 2
    have HLL := Lib.hid hL
    have HKR := Lib.hid KR
    by_cases hlt : L ≤ pos
    · have hli : (L : Int) ≤ (pos : Int) := by omega
      have hm : (match wr.cell? ⟨b, 1, none⟩ with
        | some (.slice _ l _) => pos + 1 - l
        | _ => 0) = pos + 1 - L := by rw [e1]
      have HMS := Lib.hid hm
      clear hm KR hL
      subst hvs
      go_wp2
      go_quiet (fail)
      go_upto_region 3 with fail
      have FD := Lib.hid (HF.out.frm (S := no) (Frm.of_below ((Qt.drewN wr nq).below _)) (fun h => h) (fun _ _ h => h) (fun _ _ h => h))
      have hsd : (wr.drewN nq).heap.size = wr.heap.size := rfl
      have FRD := Lib.hid (HFW.out.step ((Qt.drewN wr nq).below _))
      generalize wr.drewN nq = V at FD FRD hsd ⊢
      have BV := Lib.hid (show Blk V.drew b 58 _ from FD.out.blk)
      have OS := Lib.hid (show V.drew.ownsRow base 9 1 (.slice As L cs) L (strs (padN f.safe j)) from by have := FD.out.os; simp only at this; rw [HLL.out] at this; exact this)
      have y0 : V.drew.cell? ⟨b, 1, none⟩ = some (.slice As L cs) := BV.out.cell 1
      have hbV : b < V.heap.size := FD.out.blk.lt
      have bd : Below V.heap.size V V.drew := (Below.refl _ _).drew
      have HZ := Lib.hid (dzeros_any V.drew)
      go_region_law (first
        | ((try go_simp); go_at_call 47; with_reducible refine HZ.out.mono ?_; rintro e w5 ⟨rfl, b5⟩
           have l5 : w5.cell? ⟨b, 1, none⟩ = some (.slice As L cs) := cell_b b5 y0
           have l5a : (w5.alloc (.cells #[.string zeros256] 9)).cell? ⟨b, 1, none⟩ = some (.slice As L cs) := cell_b ((Below.refl _ _).alloc (Nat.le_refl _) _) l5
           have R5 := own_frm OS.out (S := no) (Frm.of_below b5) (fun _ _ h => h)
           have B5 := BV.out.below b5)
        | (refine step_app rfl (.tmp 19) (.tmp 21) 32 rfl base 9 i0 _ 1 16 Try.underlying32 hi0 hz0 hz1 hz2 rfl (by omega) (.slice As L cs) L _ rfl (R5.alloc _) _ 1 1 [.string zeros256] rfl (Rd.one _ _ _) rfl (by simp [Value.oneCell']) (by unfold maxLen; omega) (by omega) (by have := b5.size; have := bd.size; simp; omega) ?_
           intro v6 w6 ho6 hg6 hb6 hat6
           obtain ⟨A6, c6, rfl, hc6⟩ := own_form ho6
           have F6 : Frm (fun k => (Value.slice As L cs).ownBlock = some k) w5 w6 := ((Frm.refl _ w5).alloc (.cells #[.string zeros256] 9)).grown hg6 (fun k hk _ => hk)
           have T6 : TyS w5 (fun k => (Value.slice As L cs).ownBlock = some k) [9] := fun k _ hk => ⟨_, by simp, own_ty R5 hk⟩
           have B6 := B5.frm_ty F6 T6 (by decide)
           have y6 : w6.cell? ⟨b, 1, none⟩ = some (.slice As L cs) := B6.cell 1
           have z6 := B6.free 1))
      all_goals
        have FS : Frm (at1 b) w6 (w6.setCell ⟨b, 1, none⟩ (.slice A6 (L + 1 : Nat) c6)) := (Frm.refl (at1 b) _).setCell (p := ⟨b, 1, none⟩) (fun _ => rfl) _
        have FX : Frm (fun q => q = b ∨ (Value.slice As L cs).ownBlock = some q) V (w6.setCell ⟨b, 1, none⟩ (.slice A6 (L + 1 : Nat) c6)) := (((Frm.of_below bd).step b5).then_ (F6.mono fun i _ hi => .inr hi)).then_ (FS.mono fun i _ hi => .inl hi)
        have hln : (padN f.safe (j + 1)).length = L + 1 := by rw [padN_len]; omega
        have HF7 : Hid (FileAt (w6.setCell ⟨b, 1, none⟩ (.slice A6 (L + 1 : Nat) c6)) base b { f with safe := padN f.safe (j + 1) } vl (.slice A6 (L + 1 : Nat) c6)) := by
          refine ⟨?_, HF.out.lo, ?_, ?_⟩
          · have := B6.set_ 1 (.slice A6 (L + 1 : Nat) c6)
            simpa using this
          · refine own_frm FD.out.ol FX fun q hq hs => ?_
            rcases hs with rfl | hs
            · exact FD.out.blk.own_ne FD.out.ol (by decide) hq
            · rcases HV.out q hs with h1 | h1
              · exact HNE.out q hq h1
              · have := (HOL.out q hq).2; omega
          · show World.ownsRow _ _ _ _ _ (padN f.safe (j + 1)).length (strs (padN f.safe (j + 1)))
            rw [hln, padN_succ, strs_app]
            exact own_frm ho6 FS (fun q hq e => B6.own_ne ho6 (by decide) (e ▸ hq))
        have HFR7 : Hid (Frm (fun q => q = b ∨ vs.ownBlock = some q) W (w6.setCell ⟨b, 1, none⟩ (.slice A6 (L + 1 : Nat) c6))) := FRD.out.trans FX fun i hi hs => by
          rcases hs with rfl | hs
          · exact .inl rfl
          · rcases HV.out i hs with h1 | h1
            · exact .inr h1
            · omega
        have HV7 : Hid (∀ q, (Value.slice A6 (L + 1 : Nat) c6).ownBlock = some q → vs.ownBlock = some q ∨ W.heap.size ≤ q) := fun q hq => by
          rcases hat6 with e | e
          · exact HV.out q (by rw [← e]; exact hq)
          · rw [e] at hq
            injection hq with hq
            have := b5.size; have := bd.size
            exact .inr (by rw [← hq]; simp; omega)
        have m7 : (w6.setCell ⟨b, 1, none⟩ (.slice A6 (L + 1 : Nat) c6)).cell? ⟨b, 1, none⟩ = some (.slice A6 (L + 1 : Nat) c6) := by rw [HF7.out.blk.cell 1]; rfl
        have HM7 := Lib.hid m7
        clear m7
        go_wp2
        go_roundw
        case rel => exact ⟨j + 1, _, by omega, HF7, HFR7, HV7⟩
        case measure => rw [HMS.out, HM7.out]; show pos + 1 - (L + 1) < pos + 1 - L; omega
    · have hli : (pos : Int) < (L : Int) := by omega
      have hP : padN f.safe j = padTo f.safe (pos + 1) := padN_done hj (by omega)
      obtain ⟨z, hz⟩ : ∃ z, (padN f.safe j)[pos]? = some z := ⟨_, List.getElem?_eq_getElem (by omega)⟩
      have hzs : z.size = 256 := padN_size HS.out z (List.mem_of_getElem? hz)
      have ho : wr.ownsRow base 9 1 vs' L (strs (padN f.safe j)) := by have := HF.out.os; simp only at this; rw [hL] at this; exact this
      rw [hvs] at ho
      obtain ⟨gs, cc, eg, hbg, hlc⟩ := ho.form (by omega)
      obtain rfl : As = some ⟨gs, 0, none⟩ := by injection eg
      have e3 : wr.cell? ⟨gs, pos, none⟩ = some (.string z) := by
        have := ho.cells (g := gs) rfl pos _ (strs_at hz)
        rwa [add_flat, Nat.zero_add] at this
      have f3 := own_free ho pos
      have hzi : (z.size : Int) = 256 := by omega
      have hki : (k : Int) ≤ 256 := by omega
      have hk0i : 0 ≤ (k : Int) := by omega
      have hpi : (pos : Int) ≤ 4000 := by omega
      have HO := Lib.hid ho
      have HP := Lib.hid hP
      have HZ := Lib.hid hz
      have HVS := Lib.hid hvs
      have HZS := Lib.hid hzs
      clear KR hL hP hz hvs ho eg hzs
      go_wp2
      go_quiet (fail)
      go_upto_region 4 with fail
      have FD := Lib.hid (HF.out.frm (S := no) (Frm.of_below ((Qt.drewN wr nq).below wr.heap.size).drew) (fun h => h) (fun _ _ h => h) (fun _ _ h => h))
      have FRD := Lib.hid (HFW.out.step ((Qt.drewN wr nq).below wr.heap.size).drew)
      have HOD := Lib.hid (show (wr.drewN nq).drew.ownsRow base 9 1 (.slice (some ⟨gs, 0, none⟩) L cs) L (strs (padN f.safe j)) from HO.out)
      have hsd : wr.heap.size ≤ (wr.drewN nq).drew.heap.size := Nat.le_refl _
      have e1d : (wr.drewN nq).drew.cell? ⟨b, 1, none⟩ = some (.slice (some ⟨gs, 0, none⟩) L cs) := e1
      have e3d : (wr.drewN nq).drew.cell? ⟨gs, pos, none⟩ = some (.string z) := e3
      have f3d : (wr.drewN nq).drew.frozen? ⟨gs, pos, none⟩ = false := f3
      have g1d : (wr.drewN nq).drew.cell? ⟨gw, 1, none⟩ = some (.int .i64 pos) := g1
      have g2d : (wr.drewN nq).drew.cell? ⟨gw, 2, none⟩ = some (.string data) := g2
      refine wp_region_still_tail 22 (by kernel_rfl) (by kernel_rfl) ?_
      simp only [List.take_succ_cons, List.take_zero, List.drop_succ_cons, List.drop_zero]
      change wpStill _ _ (wr.drewN nq).drew _ _ _
      have hsum : ¬ (9223372036854775807 < min k data.size + (z.size - k)) := by omega
      repeat still_step
      refine wpStill_nil ?_
      change wpList _ _ _ _ _ (wr.drewN nq).drew
      clear e1 e3 f3 g1 g2
      generalize (wr.drewN nq).drew = V at FD FRD HOD hsd e1d e3d f3d g1d g2d ⊢
      have hgb : gs ≠ b := fun e => FD.out.blk.own_ne HOD.out (by decide) (by rw [e]; rfl)
      have B1 := FD.out.blk.far (p := ⟨gs, pos, none⟩) (fun e => hgb e.symm) (.string (data.extract 0 k ++ z.extract k z.size))
      have z2 := B1.free 2
      have y2 : (V.setCell ⟨gs, pos, none⟩ (.string (data.extract 0 k ++ z.extract k z.size))).cell? ⟨b, 2, none⟩ = some (.bool f.known) := B1.cell 2
      have O1 := own_put (x := .string (data.extract 0 k ++ z.extract k z.size)) HOD.out (p := pos) (by omega)
      have HB1 := Lib.hid B1
      have HO1 := Lib.hid O1
      clear B1 O1
      go_wp2
      go_end0
      have F1 : Frm (fun q => q = b ∨ vs'.ownBlock = some q) V ((V.setCell ⟨gs, pos, none⟩ (.string (data.extract 0 k ++ z.extract k z.size))).setCell ⟨b, 2, none⟩ (.bool true)) :=
        ((Frm.refl (fun q => q = b ∨ vs'.ownBlock = some q) V).setCell (p := ⟨gs, pos, none⟩) (fun _ => .inr (by rw [HVS.out]; rfl)) _).setCell (p := ⟨b, 2, none⟩) (fun _ => .inl rfl) _
      have F2 : Frm (at1 b) (V.setCell ⟨gs, pos, none⟩ (.string (data.extract 0 k ++ z.extract k z.size))) ((V.setCell ⟨gs, pos, none⟩ (.string (data.extract 0 k ++ z.extract k z.size))).setCell ⟨b, 2, none⟩ (.bool true)) := (Frm.refl (at1 b) _).setCell (p := ⟨b, 2, none⟩) (fun _ => rfl) _
      have hred : (strs (padN f.safe j)).set pos (.string (data.extract 0 k ++ z.extract k z.size)) = strs (redoL f.safe pos data k) := by
        rw [strs_set]
        unfold redoL
        have hz := HZ.out
        rw [HP.out] at hz ⊢
        rw [List.getD_eq_getElem?_getD, hz, HZS.out]; rfl
      have hrl : (redoL f.safe pos data k).length = L := by unfold redoL; rw [List.length_set, ← HP.out]; exact HLL.out
      refine ⟨rfl, vs', ⟨?_, hlo, ?_, ?_⟩, HFR.out.trans (FRD.out.trans F1 fun i hi hs => ?_) fun i hi hs => hs, fun q hq => ?_⟩
      · have := HB1.out.set_ 2 (.bool true)
        simpa using this
      · refine own_frm FD.out.ol F1 fun q hq hs => ?_
        rcases hs with rfl | hs
        · exact FD.out.blk.own_ne FD.out.ol (by decide) hq
        · rcases HV.out q hs with h1 | h1
          · exact HNE.out q hq h1
          · have := (HOL.out q hq).2; omega
      · show World.ownsRow _ _ _ _ _ (redoL f.safe pos data k).length (strs (redoL f.safe pos data k))
        rw [hrl, ← hred, HVS.out]
        exact own_frm HO1.out F2 (fun q hq e => HB1.out.own_ne HO1.out (by decide) (e ▸ hq))
      · rcases hs with rfl | hs
        · exact .inl rfl
        · rcases HV.out i hs with h1 | h1
          · exact .inr h1
          · omega
      · rcases HV.out q hq with h1 | h1
        · exact .inl h1
        · exact .inr (by omega)
end Go.Proofs.Ytfgpadikmnhldaa
