/-
  HistPlays: a round, first stretch: an act, its list copied, where it stands. Conditions: as the loop's head has it.
-/
import Derived.Test.YtdhohaeopfgbmaaHpD
namespace Go.Proofs.Ytdhohaeopfgbmaa
open Go Go.RowKit
attribute [local go_sem] cell_set_if

set_option maxRecDepth 1000000 in
set_option maxHeartbeats 16000000 in
theorem hp_ph1 (i t : Int) (A0 : Option Addr) (n c0 : Nat) (os : List OpH) (a b m : Int) (w : World) (HR : Hid (Rd w A0 (flatH os))) (HN : Hid (os.length = n)) (HG : Hid (∀ o ∈ os, o.fits w)) (HLE : Hid (∀ o ∈ os, lightE 12 o.es = true)) (hn60 : (n : Int) ≤ 60) (gl gr gb : Nat)
    (wr : World) (j N : Nat) (idx trm : Int) (es : List En) (v : Value) (rs : List En) (A : Option Addr) (c s : Nat) (HS : Hid (HPs w wr gl gr gb idx trm es v idx trm rs A c N s)) (hmx : idx + es.length ≤ 1099511627776 + j * 12) (HPL : Hid (es.map plE = rs.map plE)) (hlt : j < n) (x : OpH) (HX : Hid (os[j]? = some x)) (T : Code) (Q : Exit → Act → World → Prop)
    (hcont : ∀ (go k0 : Nat) (B : Option Addr) (z a' b' : Int) (y : Act) (w' : World), (y.defers = [] ∧ y.tmps.size = 375 ∧ y.tmps[0]? = some (.int .i64 i) ∧ y.tmps[1]? = some (.int .i64 t) ∧ y.tmps[2]? = some (.slice A0 n c0) ∧ y.tmps[3]? = some (.int .i64 a) ∧ y.tmps[4]? = some (.int .i64 b) ∧ y.tmps[5]? = some (.int .i64 m) ∧ y.tmps[13]? = some (.pointer (some ⟨gl, 0, none⟩)) ∧ y.tmps[14]? = some (.pointer (some ⟨gr, 0, none⟩)) ∧ y.tmps[15]? = some (.pointer (some ⟨gb, 0, none⟩)) ∧ y.tmps[16]? = some (.int .i64 j) ∧ y.tmps[17]? = some (.pointer (some ⟨go, 0, none⟩)) ∧ y.tmps[18]? = some (.slice B x.n k0) ∧ y.tmps[19]? = some (.int .i64 z)) → Blk w' go 43 #[.int .i64 x.kind, .int .i64 a', .int .i64 b', .slice x.A x.n x.c, .bool x.own] → wr.heap.size ≤ go → w'.ownsRow wr.heap.size 53 5 (.slice B x.n k0) x.n (flatEn x.es) → Below wr.heap.size wr w' → (x.own = true → 0 ≤ z ∧ z ≤ 2199023255552) → i64In a' → T.wp Try.prog Q y w')
    (y : Act) (hx : y.defers = [] ∧ y.tmps.size = 375 ∧ y.tmps[0]? = some (.int .i64 i) ∧ y.tmps[1]? = some (.int .i64 t) ∧ y.tmps[2]? = some (.slice A0 n c0) ∧ y.tmps[3]? = some (.int .i64 a) ∧ y.tmps[4]? = some (.int .i64 b) ∧ y.tmps[5]? = some (.int .i64 m) ∧ y.tmps[13]? = some (.pointer (some ⟨gl, 0, none⟩)) ∧ y.tmps[14]? = some (.pointer (some ⟨gr, 0, none⟩)) ∧ y.tmps[15]? = some (.pointer (some ⟨gb, 0, none⟩)) ∧ y.tmps[16]? = some (.int .i64 j)) : (Code.seq hpC0 (.seq hpC1 (.seq hpC2 (.seq hpC3 T)))).wp Try.prog Q y wr := by
  obtain ⟨hd, hs, t0_, t1_, t2_, t3_, t4_, t5_, t13_, t14_, t15_, t16_⟩ := hx
  obtain ⟨f, rfl⟩ := hp_open _ hd hs
  have e0_ : f 0 = .int .i64 i := Option.some.inj t0_
  have e1_ : f 1 = .int .i64 t := Option.some.inj t1_
  have e2_ : f 2 = .slice A0 n c0 := Option.some.inj t2_
  have e3_ : f 3 = .int .i64 a := Option.some.inj t3_
  have e4_ : f 4 = .int .i64 b := Option.some.inj t4_
  have e5_ : f 5 = .int .i64 m := Option.some.inj t5_
  have e13_ : f 13 = .pointer (some ⟨gl, 0, none⟩) := Option.some.inj t13_
  have e14_ : f 14 = .pointer (some ⟨gr, 0, none⟩) := Option.some.inj t14_
  have e15_ : f 15 = .pointer (some ⟨gb, 0, none⟩) := Option.some.inj t15_
  have e16_ : f 16 = .int .i64 j := Option.some.inj t16_
  clear hd hs t0_ t1_ t2_ t3_ t4_ t5_ t13_ t14_ t15_ t16_
  rw [e0_, e1_, e2_, e3_, e4_, e5_, e13_, e14_, e15_, e16_]
  clear e0_ e1_ e2_ e3_ e4_ e5_ e13_ e14_ e15_ e16_
  conv => arg 2; arg 1; whnf
  conv => arg 2; arg 2; arg 1; whnf
  conv => arg 2; arg 2; arg 2; arg 1; whnf
  conv => arg 2; arg 2; arg 2; arg 2; arg 1; whnf
  obtain ⟨i0, hi0, hz0, hz1, hz2⟩ := info_parts enInfo
  have hji : (j : Int) < (n : Int) := by omega
  obtain ⟨bk, oo, x', rfl, hbl, hx', d0, d1, d2, d3, d4⟩ := (HR.out.below HS.out.B).oph (k := j) (by have := HN.out; omega)
  obtain rfl : x' = x := Option.some.inj (hx'.symm.trans HX.out)
  obtain ⟨ha64, hrd, hln, hlm, hft⟩ := HG.out x' (List.mem_of_getElem? hx')
  have hl12 := (light_few (HLE.out x' (List.mem_of_getElem? hx'))).1
  have hn12 : x'.n ≤ 12 := by omega
  obtain ⟨kind, oa, ob, oA, on, oc, oes, own⟩ := x'
  simp only at d0 d1 d2 d3 d4 ha64 hrd hln hlm hft hn12 hcont ⊢
  have ba : Below wr.heap.size wr (wr.alloc (.cells #[.int .i64 kind, .int .i64 oa, .int .i64 ob, .slice oA on oc, .bool own] 43)) := (Below.refl _ _).alloc (Nat.le_refl _) _
  have KO := Blk.new wr 43 #[.int .i64 kind, .int .i64 oa, .int .i64 ob, .slice oA on oc, .bool own]
  have RL := (hrd.below HS.out.B).below ba
  have S2 := HS.out.below ba
  have HLN := Lib.hid hln
  have HCONT := Lib.hid hcont
  have HA64 := Lib.hid ha64
  clear hx' hrd hln hlm hft hl12 hcont ha64
  go_upto_region 11 with fail
  obtain ⟨go, hgo⟩ : ∃ go, go = wr.heap.size := ⟨_, rfl⟩
  rw [← hgo] at KO ⊢
  generalize wr.alloc (.cells #[.int .i64 kind, .int .i64 oa, .int .i64 ob, .slice oA on oc, .bool own] 43) = W at ba KO RL S2 ⊢
  have HGO : Hid (wr.heap.size ≤ go) := Nat.le_of_eq hgo.symm
  have KO3 := KO.cell 3
  have HKO := Lib.hid KO
  have HS2 := Lib.hid S2
  have HBA := Lib.hid ba
  clear hgo d0 d1 d2 d3 d4 KO ba S2
  go_upto_region 12 with (first
    | (at_builtin
       refine wpList_app rfl (.const (.slice none 0 0)) (.tmp 75) 41 rfl W.heap.size 53 i0 _ 5 56 Try.underlying41 hi0 hz0 hz1 hz2 rfl (by omega) (.slice none 0 0) 0 _ rfl (World.ownsRow_nil _ _ _ _) oA on oc (flatEn oes) rfl RL (by rw [flatEn_len, HLN.out]) (flatEn_one oes) (by unfold maxLen; omega) (by omega) (Nat.le_refl _) ?_
       intro v5 w5 hown5 hg5 hb5 hat5
       rw [Nat.zero_add, List.nil_append] at hown5
       obtain ⟨B, k0, rfl, hc1⟩ := own_form hown5))
  have HO := Lib.hid (own_base hown5 HBA.out.size)
  have HKO5 := Lib.hid (HKO.out.below hb5)
  have HS5 := Lib.hid (HS2.out.below hb5)
  have HB5 : Hid (Below wr.heap.size wr w5) := HBA.out.trans (hb5.mono HBA.out.size)
  clear hown5 hb5 hg5 hat5 KO3 HBA HKO HS2 RL
  have hpl := congrArg List.length HPL.out
  rw [List.length_map, List.length_map] at hpl
  go_upto_region 13 with (go_at_call 8; refine (rlast_m _ _ _ _ _ _ _ _ HS5.out.R).mono ?_; rintro e w6 ⟨rfl, q6⟩)
  have K6 := HKO5.out.below (q6.below _)
  have HO6 := Lib.hid (own_frm HO.out (S := no) (Frm.of_below (q6.below _)) (fun _ _ h => h))
  have HS6 := Lib.hid (HS5.out.qt q6)
  have HB6 : Hid (Below wr.heap.size wr w6) := HB5.out.trans (q6.below _)
  have c0 := K6.cell 0
  have c1 := K6.cell 1
  have c2 := K6.cell 2
  have c4 := K6.cell 4
  have f1 := K6.free 1
  have f2 := K6.free 2
  have HK6 := Lib.hid K6
  have hi0_ : 0 ≤ idx := HS6.out.L.L.i0
  have hlE : (rs.length : Int) ≤ 1099511628496 := by omega
  have hlx : idx + (rs.length : Int) ≤ 1099511628496 := by omega
  have hixl : idx ≤ 1099511628496 := by omega
  clear K6 q6 HO HKO5 HS5 HB5
  go_upto_if 81 with fail
  go_cut [19] from 82 to 110 (fun u19 wx => ∃ (z a' b' : Int), u19 = .int .i64 z ∧ Hid (own = true → 0 ≤ z ∧ z ≤ 2199023255552) ∧ Hid (i64In a') ∧ Hid (Blk wx go 43 #[.int .i64 kind, .int .i64 a', .int .i64 b', .slice oA on oc, .bool own]) ∧ Hid (Frm (at1 go) w6 wx))
  case first =>
    by_cases h4 : kind = 4
    · subst h4
      cases own
      · go_wp2
        go_meet
        case rel => exact ⟨oa, oa, ob, rfl, fun h => absurd h (by decide), HA64.out, HK6.out, Frm.refl _ _⟩
      · go_upto_region 15 with fail
        have r0 := HS6.out.R.blk.cell 0
        have r0d : w6.drew.cell? ⟨gr, 0, none⟩ = some (.int .i64 idx) := r0
        have c1d : w6.drew.cell? ⟨go, 1, none⟩ = some (.int .i64 oa) := c1
        have f1d : w6.drew.frozen? ⟨go, 1, none⟩ = false := f1
        have HRD := Lib.hid (HS6.out.R.qt (w' := w6.drew) ⟨1, rfl⟩)
        have HKD := Lib.hid (show Blk w6.drew go 43 _ from HK6.out)
        have hne : gr ≠ go := HS6.out.R.blk.ne_ HK6.out (by decide)
        refine wp_region_noPanic ?_
        refine wp_region_held_drew (S := fun W => W.cell? ⟨gr, 0, none⟩ = some (.int .i64 idx)) (by kernel_rfl) r0d (fun _ => ?_)
        refine wpAnyH_take (i := 0) (v := ?va1) (by simp only [List.getElem?_toArray, List.getElem?_cons_zero]; rfl) (by kernel_rfl) (by kernel_rfl) (by kernel_rfl) (fun _ _ _ h => h) (Or.inl ⟨by rfl, ?hya1⟩) r0d ?ra1
        case hya1 => (intro W hW; (try dsimp only at hW); go_simp; try with_reducible rfl)
        try simp only [Act.put, List.setIfInBounds_toArray, List.set_cons_zero, List.set_cons_succ]
        refine wpAnyH_take (i := 1) (v := ?va2) (by simp only [List.getElem?_toArray, List.getElem?_cons_succ, List.getElem?_cons_zero]; rfl) (by kernel_rfl) (by kernel_rfl) (by kernel_rfl) (fun _ _ _ h => h) (Or.inl ⟨by rfl, ?hya2⟩) r0d ?ra2
        case hya2 => (intro W hW; (try dsimp only at hW); go_simp; try with_reducible rfl)
        try simp only [Act.put, List.setIfInBounds_toArray, List.set_cons_zero, List.set_cons_succ]
        refine wpAnyH_take (i := 2) (v := ?va3) (by simp only [List.getElem?_toArray, List.getElem?_cons_succ, List.getElem?_cons_zero]; rfl) (by kernel_rfl) (by kernel_rfl) (by kernel_rfl) (fun _ _ _ h => h) (Or.inl ⟨by rfl, ?hya3⟩) r0d ?ra3
        case hya3 => (intro W hW; (try dsimp only at hW); go_simp; try with_reducible rfl)
        try simp only [Act.put, List.setIfInBounds_toArray, List.set_cons_zero, List.set_cons_succ]
        refine wpAnyH_take (i := 3) (v := ?va4) (by simp only [List.getElem?_toArray, List.getElem?_cons_succ, List.getElem?_cons_zero]; rfl) (by kernel_rfl) (by kernel_rfl) (by kernel_rfl) (fun _ _ _ h => h) (Or.inl ⟨by rfl, ?hya4⟩) r0d ?ra4
        case hya4 => (intro W hW; (try dsimp only at hW); go_simp; try with_reducible rfl)
        try simp only [Act.put, List.setIfInBounds_toArray, List.set_cons_zero, List.set_cons_succ]
        refine wpAnyH_take (i := 4) (v := ?va5) (by simp only [List.getElem?_toArray, List.getElem?_cons_succ, List.getElem?_cons_zero]; rfl) (by kernel_rfl) (by kernel_rfl) (by kernel_rfl) (fun _ _ _ h => h) (Or.inl ⟨by rfl, ?hya5⟩) r0d ?ra5
        case hya5 => (intro W hW; (try dsimp only at hW); go_simp; try with_reducible rfl)
        try simp only [Act.put, List.setIfInBounds_toArray, List.set_cons_zero, List.set_cons_succ]
        refine wpAnyH_take (i := 7) (v := ?va6) (by simp only [List.getElem?_toArray, List.getElem?_cons_succ, List.getElem?_cons_zero]; rfl) (by kernel_rfl) (by kernel_rfl) (by kernel_rfl) (fun _ _ _ h => h) (Or.inl ⟨by rfl, ?hya6⟩) r0d ?ra6
        case hya6 => (intro W hW; (try dsimp only at hW); go_simp; try with_reducible rfl)
        try simp only [Act.put, List.setIfInBounds_toArray, List.set_cons_zero, List.set_cons_succ]
        refine wpAnyH_take (i := 9) (v := ?va7) (by simp only [List.getElem?_toArray, List.getElem?_cons_succ, List.getElem?_cons_zero]; rfl) (by kernel_rfl) (by kernel_rfl) (by kernel_rfl) (fun _ _ _ h => h) (Or.inl ⟨by rfl, ?hya7⟩) r0d ?ra7
        case hya7 => (intro W hW; (try dsimp only at hW); go_simp; try with_reducible rfl)
        try simp only [Act.put, List.setIfInBounds_toArray, List.set_cons_zero, List.set_cons_succ]
        refine wpAnyH_take (i := 10) (v := ?va8) (by simp only [List.getElem?_toArray, List.getElem?_cons_succ, List.getElem?_cons_zero]; rfl) (by kernel_rfl) (by kernel_rfl) (by kernel_rfl) (fun _ _ _ h => h) (Or.inl ⟨by rfl, ?hya8⟩) r0d ?ra8
        case hya8 => (intro W hW; (try dsimp only at hW); go_simp; try with_reducible rfl)
        try simp only [Act.put, List.setIfInBounds_toArray, List.set_cons_zero, List.set_cons_succ]
        refine wpAnyH_take (i := 11) (v := ?va9) (by simp only [List.getElem?_toArray, List.getElem?_cons_succ, List.getElem?_cons_zero]; rfl) (by kernel_rfl) (by kernel_rfl) (by kernel_rfl) (fun _ _ _ h => h) (Or.inl ⟨by rfl, ?hya9⟩) r0d ?ra9
        case hya9 => (intro W hW; (try dsimp only at hW); go_simp; try with_reducible rfl)
        try simp only [Act.put, List.setIfInBounds_toArray, List.set_cons_zero, List.set_cons_succ]
        refine wpAnyH_take (i := 12) (v := ?va10) (by simp only [List.getElem?_toArray, List.getElem?_cons_succ, List.getElem?_cons_zero]; rfl) (by kernel_rfl) (by kernel_rfl) (by kernel_rfl) (fun _ _ _ h => h) (Or.inl ⟨by rfl, ?hya10⟩) r0d ?ra10
        case hya10 => (intro W hW; (try dsimp only at hW); go_simp; try with_reducible rfl)
        try simp only [Act.put, List.setIfInBounds_toArray, List.set_cons_zero, List.set_cons_succ]
        refine wpAnyH_ready (rs := [5, 8]) (by kernel_rfl) (by simp) ?_
        refine AllReadyH.cons (by simp only [List.getElem?_toArray, List.getElem?_cons_succ, List.getElem?_cons_zero]; rfl) (fun K hK => ?_) (AllReadyH.cons (by simp only [List.getElem?_toArray, List.getElem?_cons_succ, List.getElem?_cons_zero]; rfl) (fun K hK => ?_) AllReadyH.nil)
        · go_simp
          refine hK.out _ _ ?hSa11 (fun hHeld => ?_)
          case hSa11 => exact r0d
          clear hK K hHeld
          try simp only [Act.put, List.setIfInBounds_toArray, List.set_cons_zero, List.set_cons_succ]
          refine wpAnyH_take (i := 6) (v := ?va12) (by simp only [List.getElem?_toArray, List.getElem?_cons_succ, List.getElem?_cons_zero]; rfl) (by kernel_rfl) (by kernel_rfl) (by kernel_rfl) (fun _ _ _ h => h) (Or.inl ⟨by rfl, ?hya12⟩) r0d ?ra12
          case hya12 => (intro W hW; (try dsimp only at hW); go_simp; try with_reducible rfl)
          try simp only [Act.put, List.setIfInBounds_toArray, List.set_cons_zero, List.set_cons_succ]
          refine wpAnyH_ready (rs := [8]) (by kernel_rfl) (by simp) ?_
          refine AllReadyH.cons (by simp only [List.getElem?_toArray, List.getElem?_cons_succ, List.getElem?_cons_zero]; rfl) (fun K hK => ?_) AllReadyH.nil
          go_simp
          go_at_call 8
          with_reducible refine (rlast_m _ _ _ _ _ _ _ _ HRD.out).mono ?_
          rintro e w7 ⟨rfl, q7⟩
          have r7 : w7.cell? ⟨gr, 0, none⟩ = some (.int .i64 idx) := ((q7.below w6.heap.size).cell (p := ⟨gr, 0, none⟩) HS6.out.R.blk.lt).trans r0d
          have c7 : w7.cell? ⟨go, 1, none⟩ = some (.int .i64 oa) := ((q7.below w6.heap.size).cell (p := ⟨go, 1, none⟩) HK6.out.lt).trans c1d
          have f7 : w7.frozen? ⟨go, 1, none⟩ = false := (HKD.out.below (q7.below _)).free 1
          refine hK.out _ _ ?hSa13 (fun hHeld => ?_)
          case hSa13 => exact r7
          clear hK K hHeld
          try simp only [Act.put, List.setIfInBounds_toArray, List.set_cons_zero, List.set_cons_succ]
          refine wpAnyH_take (i := 13) (v := ?va14) (by simp only [List.getElem?_toArray, List.getElem?_cons_succ, List.getElem?_cons_zero]; rfl) (by kernel_rfl) (by kernel_rfl) (by kernel_rfl) (fun _ _ _ h => h) (Or.inl ⟨by rfl, ?hya14⟩) r7 ?ra14
          case hya14 => (intro W hW; (try dsimp only at hW); go_simp; try with_reducible rfl)
          try simp only [Act.put, List.setIfInBounds_toArray, List.set_cons_zero, List.set_cons_succ]
          refine wpAnyH_take (i := 14) (v := ?va15) (by simp only [List.getElem?_toArray, List.getElem?_cons_succ, List.getElem?_cons_zero]; rfl) (by kernel_rfl) (by kernel_rfl) (by kernel_rfl) (fun _ _ _ h => h) (Or.inl ⟨by rfl, ?hya15⟩) r7 ?ra15
          case hya15 => (intro W hW; (try dsimp only at hW); go_simp; try with_reducible rfl)
          try simp only [Act.put, List.setIfInBounds_toArray, List.set_cons_zero, List.set_cons_succ]
          refine wpAnyH_take (i := 15) (v := ?va16) (by simp only [List.getElem?_toArray, List.getElem?_cons_succ, List.getElem?_cons_zero]; rfl) (by kernel_rfl) (by kernel_rfl) (by kernel_rfl) (fun _ _ _ h => h) (Or.inl ⟨by rfl, ?hya16⟩) r7 ?ra16
          case hya16 => (intro W hW; (try dsimp only at hW); go_simp; try with_reducible rfl)
          try simp only [Act.put, List.setIfInBounds_toArray, List.set_cons_zero, List.set_cons_succ]
          refine wpAnyH_take (i := 16) (v := ?va17) (by simp only [List.getElem?_toArray, List.getElem?_cons_succ, List.getElem?_cons_zero]; rfl) (by kernel_rfl) (by kernel_rfl) (by kernel_rfl) (fun _ _ _ h => h) (Or.inl ⟨by rfl, ?hya17⟩) r7 ?ra17
          case hya17 => (intro W hW; (try dsimp only at hW); go_simp; try with_reducible rfl)
          try simp only [Act.put, List.setIfInBounds_toArray, List.set_cons_zero, List.set_cons_succ]
          refine wpAnyH_ready (rs := [17]) (by kernel_rfl) (by simp) ?_
          refine AllReadyH.cons (by simp only [List.getElem?_toArray, List.getElem?_cons_succ, List.getElem?_cons_zero]; rfl) (fun K hK => ?_) AllReadyH.nil
          go_simp
          refine hK.out _ _ ?hSa18 (fun hHeld => ?_)
          case hSa18 => with_reducible exact (World.cell?_setCell_other _ _ _ _ (by simp)).trans r7
          clear hK K hHeld
          try simp only [Act.put, List.setIfInBounds_toArray, List.set_cons_zero, List.set_cons_succ]
          refine wpAnyH_done (by kernel_rfl) ?_ _
          refine NoPanic.normal ?_
          have K8 := (HK6.out.below ((show Below w6.heap.size w6 w6.drew from (Below.refl _ _).drew).trans (q7.below _))).set_ 1 (.int .i64 (IntKind.i64.wrap (idx + min (max oa 0) (IntKind.i64.wrap (idx + (rs.length : Int) - idx)))))
          have F8 : Frm (at1 go) w6 (w7.setCell ⟨go, 1, none⟩ (.int .i64 (IntKind.i64.wrap (idx + min (max oa 0) (IntKind.i64.wrap (idx + (rs.length : Int) - idx)))))) := ((Frm.of_below ((show Below w6.heap.size w6 w6.drew from (Below.refl _ _).drew).trans (q7.below _)) : Frm (at1 go) w6 w7)).setCell (p := ⟨go, 1, none⟩) (fun _ => rfl) _
          have R8 := HS6.out.R.far F8 hne (fun hrs ad had e => by
            have h2 := (HS6.out.av hrs ad had).2
            have e2 : ad.block = go := e
            rw [e2] at h2
            exact absurd (h2.eq HK6.out.ty) (by decide))
          have HR8 := Lib.hid R8
          have HK8 := Lib.hid K8
          have HF8 := Lib.hid F8
          have HZ8 : Hid (0 ≤ (IntKind.i64.wrap (idx + min (max oa 0) (IntKind.i64.wrap (idx + (rs.length : Int) - idx)))) ∧ (IntKind.i64.wrap (idx + min (max oa 0) (IntKind.i64.wrap (idx + (rs.length : Int) - idx)))) ≤ 2199023255552) := by
            have e1 : IntKind.i64.wrap (idx + (rs.length : Int) - idx) = rs.length := by rw [show idx + (rs.length : Int) - idx = rs.length by omega]; exact IntWalk.i64_in _ (by omega)
            have e2 : IntKind.i64.wrap (idx + min (max oa 0) (rs.length : Int)) = idx + min (max oa 0) (rs.length : Int) := IntWalk.i64_in _ (by omega)
            unfold Hid
            rw [e1, e2]
            omega
          generalize hzq : (IntKind.i64.wrap (idx + min (max oa 0) (IntKind.i64.wrap (idx + (rs.length : Int) - idx)))) = zz at HR8 HK8 HF8 HZ8 ⊢
          have c18 := HK8.out.cell 1
          have c28 := HK8.out.cell 2
          have f28 := HK8.out.free 2
          clear hzq K8 F8 R8
          generalize w7.setCell ⟨go, 1, none⟩ (.int .i64 zz) = W8 at HR8 HK8 HF8 c18 c28 f28 ⊢
          go_upto_region 17 with (first
            | (go_at_call 9
               with_reducible refine (rat_m _ _ _ _ _ _ _ _ _ HR8.out).mono ?_
               rintro e w9 ⟨rfl, q9⟩
               have c19 := (HK8.out.below (q9.below _)).cell 1
               have c29 := (HK8.out.below (q9.below _)).cell 2
               have f29 := (HK8.out.below (q9.below _)).free 2))
          have K9 := (HK8.out.below (q9.below _)).set_ 2 (.int .i64 ((termE idx trm (ents rs) zz).getD 0))
          have F9 : Frm (at1 go) w6 (w9.setCell ⟨go, 2, none⟩ (.int .i64 ((termE idx trm (ents rs) zz).getD 0))) := (HF8.out.step (q9.below _)).setCell (p := ⟨go, 2, none⟩) (fun _ => rfl) _
          generalize w9.setCell ⟨go, 2, none⟩ (.int .i64 ((termE idx trm (ents rs) zz).getD 0)) = W9 at K9 F9 ⊢
          have c91 := K9.cell 1
          clear c18 c28 f28 c19 c29 f29 q9
          go_wp2
          go_meet
          case rel => exact ⟨zz, zz, _, rfl, fun _ => HZ8.out, ⟨by have := HZ8.out; omega, by have := HZ8.out; omega⟩, K9, F9⟩
        · go_simp
          go_at_call 8
          with_reducible refine (rlast_m _ _ _ _ _ _ _ _ HRD.out).mono ?_
          rintro e w7 ⟨rfl, q7⟩
          have r7 : w7.cell? ⟨gr, 0, none⟩ = some (.int .i64 idx) := ((q7.below w6.heap.size).cell (p := ⟨gr, 0, none⟩) HS6.out.R.blk.lt).trans r0d
          have c7 : w7.cell? ⟨go, 1, none⟩ = some (.int .i64 oa) := ((q7.below w6.heap.size).cell (p := ⟨go, 1, none⟩) HK6.out.lt).trans c1d
          have f7 : w7.frozen? ⟨go, 1, none⟩ = false := (HKD.out.below (q7.below _)).free 1
          refine hK.out _ _ ?hSa19 (fun hHeld => ?_)
          case hSa19 => exact r7
          clear hK K hHeld
          try simp only [Act.put, List.setIfInBounds_toArray, List.set_cons_zero, List.set_cons_succ]
          refine wpAnyH_take (i := 13) (v := ?va20) (by simp only [List.getElem?_toArray, List.getElem?_cons_succ, List.getElem?_cons_zero]; rfl) (by kernel_rfl) (by kernel_rfl) (by kernel_rfl) (fun _ _ _ h => h) (Or.inl ⟨by rfl, ?hya20⟩) r7 ?ra20
          case hya20 => (intro W hW; (try dsimp only at hW); go_simp; try with_reducible rfl)
          try simp only [Act.put, List.setIfInBounds_toArray, List.set_cons_zero, List.set_cons_succ]
          refine wpAnyH_ready (rs := [5]) (by kernel_rfl) (by simp) ?_
          refine AllReadyH.cons (by simp only [List.getElem?_toArray, List.getElem?_cons_succ, List.getElem?_cons_zero]; rfl) (fun K hK => ?_) AllReadyH.nil
          go_simp
          refine hK.out _ _ ?hSa21 (fun hHeld => ?_)
          case hSa21 => exact r7
          clear hK K hHeld
          try simp only [Act.put, List.setIfInBounds_toArray, List.set_cons_zero, List.set_cons_succ]
          refine wpAnyH_take (i := 6) (v := ?va22) (by simp only [List.getElem?_toArray, List.getElem?_cons_succ, List.getElem?_cons_zero]; rfl) (by kernel_rfl) (by kernel_rfl) (by kernel_rfl) (fun _ _ _ h => h) (Or.inl ⟨by rfl, ?hya22⟩) r7 ?ra22
          case hya22 => (intro W hW; (try dsimp only at hW); go_simp; try with_reducible rfl)
          try simp only [Act.put, List.setIfInBounds_toArray, List.set_cons_zero, List.set_cons_succ]
          refine wpAnyH_take (i := 14) (v := ?va23) (by simp only [List.getElem?_toArray, List.getElem?_cons_succ, List.getElem?_cons_zero]; rfl) (by kernel_rfl) (by kernel_rfl) (by kernel_rfl) (fun _ _ _ h => h) (Or.inl ⟨by rfl, ?hya23⟩) r7 ?ra23
          case hya23 => (intro W hW; (try dsimp only at hW); go_simp; try with_reducible rfl)
          try simp only [Act.put, List.setIfInBounds_toArray, List.set_cons_zero, List.set_cons_succ]
          refine wpAnyH_take (i := 15) (v := ?va24) (by simp only [List.getElem?_toArray, List.getElem?_cons_succ, List.getElem?_cons_zero]; rfl) (by kernel_rfl) (by kernel_rfl) (by kernel_rfl) (fun _ _ _ h => h) (Or.inl ⟨by rfl, ?hya24⟩) r7 ?ra24
          case hya24 => (intro W hW; (try dsimp only at hW); go_simp; try with_reducible rfl)
          try simp only [Act.put, List.setIfInBounds_toArray, List.set_cons_zero, List.set_cons_succ]
          refine wpAnyH_take (i := 16) (v := ?va25) (by simp only [List.getElem?_toArray, List.getElem?_cons_succ, List.getElem?_cons_zero]; rfl) (by kernel_rfl) (by kernel_rfl) (by kernel_rfl) (fun _ _ _ h => h) (Or.inl ⟨by rfl, ?hya25⟩) r7 ?ra25
          case hya25 => (intro W hW; (try dsimp only at hW); go_simp; try with_reducible rfl)
          try simp only [Act.put, List.setIfInBounds_toArray, List.set_cons_zero, List.set_cons_succ]
          refine wpAnyH_ready (rs := [17]) (by kernel_rfl) (by simp) ?_
          refine AllReadyH.cons (by simp only [List.getElem?_toArray, List.getElem?_cons_succ, List.getElem?_cons_zero]; rfl) (fun K hK => ?_) AllReadyH.nil
          go_simp
          refine hK.out _ _ ?hSa26 (fun hHeld => ?_)
          case hSa26 => with_reducible exact (World.cell?_setCell_other _ _ _ _ (by simp)).trans r7
          clear hK K hHeld
          try simp only [Act.put, List.setIfInBounds_toArray, List.set_cons_zero, List.set_cons_succ]
          refine wpAnyH_done (by kernel_rfl) ?_ _
          refine NoPanic.normal ?_
          have K8 := (HK6.out.below ((show Below w6.heap.size w6 w6.drew from (Below.refl _ _).drew).trans (q7.below _))).set_ 1 (.int .i64 (IntKind.i64.wrap (idx + min (max oa 0) (IntKind.i64.wrap (idx + (rs.length : Int) - idx)))))
          have F8 : Frm (at1 go) w6 (w7.setCell ⟨go, 1, none⟩ (.int .i64 (IntKind.i64.wrap (idx + min (max oa 0) (IntKind.i64.wrap (idx + (rs.length : Int) - idx)))))) := ((Frm.of_below ((show Below w6.heap.size w6 w6.drew from (Below.refl _ _).drew).trans (q7.below _)) : Frm (at1 go) w6 w7)).setCell (p := ⟨go, 1, none⟩) (fun _ => rfl) _
          have R8 := HS6.out.R.far F8 hne (fun hrs ad had e => by
            have h2 := (HS6.out.av hrs ad had).2
            have e2 : ad.block = go := e
            rw [e2] at h2
            exact absurd (h2.eq HK6.out.ty) (by decide))
          have HR8 := Lib.hid R8
          have HK8 := Lib.hid K8
          have HF8 := Lib.hid F8
          have HZ8 : Hid (0 ≤ (IntKind.i64.wrap (idx + min (max oa 0) (IntKind.i64.wrap (idx + (rs.length : Int) - idx)))) ∧ (IntKind.i64.wrap (idx + min (max oa 0) (IntKind.i64.wrap (idx + (rs.length : Int) - idx)))) ≤ 2199023255552) := by
            have e1 : IntKind.i64.wrap (idx + (rs.length : Int) - idx) = rs.length := by rw [show idx + (rs.length : Int) - idx = rs.length by omega]; exact IntWalk.i64_in _ (by omega)
            have e2 : IntKind.i64.wrap (idx + min (max oa 0) (rs.length : Int)) = idx + min (max oa 0) (rs.length : Int) := IntWalk.i64_in _ (by omega)
            unfold Hid
            rw [e1, e2]
            omega
          generalize hzq : (IntKind.i64.wrap (idx + min (max oa 0) (IntKind.i64.wrap (idx + (rs.length : Int) - idx)))) = zz at HR8 HK8 HF8 HZ8 ⊢
          have c18 := HK8.out.cell 1
          have c28 := HK8.out.cell 2
          have f28 := HK8.out.free 2
          clear hzq K8 F8 R8
          generalize w7.setCell ⟨go, 1, none⟩ (.int .i64 zz) = W8 at HR8 HK8 HF8 c18 c28 f28 ⊢
          go_upto_region 17 with (first
            | (go_at_call 9
               with_reducible refine (rat_m _ _ _ _ _ _ _ _ _ HR8.out).mono ?_
               rintro e w9 ⟨rfl, q9⟩
               have c19 := (HK8.out.below (q9.below _)).cell 1
               have c29 := (HK8.out.below (q9.below _)).cell 2
               have f29 := (HK8.out.below (q9.below _)).free 2))
          have K9 := (HK8.out.below (q9.below _)).set_ 2 (.int .i64 ((termE idx trm (ents rs) zz).getD 0))
          have F9 : Frm (at1 go) w6 (w9.setCell ⟨go, 2, none⟩ (.int .i64 ((termE idx trm (ents rs) zz).getD 0))) := (HF8.out.step (q9.below _)).setCell (p := ⟨go, 2, none⟩) (fun _ => rfl) _
          generalize w9.setCell ⟨go, 2, none⟩ (.int .i64 ((termE idx trm (ents rs) zz).getD 0)) = W9 at K9 F9 ⊢
          have c91 := K9.cell 1
          clear c18 c28 f28 c19 c29 f29 q9
          go_wp2
          go_meet
          case rel => exact ⟨zz, zz, _, rfl, fun _ => HZ8.out, ⟨by have := HZ8.out; omega, by have := HZ8.out; omega⟩, K9, F9⟩
    · have h4b : (kind == 4) = false := by rw [beq_eq_false_iff_ne]; exact h4
      go_wp2
      go_meet
      case rel => exact ⟨idx + rs.length, oa, ob, by go_num, fun _ => by omega, HA64.out, HK6.out, Frm.refl _ _⟩
  case rest =>
  obtain ⟨z, a', b', rfl, HZ, HA', HK7, HF7⟩ := hcut
  go_wp2
  refine HCONT.out go k0 B z a' b' _ _ ⟨rfl, rfl, rfl, rfl, rfl, rfl, rfl, rfl, rfl, rfl, rfl, rfl, rfl, rfl, rfl⟩ HK7.out HGO.out ?_ (HB6.out.trans (HF7.out.below HB6.out.size (fun q hq => by have : q = go := hq; rw [this]; exact HGO.out))) HZ.out HA'.out
  exact own_frm_ty HO6.out HF7.out (TyS.one HK6.out) (by decide)
end Go.Proofs.Ytdhohaeopfgbmaa
