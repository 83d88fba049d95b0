/-
  HistPlays: a round, third stretch: Append, Cut, Trim. Conditions: as the stretch before leaves it.
-/
import Derived.Test.YtdhohaeopfgbmaaHpD
namespace Go.Proofs.Ytdhohaeopfgbmaa
open Go Go.RowKit
attribute [local go_sem] cell_set_if

set_option maxRecDepth 1000000 in
set_option maxHeartbeats 16000000 in
theorem hp_ph3_1 (i t : Int) (A0 : Option Addr) (n c0 : Nat) (a b m : Int) (w : World) (gl gr gb : Nat)
    (wr : World) (j N : Nat) (idx trm : Int) (es : List En) (v : Value) (rs : List En) (A : Option Addr) (c s : Nat) (HS : Hid (HPs w wr gl gr gb idx trm es v idx trm rs A c N s)) (HPL : Hid (es.map plE = rs.map plE)) (hmx : idx + es.length ≤ 1099511627776 + j * 12) (hle : es.length ≤ j * 12) (hj : j < 60) (_hN : N < 200) (x : OpH) (hn12 : (x.n : Int) ≤ 12)
    (go k0 : Nat) (B : Option Addr) (z a' b' : Int) (news ys : List En) (g3 c3 : Nat) (HR : Hid (HRow w wr v go #[.int .i64 x.kind, .int .i64 a', .int .i64 b', .slice x.A x.n x.c, .bool x.own] B x.n k0 news g3 c3 ys)) (HNL : Hid (news.length = x.n)) (HIX : Hid (∀ q ∈ news, i64In q.index)) (HYL : Hid (ys.length = x.n)) (HYP : Hid (ys.map plE = news.map plE)) (_hc3 : x.n + 1 ≤ c3) (_HA' : Hid (i64In a')) (T : Code) (Q : Exit → Act → World → Prop)
    (hcont : ∀ (idx2 trm2 : Int) (es2 : List En) (v2 : Value) (rs2 : List En) (A2 : Option Addr) (c2 N2 s2 : Nat) (y : Act) (w' : World), (y.defers = [] ∧ y.tmps.size = 375 ∧ y.tmps[0]? = some (.int .i64 i) ∧ y.tmps[1]? = some (.int .i64 t) ∧ y.tmps[2]? = some (.slice A0 n c0) ∧ y.tmps[3]? = some (.int .i64 a) ∧ y.tmps[4]? = some (.int .i64 b) ∧ y.tmps[5]? = some (.int .i64 m) ∧ y.tmps[13]? = some (.pointer (some ⟨gl, 0, none⟩)) ∧ y.tmps[14]? = some (.pointer (some ⟨gr, 0, none⟩)) ∧ y.tmps[15]? = some (.pointer (some ⟨gb, 0, none⟩)) ∧ y.tmps[16]? = some (.int .i64 j) ∧ y.tmps[17]? = some (.pointer (some ⟨go, 0, none⟩)) ∧ y.tmps[18]? = some (.slice B x.n k0) ∧ y.tmps[21]? = some (.slice (some ⟨g3, 0, none⟩) x.n c3) ∧ y.tmps[22]? = some (.bool true)) → HPs w w' gl gr gb idx2 trm2 es2 v2 idx2 trm2 rs2 A2 c2 N2 s2 → es2.map plE = rs2.map plE → idx2 + es2.length ≤ 1099511627776 + (j + 1 : Nat) * 12 → es2.length ≤ (j + 1) * 12 → N2 ≤ N + 1 → HRow w w' v2 go #[.int .i64 x.kind, .int .i64 a', .int .i64 b', .slice x.A x.n x.c, .bool x.own] B x.n k0 news g3 c3 ys → T.wp Try.prog Q y w')
    (y : Act) (hx : y.defers = [] ∧ y.tmps.size = 375 ∧ y.tmps[0]? = some (.int .i64 i) ∧ y.tmps[1]? = some (.int .i64 t) ∧ y.tmps[2]? = some (.slice A0 n c0) ∧ y.tmps[3]? = some (.int .i64 a) ∧ y.tmps[4]? = some (.int .i64 b) ∧ y.tmps[5]? = some (.int .i64 m) ∧ y.tmps[13]? = some (.pointer (some ⟨gl, 0, none⟩)) ∧ y.tmps[14]? = some (.pointer (some ⟨gr, 0, none⟩)) ∧ y.tmps[15]? = some (.pointer (some ⟨gb, 0, none⟩)) ∧ y.tmps[16]? = some (.int .i64 j) ∧ y.tmps[17]? = some (.pointer (some ⟨go, 0, none⟩)) ∧ y.tmps[18]? = some (.slice B x.n k0) ∧ y.tmps[19]? = some (.int .i64 z) ∧ y.tmps[21]? = some (.slice (some ⟨g3, 0, none⟩) x.n c3) ∧ y.tmps[22]? = some (.bool true)) (h1 : x.kind = 1) : (Code.seq hpC7 T).wp Try.prog Q y wr := by
  obtain ⟨hd, hs, t0_, t1_, t2_, t3_, t4_, t5_, t13_, t14_, t15_, t16_, t17_, t18_, t19_, t21_, t22_⟩ := hx
  obtain ⟨f, rfl⟩ := hp_open _ hd hs
  have e0_ : f 0 = .int .i64 i := Option.some.inj t0_
  have e1_ : f 1 = .int .i64 t := Option.some.inj t1_
  have e2_ : f 2 = .slice A0 n c0 := Option.some.inj t2_
  have e3_ : f 3 = .int .i64 a := Option.some.inj t3_
  have e4_ : f 4 = .int .i64 b := Option.some.inj t4_
  have e5_ : f 5 = .int .i64 m := Option.some.inj t5_
  have e13_ : f 13 = .pointer (some ⟨gl, 0, none⟩) := Option.some.inj t13_
  have e14_ : f 14 = .pointer (some ⟨gr, 0, none⟩) := Option.some.inj t14_
  have e15_ : f 15 = .pointer (some ⟨gb, 0, none⟩) := Option.some.inj t15_
  have e16_ : f 16 = .int .i64 j := Option.some.inj t16_
  have e17_ : f 17 = .pointer (some ⟨go, 0, none⟩) := Option.some.inj t17_
  have e18_ : f 18 = .slice B x.n k0 := Option.some.inj t18_
  have e19_ : f 19 = .int .i64 z := Option.some.inj t19_
  have e21_ : f 21 = .slice (some ⟨g3, 0, none⟩) x.n c3 := Option.some.inj t21_
  have e22_ : f 22 = .bool true := Option.some.inj t22_
  clear hd hs t0_ t1_ t2_ t3_ t4_ t5_ t13_ t14_ t15_ t16_ t17_ t18_ t19_ t21_ t22_
  rw [e0_, e1_, e2_, e3_, e4_, e5_, e13_, e14_, e15_, e16_, e17_, e18_, e19_, e21_, e22_]
  clear e0_ e1_ e2_ e3_ e4_ e5_ e13_ e14_ e15_ e16_ e17_ e18_ e19_ e21_ e22_
  conv => arg 2; arg 1; whnf
  have HCONT := Lib.hid hcont
  clear hcont
  have c0 := HR.out.o.cell 0
  have c1 := HR.out.o.cell 1
  have c2 := HR.out.o.cell 2
  have hlen : es.length = rs.length := by have h := congrArg List.length HPL.out; simpa only [List.length_map] using h
  have hsame : SameT (ents es) (ents rs) := pl_same HPL.out
  have hRY : Rd wr (some ⟨g3, 0, none⟩) (flatEn ys) := by have h := Rd.of_own HR.out.lent; rw [flatEn_app] at h; exact h.pre
  have hYI : ∀ q ∈ ys, i64In q.index := fun q hq => by
    obtain ⟨u, hu, e⟩ := mem_pl HYP.out hq
    rw [(plE_eq e).1]; exact HIX.out u hu
  obtain ⟨r, hr⟩ : ∃ r, r = riseE (idx + es.length) (lastT trm (ents es)) ys := ⟨_, rfl⟩
  have hr2 : r = riseE (idx + rs.length) (lastT trm (ents rs)) news := by rw [hr, riseE_pl HYP.out, lastT_same hsame, hlen]
  obtain ⟨E9, hE9⟩ : ∃ E9 : Int, E9 = if r = true then 0 else 15 := ⟨_, rfl⟩
  have hLA := hp_lappend HS.out (some ⟨g3, 0, none⟩) x.n c3 ys hRY HYL.out hYI (HS.out.stay_mine HR.out.lm) (fun ad had => by
    injection had with had
    subst had
    exact ⟨fun e => Blk.own_ne HS.out.L.L.blk HR.out.lent (by decide) (congrArg some e), HR.out.d2⟩) (by omega)
  rw [← hr, ← hE9] at hLA
  obtain ⟨R9, hR9⟩ : ∃ R9 : List En, R9 = if r = true then news else [] := ⟨_, rfl⟩
  have hRA : ∀ v2 es2 w2, HPs w w2 gl gr gb idx trm es2 v2 idx trm rs A c N s → Rd w2 B (flatEn news) → Calls Try.prog 13 #[.pointer (some ⟨gr, 0, none⟩), .slice B x.n k0] w2 fun e w' => e = .returned (.int .i64 E9) ∧ ∃ A2 c2, HPs w w' gl gr gb idx trm es2 v2 idx trm (rs ++ R9) A2 c2 N s ∧ Frm (at1 gr) w2 w' := fun v2 es2 w2 H2 hr3 => by
    have h := hp_rappend H2 B x.n k0 news hr3 HNL.out HIX.out HR.out.old (by omega)
    rw [← hr2, ← hE9, ← hR9] at h
    exact h
  have HLA := Lib.hid hLA
  have HRA := Lib.hid hRA
  have HFIN : Hid (∀ zs : List En, zs.map plE = (if r = true then ys.map plE else []) → (es ++ zs).map plE = (rs ++ R9).map plE ∧ zs.length ≤ 12) := fun zs hz => by
    rw [List.map_append, List.map_append, HPL.out, hz, hR9]
    have hy := HYL.out
    have h := congrArg List.length hz
    refine ⟨?_, ?_⟩
    · cases r <;> simp [HYP.out]
    · cases r
      · rw [if_neg (by decide), List.length_map] at h; simp only [List.length_nil] at h; omega
      · rw [if_pos rfl, List.length_map, List.length_map] at h; omega
  rw [h1] at c0
  have HSL := Lib.hid hle
  clear hLA hRA hr hr2 hE9 hR9 hRY hYI hsame hlen h1
  go_wp2_with (first
    | (go_at_call 12
       with_reducible refine HLA.out.mono ?_
       rintro e w4 ⟨rfl, v4, zs, hz4, H4, T4⟩
       have HR4 := Lib.hid (HR.out.turn HS.out.L T4)
       have HH4 := Lib.hid H4
       have HZ4 := Lib.hid (HFIN.out zs hz4)
       clear hz4 H4 T4)
    | (go_at_call 13
       with_reducible refine (HRA.out _ _ _ HH4.out (Rd.of_own HR4.out.row)).mono ?_
       rintro e w5 ⟨rfl, A5, c5, H5, F5⟩))
  have hzl := HZ4.out.2
  refine HCONT.out idx trm (es ++ zs) v4 (rs ++ R9) A5 c5 N s _ _ ⟨rfl, rfl, rfl, rfl, rfl, rfl, rfl, rfl, rfl, rfl, rfl, rfl, rfl, rfl, rfl, rfl⟩ H5 HZ4.out.1 ?_ ?_ (by omega) (HR4.out.frm F5 (TyS.one HH4.out.R.blk) (by decide) (by decide) (by decide))
  · rw [List.length_append]; omega
  · rw [List.length_append]; omega
set_option maxRecDepth 1000000 in
set_option maxHeartbeats 16000000 in
theorem hp_ph3_2 (i t : Int) (A0 : Option Addr) (n c0 : Nat) (a b m : Int) (w : World) (gl gr gb : Nat)
    (wr : World) (j N : Nat) (idx trm : Int) (es : List En) (v : Value) (rs : List En) (A : Option Addr) (c s : Nat) (HS : Hid (HPs w wr gl gr gb idx trm es v idx trm rs A c N s)) (HPL : Hid (es.map plE = rs.map plE)) (hmx : idx + es.length ≤ 1099511627776 + j * 12) (hle : es.length ≤ j * 12) (hj : j < 60) (_hN : N < 200) (x : OpH) (_hn12 : (x.n : Int) ≤ 12)
    (go k0 : Nat) (B : Option Addr) (z a' b' : Int) (news ys : List En) (g3 c3 : Nat) (HR : Hid (HRow w wr v go #[.int .i64 x.kind, .int .i64 a', .int .i64 b', .slice x.A x.n x.c, .bool x.own] B x.n k0 news g3 c3 ys)) (_HNL : Hid (news.length = x.n)) (_HIX : Hid (∀ q ∈ news, i64In q.index)) (_HYL : Hid (ys.length = x.n)) (_HYP : Hid (ys.map plE = news.map plE)) (_hc3 : x.n + 1 ≤ c3) (HA' : Hid (i64In a')) (T : Code) (Q : Exit → Act → World → Prop)
    (hcont : ∀ (idx2 trm2 : Int) (es2 : List En) (v2 : Value) (rs2 : List En) (A2 : Option Addr) (c2 N2 s2 : Nat) (y : Act) (w' : World), (y.defers = [] ∧ y.tmps.size = 375 ∧ y.tmps[0]? = some (.int .i64 i) ∧ y.tmps[1]? = some (.int .i64 t) ∧ y.tmps[2]? = some (.slice A0 n c0) ∧ y.tmps[3]? = some (.int .i64 a) ∧ y.tmps[4]? = some (.int .i64 b) ∧ y.tmps[5]? = some (.int .i64 m) ∧ y.tmps[13]? = some (.pointer (some ⟨gl, 0, none⟩)) ∧ y.tmps[14]? = some (.pointer (some ⟨gr, 0, none⟩)) ∧ y.tmps[15]? = some (.pointer (some ⟨gb, 0, none⟩)) ∧ y.tmps[16]? = some (.int .i64 j) ∧ y.tmps[17]? = some (.pointer (some ⟨go, 0, none⟩)) ∧ y.tmps[18]? = some (.slice B x.n k0) ∧ y.tmps[21]? = some (.slice (some ⟨g3, 0, none⟩) x.n c3) ∧ y.tmps[22]? = some (.bool true)) → HPs w w' gl gr gb idx2 trm2 es2 v2 idx2 trm2 rs2 A2 c2 N2 s2 → es2.map plE = rs2.map plE → idx2 + es2.length ≤ 1099511627776 + (j + 1 : Nat) * 12 → es2.length ≤ (j + 1) * 12 → N2 ≤ N + 1 → HRow w w' v2 go #[.int .i64 x.kind, .int .i64 a', .int .i64 b', .slice x.A x.n x.c, .bool x.own] B x.n k0 news g3 c3 ys → T.wp Try.prog Q y w')
    (y : Act) (hx : y.defers = [] ∧ y.tmps.size = 375 ∧ y.tmps[0]? = some (.int .i64 i) ∧ y.tmps[1]? = some (.int .i64 t) ∧ y.tmps[2]? = some (.slice A0 n c0) ∧ y.tmps[3]? = some (.int .i64 a) ∧ y.tmps[4]? = some (.int .i64 b) ∧ y.tmps[5]? = some (.int .i64 m) ∧ y.tmps[13]? = some (.pointer (some ⟨gl, 0, none⟩)) ∧ y.tmps[14]? = some (.pointer (some ⟨gr, 0, none⟩)) ∧ y.tmps[15]? = some (.pointer (some ⟨gb, 0, none⟩)) ∧ y.tmps[16]? = some (.int .i64 j) ∧ y.tmps[17]? = some (.pointer (some ⟨go, 0, none⟩)) ∧ y.tmps[18]? = some (.slice B x.n k0) ∧ y.tmps[19]? = some (.int .i64 z) ∧ y.tmps[21]? = some (.slice (some ⟨g3, 0, none⟩) x.n c3) ∧ y.tmps[22]? = some (.bool true)) (h1 : x.kind = 2) : (Code.seq hpC7 T).wp Try.prog Q y wr := by
  obtain ⟨hd, hs, t0_, t1_, t2_, t3_, t4_, t5_, t13_, t14_, t15_, t16_, t17_, t18_, t19_, t21_, t22_⟩ := hx
  obtain ⟨f, rfl⟩ := hp_open _ hd hs
  have e0_ : f 0 = .int .i64 i := Option.some.inj t0_
  have e1_ : f 1 = .int .i64 t := Option.some.inj t1_
  have e2_ : f 2 = .slice A0 n c0 := Option.some.inj t2_
  have e3_ : f 3 = .int .i64 a := Option.some.inj t3_
  have e4_ : f 4 = .int .i64 b := Option.some.inj t4_
  have e5_ : f 5 = .int .i64 m := Option.some.inj t5_
  have e13_ : f 13 = .pointer (some ⟨gl, 0, none⟩) := Option.some.inj t13_
  have e14_ : f 14 = .pointer (some ⟨gr, 0, none⟩) := Option.some.inj t14_
  have e15_ : f 15 = .pointer (some ⟨gb, 0, none⟩) := Option.some.inj t15_
  have e16_ : f 16 = .int .i64 j := Option.some.inj t16_
  have e17_ : f 17 = .pointer (some ⟨go, 0, none⟩) := Option.some.inj t17_
  have e18_ : f 18 = .slice B x.n k0 := Option.some.inj t18_
  have e19_ : f 19 = .int .i64 z := Option.some.inj t19_
  have e21_ : f 21 = .slice (some ⟨g3, 0, none⟩) x.n c3 := Option.some.inj t21_
  have e22_ : f 22 = .bool true := Option.some.inj t22_
  clear hd hs t0_ t1_ t2_ t3_ t4_ t5_ t13_ t14_ t15_ t16_ t17_ t18_ t19_ t21_ t22_
  rw [e0_, e1_, e2_, e3_, e4_, e5_, e13_, e14_, e15_, e16_, e17_, e18_, e19_, e21_, e22_]
  clear e0_ e1_ e2_ e3_ e4_ e5_ e13_ e14_ e15_ e16_ e17_ e18_ e19_ e21_ e22_
  conv => arg 2; arg 1; whnf
  have HCONT := Lib.hid hcont
  clear hcont
  have c0 := HR.out.o.cell 0
  have c1 := HR.out.o.cell 1
  have c2 := HR.out.o.cell 2
  have hlen : es.length = rs.length := by have h := congrArg List.length HPL.out; simpa only [List.length_map] using h
  have hsame : SameT (ents es) (ents rs) := pl_same HPL.out
  have HSD : Hid (HPs w wr.drew gl gr gb idx trm es v idx trm rs A c N s) := HS.out.qt ⟨1, rfl⟩
  have HRD : Hid (HRow w wr.drew v go #[.int .i64 x.kind, .int .i64 a', .int .i64 b', .slice x.A x.n x.c, .bool x.own] B x.n k0 news g3 c3 ys) := HR.out.qt ⟨1, rfl⟩
  have o1d : wr.drew.cell? ⟨go, 1, none⟩ = some (.int .i64 a') := c1
  obtain ⟨ck, hck⟩ : ∃ ck, ck = cutK idx es.length a' := ⟨_, rfl⟩
  have hck2 : ck = cutK idx rs.length a' := by rw [hck, hlen]
  obtain ⟨C9, hC9⟩ : ∃ C9 : Int, C9 = (es.length : Int) - ck := ⟨_, rfl⟩
  have hC92 : C9 = (rs.length : Int) - ck := by rw [hC9, hlen]
  have hLA := hp_lcut HSD.out a' (by omega)
  rw [← hck, ← hC9] at hLA
  have hRA : ∀ v2 es2 w2, HPs w w2 gl gr gb idx trm es2 v2 idx trm rs A c N s → Calls Try.prog 15 #[.pointer (some ⟨gr, 0, none⟩), .int .i64 a'] w2 fun e w' => e = .returned (.int .i64 C9) ∧ ∃ c2, HPs w w' gl gr gb idx trm es2 v2 idx trm (rs.take ck) A c2 N s ∧ Frm (at1 gr) w2 w' := fun v2 es2 w2 H2 => by
    have h := hp_rcut H2 a' HA'.out.2
    rw [← hck2, ← hC92] at h
    exact h
  have HLA := Lib.hid hLA
  have HRA := Lib.hid hRA
  have hz0 : (es.take ck).length ≤ es.length := by rw [List.length_take]; omega
  have HZ0 := Lib.hid hz0
  rw [h1] at c0
  clear hLA hRA hck hck2 hC9 hC92 hsame hlen h1 hz0
  go_upto_region 41 with fail
  refine wp_region_noPanic ?_
  refine wp_region_held_drew (S := fun W => W.cell? ⟨go, 1, none⟩ = some (.int .i64 a')) (by kernel_rfl) o1d (fun _ => ?_)
  refine wpAnyH_take (i := 0) (v := ?ve76) (by simp only [List.getElem?_toArray, List.getElem?_cons_zero]; rfl) (by kernel_rfl) (by kernel_rfl) (by kernel_rfl) (fun _ _ _ h => h) (Or.inl ⟨by rfl, ?hye76⟩) o1d ?re76
  case hye76 => (intro W hW; (try dsimp only at hW); go_simp; try with_reducible rfl)
  try simp only [Act.put, List.setIfInBounds_toArray, List.set_cons_zero, List.set_cons_succ]
  refine wpAnyH_take (i := 1) (v := ?ve77) (by simp only [List.getElem?_toArray, List.getElem?_cons_succ, List.getElem?_cons_zero]; rfl) (by kernel_rfl) (by kernel_rfl) (by kernel_rfl) (fun _ _ _ h => h) (Or.inl ⟨by rfl, ?hye77⟩) o1d ?re77
  case hye77 => (intro W hW; (try dsimp only at hW); go_simp; try with_reducible rfl)
  try simp only [Act.put, List.setIfInBounds_toArray, List.set_cons_zero, List.set_cons_succ]
  refine wpAnyH_take (i := 2) (v := ?ve78) (by simp only [List.getElem?_toArray, List.getElem?_cons_succ, List.getElem?_cons_zero]; rfl) (by kernel_rfl) (by kernel_rfl) (by kernel_rfl) (fun _ _ _ h => h) (Or.inl ⟨by rfl, ?hye78⟩) o1d ?re78
  case hye78 => (intro W hW; (try dsimp only at hW); go_simp; try with_reducible rfl)
  try simp only [Act.put, List.setIfInBounds_toArray, List.set_cons_zero, List.set_cons_succ]
  refine wpAnyH_take (i := 4) (v := ?ve79) (by simp only [List.getElem?_toArray, List.getElem?_cons_succ, List.getElem?_cons_zero]; rfl) (by kernel_rfl) (by kernel_rfl) (by kernel_rfl) (fun _ _ _ h => h) (Or.inl ⟨by rfl, ?hye79⟩) o1d ?re79
  case hye79 => (intro W hW; (try dsimp only at hW); go_simp; try with_reducible rfl)
  try simp only [Act.put, List.setIfInBounds_toArray, List.set_cons_zero, List.set_cons_succ]
  refine wpAnyH_take (i := 5) (v := ?ve80) (by simp only [List.getElem?_toArray, List.getElem?_cons_succ, List.getElem?_cons_zero]; rfl) (by kernel_rfl) (by kernel_rfl) (by kernel_rfl) (fun _ _ _ h => h) (Or.inl ⟨by rfl, ?hye80⟩) o1d ?re80
  case hye80 => (intro W hW; (try dsimp only at hW); go_simp; try with_reducible rfl)
  try simp only [Act.put, List.setIfInBounds_toArray, List.set_cons_zero, List.set_cons_succ]
  refine wpAnyH_take (i := 6) (v := ?ve81) (by simp only [List.getElem?_toArray, List.getElem?_cons_succ, List.getElem?_cons_zero]; rfl) (by kernel_rfl) (by kernel_rfl) (by kernel_rfl) (fun _ _ _ h => h) (Or.inl ⟨by rfl, ?hye81⟩) o1d ?re81
  case hye81 => (intro W hW; (try dsimp only at hW); go_simp; try with_reducible rfl)
  try simp only [Act.put, List.setIfInBounds_toArray, List.set_cons_zero, List.set_cons_succ]
  refine wpAnyH_ready (rs := [3]) (by kernel_rfl) (by simp) ?_
  refine AllReadyH.cons (by simp only [List.getElem?_toArray, List.getElem?_cons_succ, List.getElem?_cons_zero]; rfl) (fun K hK => ?_) AllReadyH.nil
  go_simp
  go_at_call 14
  with_reducible refine HLA.out.mono ?_
  rintro e w4 ⟨rfl, v4, H4, T4⟩
  have HR4 := Lib.hid (HRD.out.turn HSD.out.L T4)
  have HH4 := Lib.hid H4
  have o14 := HR4.out.o.cell 1
  clear H4 T4
  refine hK.out _ _ ?hSe82 (fun hHeld => ?_)
  case hSe82 => exact o14
  clear hK K hHeld
  try simp only [Act.put, List.setIfInBounds_toArray, List.set_cons_zero, List.set_cons_succ]
  refine wpAnyH_ready (rs := [7]) (by kernel_rfl) (by simp) ?_
  refine AllReadyH.cons (by simp only [List.getElem?_toArray, List.getElem?_cons_succ, List.getElem?_cons_zero]; rfl) (fun K hK => ?_) AllReadyH.nil
  go_simp
  go_at_call 15
  with_reducible refine (HRA.out _ _ _ HH4.out).mono ?_
  rintro e w5 ⟨rfl, c5, H5, F5⟩
  have HR5 := Lib.hid (HR4.out.frm F5 (TyS.one HH4.out.R.blk) (by decide) (by decide) (by decide))
  have HH5 := Lib.hid H5
  have o15 := HR5.out.o.cell 1
  clear H5 F5
  refine hK.out _ _ ?hSe83 (fun hHeld => ?_)
  case hSe83 => exact o15
  clear hK K hHeld
  try simp only [Act.put, List.setIfInBounds_toArray, List.set_cons_zero, List.set_cons_succ]
  refine wpAnyH_take (i := 8) (v := ?ve84) (by simp only [List.getElem?_toArray, List.getElem?_cons_succ, List.getElem?_cons_zero]; rfl) (by kernel_rfl) (by kernel_rfl) (by kernel_rfl) (fun _ _ _ h => h) (Or.inl ⟨by rfl, ?hye84⟩) o15 ?re84
  case hye84 => (intro W hW; (try dsimp only at hW); go_simp; try with_reducible rfl)
  try simp only [Act.put, List.setIfInBounds_toArray, List.set_cons_zero, List.set_cons_succ]
  refine wpAnyH_take (i := 9) (v := ?ve85) (by simp only [List.getElem?_toArray, List.getElem?_cons_succ, List.getElem?_cons_zero]; rfl) (by kernel_rfl) (by kernel_rfl) (by kernel_rfl) (fun _ _ _ h => h) (Or.inl ⟨by rfl, ?hye85⟩) o15 ?re85
  case hye85 => (intro W hW; (try dsimp only at hW); go_simp; try with_reducible rfl)
  try simp only [Act.put, List.setIfInBounds_toArray, List.set_cons_zero, List.set_cons_succ]
  refine wpAnyH_done (by kernel_rfl) ?_ _
  refine NoPanic.normal ?_
  go_wp2
  have hz0 := HZ0.out
  exact HCONT.out idx trm (es.take ck) v4 (rs.take ck) A c5 N s _ _ ⟨rfl, rfl, rfl, rfl, rfl, rfl, rfl, rfl, rfl, rfl, rfl, rfl, rfl, rfl, rfl, rfl⟩ HH5.out (by rw [List.map_take, List.map_take, HPL.out]) (by omega) (by omega) (by omega) HR5.out
set_option maxRecDepth 1000000 in
set_option maxHeartbeats 16000000 in
theorem hp_ph3_3 (i t : Int) (A0 : Option Addr) (n c0 : Nat) (a b m : Int) (w : World) (gl gr gb : Nat)
    (wr : World) (j N : Nat) (idx trm : Int) (es : List En) (v : Value) (rs : List En) (A : Option Addr) (c s : Nat) (HS : Hid (HPs w wr gl gr gb idx trm es v idx trm rs A c N s)) (HPL : Hid (es.map plE = rs.map plE)) (hmx : idx + es.length ≤ 1099511627776 + j * 12) (hle : es.length ≤ j * 12) (hj : j < 60) (_hN : N < 200) (x : OpH) (_hn12 : (x.n : Int) ≤ 12)
    (go k0 : Nat) (B : Option Addr) (z a' b' : Int) (news ys : List En) (g3 c3 : Nat) (HR : Hid (HRow w wr v go #[.int .i64 x.kind, .int .i64 a', .int .i64 b', .slice x.A x.n x.c, .bool x.own] B x.n k0 news g3 c3 ys)) (_HNL : Hid (news.length = x.n)) (_HIX : Hid (∀ q ∈ news, i64In q.index)) (_HYL : Hid (ys.length = x.n)) (_HYP : Hid (ys.map plE = news.map plE)) (_hc3 : x.n + 1 ≤ c3) (_HA' : Hid (i64In a')) (T : Code) (Q : Exit → Act → World → Prop)
    (hcont : ∀ (idx2 trm2 : Int) (es2 : List En) (v2 : Value) (rs2 : List En) (A2 : Option Addr) (c2 N2 s2 : Nat) (y : Act) (w' : World), (y.defers = [] ∧ y.tmps.size = 375 ∧ y.tmps[0]? = some (.int .i64 i) ∧ y.tmps[1]? = some (.int .i64 t) ∧ y.tmps[2]? = some (.slice A0 n c0) ∧ y.tmps[3]? = some (.int .i64 a) ∧ y.tmps[4]? = some (.int .i64 b) ∧ y.tmps[5]? = some (.int .i64 m) ∧ y.tmps[13]? = some (.pointer (some ⟨gl, 0, none⟩)) ∧ y.tmps[14]? = some (.pointer (some ⟨gr, 0, none⟩)) ∧ y.tmps[15]? = some (.pointer (some ⟨gb, 0, none⟩)) ∧ y.tmps[16]? = some (.int .i64 j) ∧ y.tmps[17]? = some (.pointer (some ⟨go, 0, none⟩)) ∧ y.tmps[18]? = some (.slice B x.n k0) ∧ y.tmps[21]? = some (.slice (some ⟨g3, 0, none⟩) x.n c3) ∧ y.tmps[22]? = some (.bool true)) → HPs w w' gl gr gb idx2 trm2 es2 v2 idx2 trm2 rs2 A2 c2 N2 s2 → es2.map plE = rs2.map plE → idx2 + es2.length ≤ 1099511627776 + (j + 1 : Nat) * 12 → es2.length ≤ (j + 1) * 12 → N2 ≤ N + 1 → HRow w w' v2 go #[.int .i64 x.kind, .int .i64 a', .int .i64 b', .slice x.A x.n x.c, .bool x.own] B x.n k0 news g3 c3 ys → T.wp Try.prog Q y w')
    (y : Act) (hx : y.defers = [] ∧ y.tmps.size = 375 ∧ y.tmps[0]? = some (.int .i64 i) ∧ y.tmps[1]? = some (.int .i64 t) ∧ y.tmps[2]? = some (.slice A0 n c0) ∧ y.tmps[3]? = some (.int .i64 a) ∧ y.tmps[4]? = some (.int .i64 b) ∧ y.tmps[5]? = some (.int .i64 m) ∧ y.tmps[13]? = some (.pointer (some ⟨gl, 0, none⟩)) ∧ y.tmps[14]? = some (.pointer (some ⟨gr, 0, none⟩)) ∧ y.tmps[15]? = some (.pointer (some ⟨gb, 0, none⟩)) ∧ y.tmps[16]? = some (.int .i64 j) ∧ y.tmps[17]? = some (.pointer (some ⟨go, 0, none⟩)) ∧ y.tmps[18]? = some (.slice B x.n k0) ∧ y.tmps[19]? = some (.int .i64 z) ∧ y.tmps[21]? = some (.slice (some ⟨g3, 0, none⟩) x.n c3) ∧ y.tmps[22]? = some (.bool true)) (h1 : x.kind = 3) : (Code.seq hpC7 T).wp Try.prog Q y wr := by
  obtain ⟨hd, hs, t0_, t1_, t2_, t3_, t4_, t5_, t13_, t14_, t15_, t16_, t17_, t18_, t19_, t21_, t22_⟩ := hx
  obtain ⟨f, rfl⟩ := hp_open _ hd hs
  have e0_ : f 0 = .int .i64 i := Option.some.inj t0_
  have e1_ : f 1 = .int .i64 t := Option.some.inj t1_
  have e2_ : f 2 = .slice A0 n c0 := Option.some.inj t2_
  have e3_ : f 3 = .int .i64 a := Option.some.inj t3_
  have e4_ : f 4 = .int .i64 b := Option.some.inj t4_
  have e5_ : f 5 = .int .i64 m := Option.some.inj t5_
  have e13_ : f 13 = .pointer (some ⟨gl, 0, none⟩) := Option.some.inj t13_
  have e14_ : f 14 = .pointer (some ⟨gr, 0, none⟩) := Option.some.inj t14_
  have e15_ : f 15 = .pointer (some ⟨gb, 0, none⟩) := Option.some.inj t15_
  have e16_ : f 16 = .int .i64 j := Option.some.inj t16_
  have e17_ : f 17 = .pointer (some ⟨go, 0, none⟩) := Option.some.inj t17_
  have e18_ : f 18 = .slice B x.n k0 := Option.some.inj t18_
  have e19_ : f 19 = .int .i64 z := Option.some.inj t19_
  have e21_ : f 21 = .slice (some ⟨g3, 0, none⟩) x.n c3 := Option.some.inj t21_
  have e22_ : f 22 = .bool true := Option.some.inj t22_
  clear hd hs t0_ t1_ t2_ t3_ t4_ t5_ t13_ t14_ t15_ t16_ t17_ t18_ t19_ t21_ t22_
  rw [e0_, e1_, e2_, e3_, e4_, e5_, e13_, e14_, e15_, e16_, e17_, e18_, e19_, e21_, e22_]
  clear e0_ e1_ e2_ e3_ e4_ e5_ e13_ e14_ e15_ e16_ e17_ e18_ e19_ e21_ e22_
  conv => arg 2; arg 1; whnf
  have HCONT := Lib.hid hcont
  clear hcont
  have c0 := HR.out.o.cell 0
  have c1 := HR.out.o.cell 1
  have c2 := HR.out.o.cell 2
  have hlen : es.length = rs.length := by have h := congrArg List.length HPL.out; simpa only [List.length_map] using h
  have hsame : SameT (ents es) (ents rs) := pl_same HPL.out
  have HSD : Hid (HPs w wr.drew gl gr gb idx trm es v idx trm rs A c N s) := HS.out.qt ⟨1, rfl⟩
  have HRD : Hid (HRow w wr.drew v go #[.int .i64 x.kind, .int .i64 a', .int .i64 b', .slice x.A x.n x.c, .bool x.own] B x.n k0 news g3 c3 ys) := HR.out.qt ⟨1, rfl⟩
  have o1d : wr.drew.cell? ⟨go, 1, none⟩ = some (.int .i64 a') := c1
  obtain ⟨tk, htk⟩ : ∃ tk, tk = trimK idx es.length a' := ⟨_, rfl⟩
  have htk2 : tk = trimK idx rs.length a' := by rw [htk, hlen]
  obtain ⟨T9, hT9⟩ : ∃ T9, T9 = trimT idx trm (ents es) a' := ⟨_, rfl⟩
  have hT92 : T9 = trimT idx trm (ents rs) a' := by rw [hT9, trimT_same hsame]
  have htl : tk ≤ es.length := by rw [htk]; exact trimK_le _ _ _
  have hLA := hp_ltrim HSD.out a' (by omega) (by omega)
  rw [← htk, ← hT9] at hLA
  have hRA : ∀ (v2 : Value) (es2 : List En) (w2 : World) (i2 t2 : Int), HPs w w2 gl gr gb i2 t2 es2 v2 idx trm rs A c N s → Calls Try.prog 17 #[.pointer (some ⟨gr, 0, none⟩), .int .i64 a'] w2 fun e w' => e = .returned (.int .i64 tk) ∧ ∃ A2 c2, HPs w w' gl gr gb i2 t2 es2 v2 (idx + tk) T9 (rs.drop tk) A2 c2 N s ∧ Frm (at1 gr) w2 w' := fun v2 es2 w2 i2 t2 H2 => by
    have h := hp_rtrim H2 a' (by omega)
    rw [← htk2, ← hT92] at h
    exact h
  have HLA := Lib.hid hLA
  have HRA : Hid (∀ (v2 : Value) (es2 : List En) (w2 : World), HPs w w2 gl gr gb (idx + tk) T9 es2 v2 idx trm rs A c N s → Calls Try.prog 17 #[.pointer (some ⟨gr, 0, none⟩), .int .i64 a'] w2 fun e w' => e = .returned (.int .i64 tk) ∧ ∃ A2 c2, HPs w w' gl gr gb (idx + tk) T9 es2 v2 (idx + tk) T9 (rs.drop tk) A2 c2 N s ∧ Frm (at1 gr) w2 w') := fun v2 es2 w2 h => hRA v2 es2 w2 _ _ h
  have hz0 : (es.drop tk).length = es.length - tk := List.length_drop ..
  have HZ0 := Lib.hid hz0
  have HTL := Lib.hid htl
  rw [h1] at c0
  clear hLA hRA htk htk2 hT9 hT92 hsame hlen h1 hz0 htl
  go_upto_region 43 with fail
  refine wp_region_noPanic ?_
  refine wp_region_held_drew (S := fun W => W.cell? ⟨go, 1, none⟩ = some (.int .i64 a')) (by kernel_rfl) o1d (fun _ => ?_)
  refine wpAnyH_take (i := 0) (v := ?vg86) (by simp only [List.getElem?_toArray, List.getElem?_cons_zero]; rfl) (by kernel_rfl) (by kernel_rfl) (by kernel_rfl) (fun _ _ _ h => h) (Or.inl ⟨by rfl, ?hyg86⟩) o1d ?rg86
  case hyg86 => (intro W hW; (try dsimp only at hW); go_simp; try with_reducible rfl)
  try simp only [Act.put, List.setIfInBounds_toArray, List.set_cons_zero, List.set_cons_succ]
  refine wpAnyH_take (i := 1) (v := ?vg87) (by simp only [List.getElem?_toArray, List.getElem?_cons_succ, List.getElem?_cons_zero]; rfl) (by kernel_rfl) (by kernel_rfl) (by kernel_rfl) (fun _ _ _ h => h) (Or.inl ⟨by rfl, ?hyg87⟩) o1d ?rg87
  case hyg87 => (intro W hW; (try dsimp only at hW); go_simp; try with_reducible rfl)
  try simp only [Act.put, List.setIfInBounds_toArray, List.set_cons_zero, List.set_cons_succ]
  refine wpAnyH_take (i := 2) (v := ?vg88) (by simp only [List.getElem?_toArray, List.getElem?_cons_succ, List.getElem?_cons_zero]; rfl) (by kernel_rfl) (by kernel_rfl) (by kernel_rfl) (fun _ _ _ h => h) (Or.inl ⟨by rfl, ?hyg88⟩) o1d ?rg88
  case hyg88 => (intro W hW; (try dsimp only at hW); go_simp; try with_reducible rfl)
  try simp only [Act.put, List.setIfInBounds_toArray, List.set_cons_zero, List.set_cons_succ]
  refine wpAnyH_take (i := 4) (v := ?vg89) (by simp only [List.getElem?_toArray, List.getElem?_cons_succ, List.getElem?_cons_zero]; rfl) (by kernel_rfl) (by kernel_rfl) (by kernel_rfl) (fun _ _ _ h => h) (Or.inl ⟨by rfl, ?hyg89⟩) o1d ?rg89
  case hyg89 => (intro W hW; (try dsimp only at hW); go_simp; try with_reducible rfl)
  try simp only [Act.put, List.setIfInBounds_toArray, List.set_cons_zero, List.set_cons_succ]
  refine wpAnyH_take (i := 5) (v := ?vg90) (by simp only [List.getElem?_toArray, List.getElem?_cons_succ, List.getElem?_cons_zero]; rfl) (by kernel_rfl) (by kernel_rfl) (by kernel_rfl) (fun _ _ _ h => h) (Or.inl ⟨by rfl, ?hyg90⟩) o1d ?rg90
  case hyg90 => (intro W hW; (try dsimp only at hW); go_simp; try with_reducible rfl)
  try simp only [Act.put, List.setIfInBounds_toArray, List.set_cons_zero, List.set_cons_succ]
  refine wpAnyH_take (i := 6) (v := ?vg91) (by simp only [List.getElem?_toArray, List.getElem?_cons_succ, List.getElem?_cons_zero]; rfl) (by kernel_rfl) (by kernel_rfl) (by kernel_rfl) (fun _ _ _ h => h) (Or.inl ⟨by rfl, ?hyg91⟩) o1d ?rg91
  case hyg91 => (intro W hW; (try dsimp only at hW); go_simp; try with_reducible rfl)
  try simp only [Act.put, List.setIfInBounds_toArray, List.set_cons_zero, List.set_cons_succ]
  refine wpAnyH_ready (rs := [3]) (by kernel_rfl) (by simp) ?_
  refine AllReadyH.cons (by simp only [List.getElem?_toArray, List.getElem?_cons_succ, List.getElem?_cons_zero]; rfl) (fun K hK => ?_) AllReadyH.nil
  go_simp
  go_at_call 16
  with_reducible refine HLA.out.mono ?_
  rintro e w4 ⟨rfl, v4, H4, T4⟩
  have HR4 := Lib.hid (HRD.out.turn HSD.out.L T4)
  have HH4 := Lib.hid H4
  have o14 := HR4.out.o.cell 1
  clear H4 T4
  refine hK.out _ _ ?hSg92 (fun hHeld => ?_)
  case hSg92 => exact o14
  clear hK K hHeld
  try simp only [Act.put, List.setIfInBounds_toArray, List.set_cons_zero, List.set_cons_succ]
  refine wpAnyH_ready (rs := [7]) (by kernel_rfl) (by simp) ?_
  refine AllReadyH.cons (by simp only [List.getElem?_toArray, List.getElem?_cons_succ, List.getElem?_cons_zero]; rfl) (fun K hK => ?_) AllReadyH.nil
  go_simp
  go_at_call 17
  with_reducible refine (HRA.out _ _ _ HH4.out).mono ?_
  rintro e w5 ⟨rfl, A5, c5, H5, F5⟩
  have HR5 := Lib.hid (HR4.out.frm F5 (TyS.one HH4.out.R.blk) (by decide) (by decide) (by decide))
  have HH5 := Lib.hid H5
  have o15 := HR5.out.o.cell 1
  clear H5 F5
  refine hK.out _ _ ?hSg93 (fun hHeld => ?_)
  case hSg93 => exact o15
  clear hK K hHeld
  try simp only [Act.put, List.setIfInBounds_toArray, List.set_cons_zero, List.set_cons_succ]
  refine wpAnyH_take (i := 8) (v := ?vg94) (by simp only [List.getElem?_toArray, List.getElem?_cons_succ, List.getElem?_cons_zero]; rfl) (by kernel_rfl) (by kernel_rfl) (by kernel_rfl) (fun _ _ _ h => h) (Or.inl ⟨by rfl, ?hyg94⟩) o15 ?rg94
  case hyg94 => (intro W hW; (try dsimp only at hW); go_simp; try with_reducible rfl)
  try simp only [Act.put, List.setIfInBounds_toArray, List.set_cons_zero, List.set_cons_succ]
  refine wpAnyH_take (i := 9) (v := ?vg95) (by simp only [List.getElem?_toArray, List.getElem?_cons_succ, List.getElem?_cons_zero]; rfl) (by kernel_rfl) (by kernel_rfl) (by kernel_rfl) (fun _ _ _ h => h) (Or.inl ⟨by rfl, ?hyg95⟩) o15 ?rg95
  case hyg95 => (intro W hW; (try dsimp only at hW); go_simp; try with_reducible rfl)
  try simp only [Act.put, List.setIfInBounds_toArray, List.set_cons_zero, List.set_cons_succ]
  refine wpAnyH_done (by kernel_rfl) ?_ _
  refine NoPanic.normal ?_
  go_wp2
  have hz0 := HZ0.out
  have htl := HTL.out
  exact HCONT.out (idx + tk) T9 (es.drop tk) v4 (rs.drop tk) A5 c5 N s _ _ ⟨rfl, rfl, rfl, rfl, rfl, rfl, rfl, rfl, rfl, rfl, rfl, rfl, rfl, rfl, rfl, rfl⟩ HH5.out (by rw [List.map_drop, List.map_drop, HPL.out]) (by omega) (by omega) (by omega) HR5.out
end Go.Proofs.Ytdhohaeopfgbmaa
