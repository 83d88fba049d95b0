/-
  HistPlays: a round, third stretch: Join, where entries do not follow. Conditions: as the stretch before leaves it.
-/
import Derived.Test.YtdhohaeopfgbmaaHpD
namespace Go.Proofs.Ytdhohaeopfgbmaa
open Go Go.RowKit
attribute [local go_sem] cell_set_if

set_option maxRecDepth 1000000 in
set_option maxHeartbeats 16000000 in
theorem hp_ph3_4f (i t : Int) (A0 : Option Addr) (n c0 : Nat) (a b m : Int) (w : World) (gl gr gb : Nat)
    (wr : World) (j N : Nat) (idx trm : Int) (es : List En) (v : Value) (rs : List En) (A : Option Addr) (c s : Nat) (HS : Hid (HPs w wr gl gr gb idx trm es v idx trm rs A c N s)) (HPL : Hid (es.map plE = rs.map plE)) (hmx : idx + es.length ≤ 1099511627776 + j * 12) (hle : es.length ≤ j * 12) (hj : j < 60) (hN : N < 200) (x : OpH) (hn12 : (x.n : Int) ≤ 12)
    (go k0 : Nat) (B : Option Addr) (z a' b' : Int) (news ys : List En) (g3 c3 : Nat) (HR : Hid (HRow w wr v go #[.int .i64 x.kind, .int .i64 a', .int .i64 b', .slice x.A x.n x.c, .bool x.own] B x.n k0 news g3 c3 ys)) (HNL : Hid (news.length = x.n)) (HIX : Hid (∀ q ∈ news, i64In q.index)) (HYL : Hid (ys.length = x.n)) (HYP : Hid (ys.map plE = news.map plE)) (hc3 : x.n + 1 ≤ c3) (HA' : Hid (i64In a')) (T : Code) (Q : Exit → Act → World → Prop)
    (hcont : ∀ (idx2 trm2 : Int) (es2 : List En) (v2 : Value) (rs2 : List En) (A2 : Option Addr) (c2 N2 s2 : Nat) (y : Act) (w' : World), (y.defers = [] ∧ y.tmps.size = 375 ∧ y.tmps[0]? = some (.int .i64 i) ∧ y.tmps[1]? = some (.int .i64 t) ∧ y.tmps[2]? = some (.slice A0 n c0) ∧ y.tmps[3]? = some (.int .i64 a) ∧ y.tmps[4]? = some (.int .i64 b) ∧ y.tmps[5]? = some (.int .i64 m) ∧ y.tmps[13]? = some (.pointer (some ⟨gl, 0, none⟩)) ∧ y.tmps[14]? = some (.pointer (some ⟨gr, 0, none⟩)) ∧ y.tmps[15]? = some (.pointer (some ⟨gb, 0, none⟩)) ∧ y.tmps[16]? = some (.int .i64 j) ∧ y.tmps[17]? = some (.pointer (some ⟨go, 0, none⟩)) ∧ y.tmps[18]? = some (.slice B x.n k0) ∧ y.tmps[21]? = some (.slice (some ⟨g3, 0, none⟩) x.n c3) ∧ y.tmps[22]? = some (.bool true)) → HPs w w' gl gr gb idx2 trm2 es2 v2 idx2 trm2 rs2 A2 c2 N2 s2 → es2.map plE = rs2.map plE → idx2 + es2.length ≤ 1099511627776 + (j + 1 : Nat) * 12 → es2.length ≤ (j + 1) * 12 → N2 ≤ N + 1 → HRow w w' v2 go #[.int .i64 x.kind, .int .i64 a', .int .i64 b', .slice x.A x.n x.c, .bool x.own] B x.n k0 news g3 c3 ys → T.wp Try.prog Q y w')
    (y : Act) (hx : y.defers = [] ∧ y.tmps.size = 375 ∧ y.tmps[0]? = some (.int .i64 i) ∧ y.tmps[1]? = some (.int .i64 t) ∧ y.tmps[2]? = some (.slice A0 n c0) ∧ y.tmps[3]? = some (.int .i64 a) ∧ y.tmps[4]? = some (.int .i64 b) ∧ y.tmps[5]? = some (.int .i64 m) ∧ y.tmps[13]? = some (.pointer (some ⟨gl, 0, none⟩)) ∧ y.tmps[14]? = some (.pointer (some ⟨gr, 0, none⟩)) ∧ y.tmps[15]? = some (.pointer (some ⟨gb, 0, none⟩)) ∧ y.tmps[16]? = some (.int .i64 j) ∧ y.tmps[17]? = some (.pointer (some ⟨go, 0, none⟩)) ∧ y.tmps[18]? = some (.slice B x.n k0) ∧ y.tmps[19]? = some (.int .i64 z) ∧ y.tmps[21]? = some (.slice (some ⟨g3, 0, none⟩) x.n c3) ∧ y.tmps[22]? = some (.bool true)) (h1 : (x.kind == 1) = false) (h2 : (x.kind == 2) = false) (h3 : (x.kind == 3) = false) (hJ : joinB idx trm (ents es) a' b' ys = false) : (Code.seq hpC7 T).wp Try.prog Q y wr := by
  obtain ⟨hd, hs, t0_, t1_, t2_, t3_, t4_, t5_, t13_, t14_, t15_, t16_, t17_, t18_, t19_, t21_, t22_⟩ := hx
  obtain ⟨f, rfl⟩ := hp_open _ hd hs
  have e0_ : f 0 = .int .i64 i := Option.some.inj t0_
  have e1_ : f 1 = .int .i64 t := Option.some.inj t1_
  have e2_ : f 2 = .slice A0 n c0 := Option.some.inj t2_
  have e3_ : f 3 = .int .i64 a := Option.some.inj t3_
  have e4_ : f 4 = .int .i64 b := Option.some.inj t4_
  have e5_ : f 5 = .int .i64 m := Option.some.inj t5_
  have e13_ : f 13 = .pointer (some ⟨gl, 0, none⟩) := Option.some.inj t13_
  have e14_ : f 14 = .pointer (some ⟨gr, 0, none⟩) := Option.some.inj t14_
  have e15_ : f 15 = .pointer (some ⟨gb, 0, none⟩) := Option.some.inj t15_
  have e16_ : f 16 = .int .i64 j := Option.some.inj t16_
  have e17_ : f 17 = .pointer (some ⟨go, 0, none⟩) := Option.some.inj t17_
  have e18_ : f 18 = .slice B x.n k0 := Option.some.inj t18_
  have e19_ : f 19 = .int .i64 z := Option.some.inj t19_
  have e21_ : f 21 = .slice (some ⟨g3, 0, none⟩) x.n c3 := Option.some.inj t21_
  have e22_ : f 22 = .bool true := Option.some.inj t22_
  clear hd hs t0_ t1_ t2_ t3_ t4_ t5_ t13_ t14_ t15_ t16_ t17_ t18_ t19_ t21_ t22_
  rw [e0_, e1_, e2_, e3_, e4_, e5_, e13_, e14_, e15_, e16_, e17_, e18_, e19_, e21_, e22_]
  clear e0_ e1_ e2_ e3_ e4_ e5_ e13_ e14_ e15_ e16_ e17_ e18_ e19_ e21_ e22_
  conv => arg 2; arg 1; whnf
  have HCONT := Lib.hid hcont
  clear hcont
  have c0 := HR.out.o.cell 0
  have c1 := HR.out.o.cell 1
  have c2 := HR.out.o.cell 2
  have hlen : es.length = rs.length := by have h := congrArg List.length HPL.out; simpa only [List.length_map] using h
  have hsame : SameT (ents es) (ents rs) := pl_same HPL.out
  have hRY : Rd wr (some ⟨g3, 0, none⟩) (flatEn ys) := by have h := Rd.of_own HR.out.lent; rw [flatEn_app] at h; exact h.pre
  have hYI : ∀ q ∈ ys, i64In q.index := fun q hq => by
    obtain ⟨u, hu, e⟩ := mem_pl HYP.out hq
    rw [(plE_eq e).1]; exact HIX.out u hu
  have hJJ : joinB idx trm (ents es) a' b' ys = joinB idx trm (ents rs) a' b' news := joinB_same hsame HYP.out a' b'
  have hLJ := join_gen wr w.heap.size gl idx trm es v HS.out.L a' b' (some ⟨g3, 0, none⟩) x.n c3 ys hRY HYL.out (by omega) hYI (fun q hq => (HR.out.lm q hq).has) HA'.out.1 (by omega) (by omega)
  have hRJ : ∀ w2, HPs w w2 gl gr gb idx trm es v idx trm rs A c N s → Rd w2 B (flatEn news) → _ := fun w2 H2 h9 => rjoin_m w2 w.heap.size gr idx trm rs A c H2.R a' b' B x.n k0 news h9 HNL.out (by obtain ⟨_, _, e, h⟩ := own_form HR.out.row; injection e with _ _ e; omega) HIX.out HA'.out.1 (by omega) (by omega)
  rw [← hJJ, hJ] at hRJ
  rw [hJ] at hLJ
  have hLJ2 : Calls Try.prog 18 #[.pointer (some ⟨gl, 0, none⟩), .int .i64 a', .int .i64 b', .slice (some ⟨g3, 0, none⟩) x.n c3] wr fun e w' => e = .returned (.tuple #[.int .i64 0, .slice none 0 0, .bool false]) ∧ Below wr.heap.size wr w' := hLJ.mono fun e w' h => by
    rcases h with ⟨h, _⟩ | ⟨_, h1, h2⟩
    · exact absurd h (by decide)
    · exact ⟨h1, h2⟩
  have hRJ2 : ∀ w2, HPs w w2 gl gr gb idx trm es v idx trm rs A c N s → Rd w2 B (flatEn news) → Calls Try.prog 19 #[.pointer (some ⟨gr, 0, none⟩), .int .i64 a', .int .i64 b', .slice B x.n k0] w2 fun e w' => e = .returned (.tuple #[.int .i64 0, .slice none 0 0, .bool false]) ∧ Qt w2 w' := fun w2 H2 h9 => (hRJ w2 H2 h9).mono fun e w' h => by
    rcases h with ⟨_, h1, h2⟩ | ⟨h, _⟩
    · exact ⟨h1, h2⟩
    · exact absurd h (by decide)
  have HLJ := Lib.hid hLJ2
  have HRJ := Lib.hid hRJ2
  clear hRY hYI hJJ hLJ hRJ hLJ2 hRJ2 hJ hsame hlen
  go_upto_region 31 with (first
    | (go_at_call 18
       with_reducible refine HLJ.out.mono ?_
       rintro e w4 ⟨rfl, b4⟩
       have HR4 := Lib.hid (HR.out.below b4)
       have HH4 := Lib.hid (HS.out.below b4)
       have c14 := HR4.out.o.cell 1
       have c24 := HR4.out.o.cell 2))
  go_upto_region 33 with (first
    | (go_at_call 19
       with_reducible refine (HRJ.out _ HH4.out (Rd.of_own HR4.out.row)).mono ?_
       rintro e w5 ⟨rfl, q5⟩
       have HR5 := Lib.hid (HR4.out.qt q5)
       have HH5 := Lib.hid (HH4.out.qt q5))
    | (go_at_call 20
       refine (sameens_yes none none 0 0 0 [] [] _ (Rd.nil _ _) (Rd.nil _ _) rfl (by omega) rfl (by simp) (by simp)).mono ?_
       rintro e w6 ⟨rfl, q6⟩
       have HR6 := Lib.hid (HR5.out.qt q6)
       have HH6 := Lib.hid (HH5.out.qt q6)))
  have HEN := Lib.hid (hp_entries HH6.out (by omega) none 0 0 [] rfl (by omega) (World.ownsRow_nil _ _ _ _) (by simp) (fun k hk => by simp [Value.ownBlock] at hk))
  clear b4 q5 q6 c14 c24 HH4 HH5 HR4 HR5 HLJ HRJ
  go_wp2_with (first
    | (go_at_call 21
       with_reducible refine HEN.out.mono ?_
       rintro e w7 ⟨rfl, H7, S7, F7, T7⟩
       have HR7 := Lib.hid (HR6.out.frm F7 T7 (by decide) (by decide) (by decide))
       have HH7 := Lib.hid H7
       clear H7 T7 F7))
  exact HCONT.out idx trm es v rs A c (N + 1) w7.heap.size _ _ ⟨rfl, rfl, rfl, rfl, rfl, rfl, rfl, rfl, rfl, rfl, rfl, rfl, rfl, rfl, rfl, rfl⟩ HH7.out HPL.out (by omega) (by omega) (by omega) HR7.out
end Go.Proofs.Ytdhohaeopfgbmaa
