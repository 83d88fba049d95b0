/-
  HistPlays: a round, second stretch, whole: the copied list made to follow, and lent. Conditions: as the first stretch leaves it.
-/
import Derived.Test.YtdhohaeopfgbmaaHpK2
namespace Go.Proofs.Ytdhohaeopfgbmaa
open Go Go.RowKit
attribute [local go_sem] cell_set_if

theorem slot_at {t : Array Value} {k : Nat} {v : Value} (h : t[k]? = some v) : t.getD k undef = v := by
  rw [Array.getD_eq_getD_getElem?, h]; rfl
set_option maxRecDepth 1000000 in
theorem hp_loop2 (i t : Int) (A0 : Option Addr) (n c0 : Nat) (a b m : Int) (w : World) (gl gr gb : Nat)
    (wr : World) (j N : Nat) (idx trm : Int) (es : List En) (v : Value) (rs : List En) (A : Option Addr) (c s : Nat) (HS : Hid (HPs w wr gl gr gb idx trm es v idx trm rs A c N s)) (x : OpH) (hn12 : (x.n : Int) ≤ 12)
    (go k0 : Nat) (B : Option Addr) (z a' b' : Int) (hgo : wr.heap.size ≤ go) (HZ : Hid (x.own = true → 0 ≤ z ∧ z ≤ 2199023255552)) (Q0 : Exit → Act → World → Prop)
    (hexit : ∀ (y : Act) (w' : World) (news : List En), (y.defers = [] ∧ y.tmps.size = 375 ∧ y.tmps[0]? = some (.int .i64 i) ∧ y.tmps[1]? = some (.int .i64 t) ∧ y.tmps[2]? = some (.slice A0 n c0) ∧ y.tmps[3]? = some (.int .i64 a) ∧ y.tmps[4]? = some (.int .i64 b) ∧ y.tmps[5]? = some (.int .i64 m) ∧ y.tmps[13]? = some (.pointer (some ⟨gl, 0, none⟩)) ∧ y.tmps[14]? = some (.pointer (some ⟨gr, 0, none⟩)) ∧ y.tmps[15]? = some (.pointer (some ⟨gb, 0, none⟩)) ∧ y.tmps[16]? = some (.int .i64 j) ∧ y.tmps[17]? = some (.pointer (some ⟨go, 0, none⟩)) ∧ y.tmps[18]? = some (.slice B x.n k0) ∧ y.tmps[19]? = some (.int .i64 z)) → (Hid (news.length = x.n ∧ ∀ q ∈ news, q.has w ∧ i64In q.index) ∧ Hid (w'.ownsRow wr.heap.size 53 5 (.slice B x.n k0) x.n (flatEn news)) ∧ Hid (Blk w' go 43 #[.int .i64 x.kind, .int .i64 a', .int .i64 b', .slice x.A x.n x.c, .bool x.own]) ∧ Hid (Below wr.heap.size wr w')) → Q0 (.exit 2) y w')
    (y : Act) (wx : World) (news : List En) (hx : y.defers = [] ∧ y.tmps.size = 375 ∧ y.tmps[0]? = some (.int .i64 i) ∧ y.tmps[1]? = some (.int .i64 t) ∧ y.tmps[2]? = some (.slice A0 n c0) ∧ y.tmps[3]? = some (.int .i64 a) ∧ y.tmps[4]? = some (.int .i64 b) ∧ y.tmps[5]? = some (.int .i64 m) ∧ y.tmps[13]? = some (.pointer (some ⟨gl, 0, none⟩)) ∧ y.tmps[14]? = some (.pointer (some ⟨gr, 0, none⟩)) ∧ y.tmps[15]? = some (.pointer (some ⟨gb, 0, none⟩)) ∧ y.tmps[16]? = some (.int .i64 j) ∧ y.tmps[17]? = some (.pointer (some ⟨go, 0, none⟩)) ∧ y.tmps[18]? = some (.slice B x.n k0) ∧ y.tmps[19]? = some (.int .i64 z) ∧ y.tmps[20]? = some (.int .i64 (0 : Nat))) (HI : Hid (news.length = x.n ∧ ∀ q ∈ news, q.has w ∧ i64In q.index) ∧ Hid (wx.ownsRow wr.heap.size 53 5 (.slice B x.n k0) x.n (flatEn news)) ∧ Hid (Blk wx go 43 #[.int .i64 x.kind, .int .i64 a', .int .i64 b', .slice x.A x.n x.c, .bool x.own]) ∧ Hid (Below wr.heap.size wr wx)) : (Code.loop hpL2).wp Try.prog Q0 y wx := by
  refine wp_loop (fun y w' => ∃ (k : Nat) (news : List En), k ≤ x.n ∧ (y.defers = [] ∧ y.tmps.size = 375 ∧ y.tmps[0]? = some (.int .i64 i) ∧ y.tmps[1]? = some (.int .i64 t) ∧ y.tmps[2]? = some (.slice A0 n c0) ∧ y.tmps[3]? = some (.int .i64 a) ∧ y.tmps[4]? = some (.int .i64 b) ∧ y.tmps[5]? = some (.int .i64 m) ∧ y.tmps[13]? = some (.pointer (some ⟨gl, 0, none⟩)) ∧ y.tmps[14]? = some (.pointer (some ⟨gr, 0, none⟩)) ∧ y.tmps[15]? = some (.pointer (some ⟨gb, 0, none⟩)) ∧ y.tmps[16]? = some (.int .i64 j) ∧ y.tmps[17]? = some (.pointer (some ⟨go, 0, none⟩)) ∧ y.tmps[18]? = some (.slice B x.n k0) ∧ y.tmps[19]? = some (.int .i64 z) ∧ y.tmps[20]? = some (.int .i64 k)) ∧ (Hid (news.length = x.n ∧ ∀ q ∈ news, q.has w ∧ i64In q.index) ∧ Hid (w'.ownsRow wr.heap.size 53 5 (.slice B x.n k0) x.n (flatEn news)) ∧ Hid (Blk w' go 43 #[.int .i64 x.kind, .int .i64 a', .int .i64 b', .slice x.A x.n x.c, .bool x.own]) ∧ Hid (Below wr.heap.size wr w'))) (fun y _ => x.n - (intOf (y.tmps.getD 20 undef)).toNat) ⟨0, news, by omega, hx, HI⟩ ?_
  rintro y1 w1 ⟨k, news1, hk, hx1, HI1⟩
  refine hp_round2 i t A0 n c0 a b m w gl gr gb wr j N idx trm es v rs A c s HS x hn12 go k0 B z a' b' hgo HZ Q0 _ k (fun hlt y2 w2 news2 hx2 HI2 => ?_) hexit y1 w1 news1 hk hx1 HI1
  have e1 : (y1.tmps.getD 20 undef) = .int .i64 (k : Int) := by
    obtain ⟨qd, qs, q0_, q1_, q2_, q3_, q4_, q5_, q13_, q14_, q15_, q16_, q17_, q18_, q19_, q20_⟩ := hx1
    exact slot_at q20_
  obtain ⟨qd, qs, q0_, q1_, q2_, q3_, q4_, q5_, q13_, q14_, q15_, q16_, q17_, q18_, q19_, q20_⟩ := hx2
  have e2 : (y2.tmps.getD 20 undef) = .int .i64 ((k : Int) + 1) := slot_at q20_
  have q20_ : y2.tmps[20]? = some (.int .i64 ((k + 1 : Nat) : Int)) := q20_
  refine ⟨⟨k + 1, news2, by omega, ⟨qd, qs, q0_, q1_, q2_, q3_, q4_, q5_, q13_, q14_, q15_, q16_, q17_, q18_, q19_, q20_⟩, HI2⟩, ?_⟩
  show x.n - (intOf (y2.tmps.getD 20 undef)).toNat < x.n - (intOf (y1.tmps.getD 20 undef)).toNat
  rw [e1, e2]
  simp only [intOf]; omega
set_option maxRecDepth 1000000 in
set_option maxHeartbeats 16000000 in
theorem hp_ph2 (i t : Int) (A0 : Option Addr) (n c0 : Nat) (a b m : Int) (w : World) (gl gr gb : Nat)
    (wr : World) (j N : Nat) (idx trm : Int) (es : List En) (v : Value) (rs : List En) (A : Option Addr) (c s : Nat) (HS : Hid (HPs w wr gl gr gb idx trm es v idx trm rs A c N s)) (x : OpH) (hn12 : (x.n : Int) ≤ 12)
    (go k0 : Nat) (B : Option Addr) (z a' b' : Int) (hgo : wr.heap.size ≤ go) (HZ : Hid (x.own = true → 0 ≤ z ∧ z ≤ 2199023255552)) (T : Code) (Q : Exit → Act → World → Prop)
    (hcont : ∀ (news ys : List En) (g3 c3 : Nat) (y : Act) (w' : World), (y.defers = [] ∧ y.tmps.size = 375 ∧ y.tmps[0]? = some (.int .i64 i) ∧ y.tmps[1]? = some (.int .i64 t) ∧ y.tmps[2]? = some (.slice A0 n c0) ∧ y.tmps[3]? = some (.int .i64 a) ∧ y.tmps[4]? = some (.int .i64 b) ∧ y.tmps[5]? = some (.int .i64 m) ∧ y.tmps[13]? = some (.pointer (some ⟨gl, 0, none⟩)) ∧ y.tmps[14]? = some (.pointer (some ⟨gr, 0, none⟩)) ∧ y.tmps[15]? = some (.pointer (some ⟨gb, 0, none⟩)) ∧ y.tmps[16]? = some (.int .i64 j) ∧ y.tmps[17]? = some (.pointer (some ⟨go, 0, none⟩)) ∧ y.tmps[18]? = some (.slice B x.n k0) ∧ y.tmps[19]? = some (.int .i64 z) ∧ y.tmps[21]? = some (.slice (some ⟨g3, 0, none⟩) x.n c3) ∧ y.tmps[22]? = some (.bool true)) → HPs w w' gl gr gb idx trm es v idx trm rs A c N s → HRow w w' v go #[.int .i64 x.kind, .int .i64 a', .int .i64 b', .slice x.A x.n x.c, .bool x.own] B x.n k0 news g3 c3 ys → news.length = x.n → (∀ q ∈ news, i64In q.index) → ys.length = x.n → ys.map plE = news.map plE → x.n + 1 ≤ c3 → T.wp Try.prog Q y w')
    (y : Act) (wx : World) (news : List En) (hx : y.defers = [] ∧ y.tmps.size = 375 ∧ y.tmps[0]? = some (.int .i64 i) ∧ y.tmps[1]? = some (.int .i64 t) ∧ y.tmps[2]? = some (.slice A0 n c0) ∧ y.tmps[3]? = some (.int .i64 a) ∧ y.tmps[4]? = some (.int .i64 b) ∧ y.tmps[5]? = some (.int .i64 m) ∧ y.tmps[13]? = some (.pointer (some ⟨gl, 0, none⟩)) ∧ y.tmps[14]? = some (.pointer (some ⟨gr, 0, none⟩)) ∧ y.tmps[15]? = some (.pointer (some ⟨gb, 0, none⟩)) ∧ y.tmps[16]? = some (.int .i64 j) ∧ y.tmps[17]? = some (.pointer (some ⟨go, 0, none⟩)) ∧ y.tmps[18]? = some (.slice B x.n k0) ∧ y.tmps[19]? = some (.int .i64 z)) (HI : Hid (news.length = x.n ∧ ∀ q ∈ news, q.has w ∧ i64In q.index) ∧ Hid (wx.ownsRow wr.heap.size 53 5 (.slice B x.n k0) x.n (flatEn news)) ∧ Hid (Blk wx go 43 #[.int .i64 x.kind, .int .i64 a', .int .i64 b', .slice x.A x.n x.c, .bool x.own]) ∧ Hid (Below wr.heap.size wr wx)) : (Code.seq hpC4 (.seq hpC5 (.seq hpC6 T))).wp Try.prog Q y wx := by
  obtain ⟨hd, hs, t0_, t1_, t2_, t3_, t4_, t5_, t13_, t14_, t15_, t16_, t17_, t18_, t19_⟩ := hx
  obtain ⟨f, rfl⟩ := hp_open _ hd hs
  have e0_ : f 0 = .int .i64 i := Option.some.inj t0_
  have e1_ : f 1 = .int .i64 t := Option.some.inj t1_
  have e2_ : f 2 = .slice A0 n c0 := Option.some.inj t2_
  have e3_ : f 3 = .int .i64 a := Option.some.inj t3_
  have e4_ : f 4 = .int .i64 b := Option.some.inj t4_
  have e5_ : f 5 = .int .i64 m := Option.some.inj t5_
  have e13_ : f 13 = .pointer (some ⟨gl, 0, none⟩) := Option.some.inj t13_
  have e14_ : f 14 = .pointer (some ⟨gr, 0, none⟩) := Option.some.inj t14_
  have e15_ : f 15 = .pointer (some ⟨gb, 0, none⟩) := Option.some.inj t15_
  have e16_ : f 16 = .int .i64 j := Option.some.inj t16_
  have e17_ : f 17 = .pointer (some ⟨go, 0, none⟩) := Option.some.inj t17_
  have e18_ : f 18 = .slice B x.n k0 := Option.some.inj t18_
  have e19_ : f 19 = .int .i64 z := Option.some.inj t19_
  clear hd hs t0_ t1_ t2_ t3_ t4_ t5_ t13_ t14_ t15_ t16_ t17_ t18_ t19_
  rw [e0_, e1_, e2_, e3_, e4_, e5_, e13_, e14_, e15_, e16_, e17_, e18_, e19_]
  clear e0_ e1_ e2_ e3_ e4_ e5_ e13_ e14_ e15_ e16_ e17_ e18_ e19_
  conv => arg 2; arg 1; whnf
  conv => arg 2; arg 2; arg 1; whnf
  conv => arg 2; arg 2; arg 2; arg 1; whnf
  have HCONT := Lib.hid hcont
  clear hcont
  go_upto_block 2 with fail
  refine wp_block ?_
  refine hp_loop2 i t A0 n c0 a b m w gl gr gb wr j N idx trm es v rs A c s HS x hn12 go k0 B z a' b' hgo HZ _ ?hx _ wx news ⟨rfl, rfl, rfl, rfl, rfl, rfl, rfl, rfl, rfl, rfl, rfl, rfl, rfl, rfl, rfl, rfl⟩ HI
  case hx =>
    intro y2 w2 news2 hx2 HI2
    obtain ⟨HNW, HO, HKO, HBX⟩ := HI2
    simp only [Exit.inBlock, Exit.then, if_true]
    obtain ⟨hd, hs, t0_, t1_, t2_, t3_, t4_, t5_, t13_, t14_, t15_, t16_, t17_, t18_, t19_⟩ := hx2
    obtain ⟨f, rfl⟩ := hp_open _ hd hs
    have e0_ : f 0 = .int .i64 i := Option.some.inj t0_
    have e1_ : f 1 = .int .i64 t := Option.some.inj t1_
    have e2_ : f 2 = .slice A0 n c0 := Option.some.inj t2_
    have e3_ : f 3 = .int .i64 a := Option.some.inj t3_
    have e4_ : f 4 = .int .i64 b := Option.some.inj t4_
    have e5_ : f 5 = .int .i64 m := Option.some.inj t5_
    have e13_ : f 13 = .pointer (some ⟨gl, 0, none⟩) := Option.some.inj t13_
    have e14_ : f 14 = .pointer (some ⟨gr, 0, none⟩) := Option.some.inj t14_
    have e15_ : f 15 = .pointer (some ⟨gb, 0, none⟩) := Option.some.inj t15_
    have e16_ : f 16 = .int .i64 j := Option.some.inj t16_
    have e17_ : f 17 = .pointer (some ⟨go, 0, none⟩) := Option.some.inj t17_
    have e18_ : f 18 = .slice B x.n k0 := Option.some.inj t18_
    have e19_ : f 19 = .int .i64 z := Option.some.inj t19_
    clear hd hs t0_ t1_ t2_ t3_ t4_ t5_ t13_ t14_ t15_ t16_ t17_ t18_ t19_
    rw [e0_, e1_, e2_, e3_, e4_, e5_, e13_, e14_, e15_, e16_, e17_, e18_, e19_]
    clear e0_ e1_ e2_ e3_ e4_ e5_ e13_ e14_ e15_ e16_ e17_ e18_ e19_
    have hbw := HBX.out.size
    have hws := HS.out.B.size
    have HLN := Lib.hid (lentEn_any B x.n k0 news2 w2 (Rd.of_own HO.out) HNW.out.1 (by omega) (fun q hq => ((HNW.out.2 q hq).1.below (HS.out.B.trans (HBX.out.mono hws)))))
    go_upto_region 28 with (first
      | (go_at_call 11
         with_reducible refine HLN.out.mono ?_
         rintro e w3 ⟨⟨g3, n3, c3, ys, hn3, hc3, rfl, hp3, hm3, ho3⟩, b3⟩
         obtain rfl : x.n = n3 := by have h := congrArg List.length hp3; have := HNW.out.1; simp only [List.length_map] at h; omega))
    have HROW : HRow w w3 v go #[.int .i64 x.kind, .int .i64 a', .int .i64 b', .slice x.A x.n x.c, .bool x.own] B x.n k0 news2 g3 c3 ys := by
      refine ⟨HKO.out.below b3, by omega, own_frm (own_base HO.out hws) (S := no) (Frm.of_below b3) (fun _ _ h => h), fun q hq => (HNW.out.2 q hq).1, own_base ho3 (by omega), fun q hq => (hm3 q hq).low (by omega), fun r hr e => ?_, fun e => ?_⟩
      · have h1 := (HO.out.lt r hr).1
        have h2 := (HS.out.L.L.own.lt r e).2
        omega
      · have h1 := (ho3.lt g3 rfl).1
        have h2 := (HS.out.L.L.own.lt g3 e).2
        omega
    have HH := (HS.out.below HBX.out).below b3
    go_wp2
    exact HCONT.out news2 ys g3 c3 _ _ ⟨rfl, rfl, rfl, rfl, rfl, rfl, rfl, rfl, rfl, rfl, rfl, rfl, rfl, rfl, rfl, rfl, rfl⟩ HH HROW HNW.out.1 (fun q hq => (HNW.out.2 q hq).2) hn3 hp3 hc3
end Go.Proofs.Ytdhohaeopfgbmaa
