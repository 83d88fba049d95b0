/-
  The walk of HistPlays: every log, and every call, in every order. Conditions: acts that memory holds.
-/
import Derived.Test.YtdhohaeopfgbmaaHpK1
import Derived.Test.YtdhohaeopfgbmaaHpK3
import Derived.Test.YtdhohaeopfgbmaaHpK4
import Derived.Test.YtdhohaeopfgbmaaHpK5
import Derived.Test.YtdhohaeopfgbmaaHpK6
import Derived.Test.YtdhohaeopfgbmaaHpK7
namespace Go.Proofs.Ytdhohaeopfgbmaa
open Go Go.RowKit
attribute [local go_sem] cell_set_if

theorem HPs.start {w wb : World} {gl gr : Nat} {idx trm : Int} (hL : LogM wb w.heap.size gl idx trm [] (.slice none 0 0)) (hR : RefM wb w.heap.size gr idx trm [] none 0) (hB : Below w.heap.size w wb) :
    HPs w (wb.alloc (.cells (bookEn (.slice none 0 0) (.slice none 0 0)) 40)) gl gr wb.heap.size idx trm [] (.slice none 0 0) idx trm [] none 0 0 0 := by
  have ba : Below wb.heap.size wb (wb.alloc (.cells (bookEn (.slice none 0 0) (.slice none 0 0)) 40)) := (Below.refl _ _).alloc (Nat.le_refl _) _
  refine ⟨hL.below ba, hR.below ba, fun x hx => absurd hx (by simp), fun h => absurd rfl h, ⟨fun _ => [], fun _ => [], _, _, [], [], BookEn.start w.heap.size wb hB.size _ _, fun i hi => by omega, fun i => by simp, fun i x k hx => ?_⟩, Nat.zero_le _, hB.trans (ba.mono hB.size)⟩
  simp at hx
theorem HPs.end_ {w wr : World} {gl gr gb : Nat} {idx trm : Int} {es : List En} {v : Value} {idx' trm' : Int} {rs : List En} {A : Option Addr} {c N s : Nat} (h : HPs w wr gl gr gb idx trm es v idx' trm' rs A c N s) (hN : N ≤ 250) :
    Calls Try.prog 35 #[.pointer (some ⟨gb, 0, none⟩)] wr fun e w' => e = .returned (.bool true) ∧ Below w.heap.size w w' := by
  obtain ⟨f, fw, v1, v2, V, Y, h1, h2, h3, h4⟩ := h.bk
  refine (apartEn_any w.heap.size gb N (fun i => (f i).length) f fw v1 v2 V Y wr h1 (fun i hi => ⟨(h2 i hi).1, fun x hx => ((h2 i hi).2.1 x hx).has, fun y hy => ((h2 i hi).2.2 y hy).has⟩) hN (fun _ => rfl) h3 h.B.size).mono fun e w' ⟨h5, F⟩ => ⟨h5, h.B.trans (F.below h.B.size (fun i hi => ?_))⟩
  obtain ⟨j, x, hx, hq⟩ := hi
  exact (h1.rV.lt j x i hx hq).1
theorem LogM.low {w : World} {base base' g : Nat} {idx trm : Int} {es : List En} {v : Value} (h : LogM w base g idx trm es v) (hb : base' ≤ base) : LogM w base' g idx trm es v := ⟨LogT.base h.L hb, fun x hx => (h.mi x hx).low hb⟩
theorem RefM.base {w : World} {base base' g : Nat} {idx trm : Int} {es : List En} {A : Option Addr} {c : Nat} (h : RefM w base g idx trm es A c) (hb : base' ≤ base) : RefM w base' g idx trm es A c := ⟨h.blk, Nat.le_trans hb h.low, h.rd, h.nc, h.cm, fun a ha => ⟨Nat.le_trans hb (h.hi a ha).1, (h.hi a ha).2⟩, h.i0, h.i1, h.n1, h.ix⟩
theorem hp_has {w : World} {x : OpH} (h : x.fits w) (hl : lightE 12 x.es = true) : ∀ q ∈ x.es, q.has w := fun q hq => by
  have h1 := (h.2.2.2.2 q hq).good
  have h2 := (light_few hl).2 q hq
  exact ⟨h1.1, h1.2.1, by have := h1.2.1; omega⟩
set_option maxRecDepth 1000000 in
set_option maxHeartbeats 16000000 in
theorem hp_in (i t : Int) (A0 : Option Addr) (n c0 : Nat) (os : List OpH) (a b m : Int) (w : World) (HR : Hid (Rd w A0 (flatH os))) (HN : Hid (os.length = n)) (HG : Hid (∀ o ∈ os, o.fits w)) (HLE : Hid (∀ o ∈ os, lightE 12 o.es = true)) (hn60 : (n : Int) ≤ 60) (gl gr gb : Nat)
    (wr : World) (j N : Nat) (idx trm : Int) (es : List En) (v : Value) (rs : List En) (A : Option Addr) (c s : Nat) (HS : Hid (HPs w wr gl gr gb idx trm es v idx trm rs A c N s)) (HPL : Hid (es.map plE = rs.map plE)) (hmx : idx + es.length ≤ 1099511627776 + j * 12) (hle : es.length ≤ j * 12) (hN : N ≤ 2 * j) (hlt : j < n) (Q : Exit → Act → World → Prop)
    (hQ : ∀ (N : Nat) (idx trm : Int) (es : List En) (v : Value) (rs : List En) (A : Option Addr) (c s : Nat) (y : Act) (w' : World), N ≤ 2 * (j + 1) → (y.defers = [] ∧ y.tmps.size = 375 ∧ y.tmps[0]? = some (.int .i64 i) ∧ y.tmps[1]? = some (.int .i64 t) ∧ y.tmps[2]? = some (.slice A0 n c0) ∧ y.tmps[3]? = some (.int .i64 a) ∧ y.tmps[4]? = some (.int .i64 b) ∧ y.tmps[5]? = some (.int .i64 m) ∧ y.tmps[13]? = some (.pointer (some ⟨gl, 0, none⟩)) ∧ y.tmps[14]? = some (.pointer (some ⟨gr, 0, none⟩)) ∧ y.tmps[15]? = some (.pointer (some ⟨gb, 0, none⟩)) ∧ y.tmps[16]? = some (.int .i64 j)) → HPs w w' gl gr gb idx trm es v idx trm rs A c N s → es.map plE = rs.map plE → idx + es.length ≤ 1099511627776 + (j + 1 : Nat) * 12 → es.length ≤ (j + 1) * 12 → Q .normal y w')
    (y : Act) (hx : y.defers = [] ∧ y.tmps.size = 375 ∧ y.tmps[0]? = some (.int .i64 i) ∧ y.tmps[1]? = some (.int .i64 t) ∧ y.tmps[2]? = some (.slice A0 n c0) ∧ y.tmps[3]? = some (.int .i64 a) ∧ y.tmps[4]? = some (.int .i64 b) ∧ y.tmps[5]? = some (.int .i64 m) ∧ y.tmps[13]? = some (.pointer (some ⟨gl, 0, none⟩)) ∧ y.tmps[14]? = some (.pointer (some ⟨gr, 0, none⟩)) ∧ y.tmps[15]? = some (.pointer (some ⟨gb, 0, none⟩)) ∧ y.tmps[16]? = some (.int .i64 j)) : hpIn.wp Try.prog Q y wr := by
  rw [hpIn_eq]
  obtain ⟨x, hxj⟩ : ∃ x, os[j]? = some x := ⟨os[j]'(by have := HN.out; omega), List.getElem?_eq_getElem _⟩
  have hl12 := (light_few (HLE.out x (List.mem_of_getElem? hxj))).1
  have hln := (HG.out x (List.mem_of_getElem? hxj)).2.2.1
  have hn12 : (x.n : Int) ≤ 12 := by omega
  refine hp_ph1 i t A0 n c0 os a b m w HR HN HG HLE hn60 gl gr gb wr j N idx trm es v rs A c s HS hmx HPL hlt x hxj _ Q ?_ y hx
  intro go k0 B z a' b' y1 w1 hx1 hko hgo hro hb1 hz ha'
  refine hp_ph2 i t A0 n c0 a b m w gl gr gb wr j N idx trm es v rs A c s HS x hn12 go k0 B z a' b' hgo hz _ Q ?_ y1 w1 x.es hx1 ⟨⟨hln, fun q hq => ⟨(hp_has (HG.out x (List.mem_of_getElem? hxj)) (HLE.out x (List.mem_of_getElem? hxj)) q hq), ((HG.out x (List.mem_of_getElem? hxj)).2.2.2.2 q hq).1⟩⟩, hro, hko, hb1⟩
  intro news ys g3 c3 y2 w2 hx2 HS2 HR2 hnl hix hyl hyp hc3
  have hcont : ∀ (idx2 trm2 : Int) (es2 : List En) (v2 : Value) (rs2 : List En) (A2 : Option Addr) (c2 N2 s2 : Nat) (y : Act) (w' : World), (y.defers = [] ∧ y.tmps.size = 375 ∧ y.tmps[0]? = some (.int .i64 i) ∧ y.tmps[1]? = some (.int .i64 t) ∧ y.tmps[2]? = some (.slice A0 n c0) ∧ y.tmps[3]? = some (.int .i64 a) ∧ y.tmps[4]? = some (.int .i64 b) ∧ y.tmps[5]? = some (.int .i64 m) ∧ y.tmps[13]? = some (.pointer (some ⟨gl, 0, none⟩)) ∧ y.tmps[14]? = some (.pointer (some ⟨gr, 0, none⟩)) ∧ y.tmps[15]? = some (.pointer (some ⟨gb, 0, none⟩)) ∧ y.tmps[16]? = some (.int .i64 j) ∧ y.tmps[17]? = some (.pointer (some ⟨go, 0, none⟩)) ∧ y.tmps[18]? = some (.slice B x.n k0) ∧ y.tmps[21]? = some (.slice (some ⟨g3, 0, none⟩) x.n c3) ∧ y.tmps[22]? = some (.bool true)) → HPs w w' gl gr gb idx2 trm2 es2 v2 idx2 trm2 rs2 A2 c2 N2 s2 → es2.map plE = rs2.map plE → idx2 + es2.length ≤ 1099511627776 + (j + 1 : Nat) * 12 → es2.length ≤ (j + 1) * 12 → N2 ≤ N + 1 → HRow w w' v2 go #[.int .i64 x.kind, .int .i64 a', .int .i64 b', .slice x.A x.n x.c, .bool x.own] B x.n k0 news g3 c3 ys → hpT8.wp Try.prog Q y w' := by
    intro idx2 trm2 es2 v2 rs2 A2 c2 N2 s2 y3 w3 hx3 H3 hp3 hm3 hl3 hn3 HR3
    exact hp_ph4 i t A0 n c0 a b m w gl gr gb w3 j N2 idx2 trm2 es2 v2 rs2 A2 c2 s2 H3 hp3 (by omega) (by omega) (by omega) (by omega) x hn12 go k0 B z a' b' news ys g3 c3 HR3 hnl hix hyl hyp hc3 ha' Q (fun s4 y4 w4 hx4 H4 => hQ (N2 + 1) idx2 trm2 es2 v2 rs2 A2 c2 s4 y4 w4 (by omega) hx4 H4 hp3 hm3 hl3) y3 hx3
  by_cases h1 : x.kind = 1
  · exact hp_ph3_1 i t A0 n c0 a b m w gl gr gb w2 j N idx trm es v rs A c s HS2 HPL hmx hle (by omega) (by omega) x hn12 go k0 B z a' b' news ys g3 c3 HR2 hnl hix hyl hyp hc3 ha' _ Q hcont y2 hx2 h1
  by_cases h2 : x.kind = 2
  · exact hp_ph3_2 i t A0 n c0 a b m w gl gr gb w2 j N idx trm es v rs A c s HS2 HPL hmx hle (by omega) (by omega) x hn12 go k0 B z a' b' news ys g3 c3 HR2 hnl hix hyl hyp hc3 ha' _ Q hcont y2 hx2 h2
  by_cases h3 : x.kind = 3
  · exact hp_ph3_3 i t A0 n c0 a b m w gl gr gb w2 j N idx trm es v rs A c s HS2 HPL hmx hle (by omega) (by omega) x hn12 go k0 B z a' b' news ys g3 c3 HR2 hnl hix hyl hyp hc3 ha' _ Q hcont y2 hx2 h3
  have e1 : (x.kind == 1) = false := by rw [beq_eq_false_iff_ne]; exact h1
  have e2 : (x.kind == 2) = false := by rw [beq_eq_false_iff_ne]; exact h2
  have e3 : (x.kind == 3) = false := by rw [beq_eq_false_iff_ne]; exact h3
  cases hJ : joinB idx trm (ents es) a' b' ys
  · exact hp_ph3_4f i t A0 n c0 a b m w gl gr gb w2 j N idx trm es v rs A c s HS2 HPL hmx hle (by omega) (by omega) x hn12 go k0 B z a' b' news ys g3 c3 HR2 hnl hix hyl hyp hc3 ha' _ Q hcont y2 hx2 e1 e2 e3 hJ
  · exact hp_ph3_4t i t A0 n c0 a b m w gl gr gb w2 j N idx trm es v rs A c s HS2 HPL hmx hle (by omega) (by omega) x hn12 go k0 B z a' b' news ys g3 c3 HR2 hnl hix hyl hyp hc3 ha' _ Q hcont y2 hx2 e1 e2 e3 hJ
def HpWI (i t : Int) (A0 : Option Addr) (n c0 : Nat) (a b m : Int) (w : World) (gl gr gb : Nat) (y : Act) (W : World) : Prop := ∃ (j N : Nat) (idx trm : Int) (es : List En) (v : Value) (rs : List En) (A : Option Addr) (c s : Nat), j ≤ n ∧ N ≤ 2 * j ∧ (y.defers = [] ∧ y.tmps.size = 375 ∧ y.tmps[0]? = some (.int .i64 i) ∧ y.tmps[1]? = some (.int .i64 t) ∧ y.tmps[2]? = some (.slice A0 n c0) ∧ y.tmps[3]? = some (.int .i64 a) ∧ y.tmps[4]? = some (.int .i64 b) ∧ y.tmps[5]? = some (.int .i64 m) ∧ y.tmps[13]? = some (.pointer (some ⟨gl, 0, none⟩)) ∧ y.tmps[14]? = some (.pointer (some ⟨gr, 0, none⟩)) ∧ y.tmps[15]? = some (.pointer (some ⟨gb, 0, none⟩)) ∧ y.tmps[16]? = some (.int .i64 j)) ∧ HPs w W gl gr gb idx trm es v idx trm rs A c N s ∧ es.map plE = rs.map plE ∧ idx + es.length ≤ 1099511627776 + j * 12 ∧ es.length ≤ j * 12
set_option maxRecDepth 1000000 in
set_option maxHeartbeats 16000000 in
theorem hp_round (i t : Int) (A0 : Option Addr) (n c0 : Nat) (os : List OpH) (a b m : Int) (w : World) (HR : Hid (Rd w A0 (flatH os))) (HN : Hid (os.length = n)) (HG : Hid (∀ o ∈ os, o.fits w)) (HLE : Hid (∀ o ∈ os, lightE 12 o.es = true)) (hn60 : (n : Int) ≤ 60) (gl gr gb : Nat) (Q0 : Exit → Act → World → Prop)
    (hexit : ∀ (y : Act) (w' : World) (N : Nat) (idx trm : Int) (es : List En) (v : Value) (rs : List En) (A : Option Addr) (c s : Nat), N ≤ 2 * n → (y.defers = [] ∧ y.tmps.size = 375 ∧ y.tmps[0]? = some (.int .i64 i) ∧ y.tmps[1]? = some (.int .i64 t) ∧ y.tmps[2]? = some (.slice A0 n c0) ∧ y.tmps[3]? = some (.int .i64 a) ∧ y.tmps[4]? = some (.int .i64 b) ∧ y.tmps[5]? = some (.int .i64 m) ∧ y.tmps[13]? = some (.pointer (some ⟨gl, 0, none⟩)) ∧ y.tmps[14]? = some (.pointer (some ⟨gr, 0, none⟩)) ∧ y.tmps[15]? = some (.pointer (some ⟨gb, 0, none⟩)) ∧ y.tmps[16]? = some (.int .i64 n)) → HPs w w' gl gr gb idx trm es v idx trm rs A c N s → Q0 (.exit 0) y w') (y : Act) (W : World) (hI : HpWI i t A0 n c0 a b m w gl gr gb y W) :
    Code.wp Try.prog hpBody (Exit.then (fun y' w' => HpWI i t A0 n c0 a b m w gl gr gb y' w' ∧ n - (intOf (y'.tmps.getD 16 undef)).toNat < n - (intOf (y.tmps.getD 16 undef)).toNat) Q0) y W := by
  obtain ⟨j, N, idx, trm, es, v, rs, A, c, s, hj, hN, hx, HS, HPL, hmx, hle⟩ := hI
  have hgj : y.tmps.getD 16 undef = .int .i64 (j : Int) := by
    obtain ⟨qd, qs, q0_, q1_, q2_, q3_, q4_, q5_, q13_, q14_, q15_, q16_⟩ := hx
    exact slot_at q16_
  rw [hgj]
  obtain ⟨hd, hs, t0_, t1_, t2_, t3_, t4_, t5_, t13_, t14_, t15_, t16_⟩ := hx
  obtain ⟨f, rfl⟩ := hp_open _ hd hs
  have e0_ : f 0 = .int .i64 i := Option.some.inj t0_
  have e1_ : f 1 = .int .i64 t := Option.some.inj t1_
  have e2_ : f 2 = .slice A0 n c0 := Option.some.inj t2_
  have e3_ : f 3 = .int .i64 a := Option.some.inj t3_
  have e4_ : f 4 = .int .i64 b := Option.some.inj t4_
  have e5_ : f 5 = .int .i64 m := Option.some.inj t5_
  have e13_ : f 13 = .pointer (some ⟨gl, 0, none⟩) := Option.some.inj t13_
  have e14_ : f 14 = .pointer (some ⟨gr, 0, none⟩) := Option.some.inj t14_
  have e15_ : f 15 = .pointer (some ⟨gb, 0, none⟩) := Option.some.inj t15_
  have e16_ : f 16 = .int .i64 j := Option.some.inj t16_
  clear hd hs t0_ t1_ t2_ t3_ t4_ t5_ t13_ t14_ t15_ t16_
  rw [e0_, e1_, e2_, e3_, e4_, e5_, e13_, e14_, e15_, e16_]
  clear e0_ e1_ e2_ e3_ e4_ e5_ e13_ e14_ e15_ e16_
  conv => arg 2; whnf
  have c2' := HS.L.L.blk.cell 0
  obtain ⟨Pn, hPn⟩ : ∃ Pn : Act → World → Prop, Pn = fun y' w' => HpWI i t A0 n c0 a b m w gl gr gb y' w' ∧ n - (intOf (y'.tmps.getD 16 undef)).toNat < n - (intOf (Value.int .i64 (j : Int))).toNat := ⟨_, rfl⟩
  rw [← hPn]
  have HPN := Lib.hid hPn
  have HSH := Lib.hid HS
  have HPH := Lib.hid HPL
  have HXX := Lib.hid hexit
  clear hPn HS HPL hexit c2' hgj
  by_cases hlt : j < n
  · have hji : (j : Int) < (n : Int) := by omega
    have hjd : decide ((j : Int) < (n : Int)) = true := decide_eq_true hji
    go_upto_block 1 with fail
    refine wp_block ?_
    refine hp_in i t A0 n c0 os a b m w HR HN HG HLE hn60 gl gr gb W j N idx trm es v rs A c s HSH.out HPH.out hmx hle hN hlt _ ?_ _ ⟨rfl, rfl, rfl, rfl, rfl, rfl, rfl, rfl, rfl, rfl, rfl, rfl⟩
    intro N2 idx2 trm2 es2 v2 rs2 A2 c2 s2 y2 w2 hN2 hx2 H2 hp2 hm2 hl2
    have HH2 := Lib.hid H2
    clear H2
    simp only [Exit.inBlock, Exit.then]
    obtain ⟨hd, hs, t0_, t1_, t2_, t3_, t4_, t5_, t13_, t14_, t15_, t16_⟩ := hx2
    obtain ⟨f, rfl⟩ := hp_open _ hd hs
    have e0_ : f 0 = .int .i64 i := Option.some.inj t0_
    have e1_ : f 1 = .int .i64 t := Option.some.inj t1_
    have e2_ : f 2 = .slice A0 n c0 := Option.some.inj t2_
    have e3_ : f 3 = .int .i64 a := Option.some.inj t3_
    have e4_ : f 4 = .int .i64 b := Option.some.inj t4_
    have e5_ : f 5 = .int .i64 m := Option.some.inj t5_
    have e13_ : f 13 = .pointer (some ⟨gl, 0, none⟩) := Option.some.inj t13_
    have e14_ : f 14 = .pointer (some ⟨gr, 0, none⟩) := Option.some.inj t14_
    have e15_ : f 15 = .pointer (some ⟨gb, 0, none⟩) := Option.some.inj t15_
    have e16_ : f 16 = .int .i64 j := Option.some.inj t16_
    clear hd hs t0_ t1_ t2_ t3_ t4_ t5_ t13_ t14_ t15_ t16_
    rw [e0_, e1_, e2_, e3_, e4_, e5_, e13_, e14_, e15_, e16_]
    clear e0_ e1_ e2_ e3_ e4_ e5_ e13_ e14_ e15_ e16_
    go_wp2
    rw [HPN.out]
    refine ⟨⟨j + 1, N2, idx2, trm2, es2, v2, rs2, A2, c2, s2, by omega, hN2, ⟨rfl, rfl, rfl, rfl, rfl, rfl, rfl, rfl, rfl, rfl, rfl, by rw [show ((j + 1 : Nat) : Int) = (j : Int) + 1 by omega]; rfl⟩, HH2.out, hp2, hm2, hl2⟩, ?_⟩
    show n - (intOf (.int .i64 ((j : Int) + 1))).toNat < n - (intOf (.int .i64 (j : Int))).toNat
    simp only [intOf]; omega
  · obtain rfl : j = n := by omega
    have hjd : decide ((j : Int) < (j : Int)) = false := decide_eq_false (by omega)
    go_wp2
    exact HXX.out _ _ N idx trm es v rs A c s hN ⟨rfl, rfl, rfl, rfl, rfl, rfl, rfl, rfl, rfl, rfl, rfl, rfl⟩ HSH.out
theorem hp_loop (i t : Int) (A0 : Option Addr) (n c0 : Nat) (os : List OpH) (a b m : Int) (w : World) (HR : Hid (Rd w A0 (flatH os))) (HN : Hid (os.length = n)) (HG : Hid (∀ o ∈ os, o.fits w)) (HLE : Hid (∀ o ∈ os, lightE 12 o.es = true)) (hn60 : (n : Int) ≤ 60) (gl gr gb : Nat) (Q0 : Exit → Act → World → Prop)
    (hexit : ∀ (y : Act) (w' : World) (N : Nat) (idx trm : Int) (es : List En) (v : Value) (rs : List En) (A : Option Addr) (c s : Nat), N ≤ 2 * n → (y.defers = [] ∧ y.tmps.size = 375 ∧ y.tmps[0]? = some (.int .i64 i) ∧ y.tmps[1]? = some (.int .i64 t) ∧ y.tmps[2]? = some (.slice A0 n c0) ∧ y.tmps[3]? = some (.int .i64 a) ∧ y.tmps[4]? = some (.int .i64 b) ∧ y.tmps[5]? = some (.int .i64 m) ∧ y.tmps[13]? = some (.pointer (some ⟨gl, 0, none⟩)) ∧ y.tmps[14]? = some (.pointer (some ⟨gr, 0, none⟩)) ∧ y.tmps[15]? = some (.pointer (some ⟨gb, 0, none⟩)) ∧ y.tmps[16]? = some (.int .i64 n)) → HPs w w' gl gr gb idx trm es v idx trm rs A c N s → Q0 (.exit 0) y w') (y : Act) (W : World) (hI : HpWI i t A0 n c0 a b m w gl gr gb y W) :
    (Code.loop hpBody).wp Try.prog Q0 y W :=
  wp_loop (HpWI i t A0 n c0 a b m w gl gr gb) (fun y _ => n - (intOf (y.tmps.getD 16 undef)).toNat) hI fun y W hI => hp_round i t A0 n c0 os a b m w HR HN HG HLE hn60 gl gr gb Q0 hexit y W hI
set_option maxRecDepth 100000 in
set_option maxHeartbeats 16000000 in
theorem histplays_walk (i t : Int) (A0 : Option Addr) (n c0 : Nat) (os : List OpH) (a b m : Int) (w : World) (hR : Rd w A0 (flatH os)) (hN : os.length = n) (hm : n ≤ maxLen) (hG : ∀ o ∈ os, o.fits w) :
    Calls Try.prog 3 #[.int .i64 i, .int .i64 t, .slice A0 n c0, .int .i64 a, .int .i64 b, .int .i64 m] w fun e w' => e = .returned (.bool true) ∧ Below w.heap.size w w' := by
  have HLT := Lib.hid (lightH_any A0 n c0 os w hR hN hm hG)
  have HR := Lib.hid hR
  have HN := Lib.hid hN
  have HG := Lib.hid hG
  have hnn : (n : Int) ≤ 9223372036854775807 := by unfold maxLen at hm; omega
  clear hR hN hG hm
  go_enter Try.func3, Try.ntmps3
  by_cases k1 : i < -1000
  · have d1 : decide (i < -1000) = true := decide_eq_true k1
    go_wp2_with (go_at_call 5; refine (alive23_any _).mono ?_; rintro e w2 ⟨rfl, b2⟩)
    go_ret
    exact ⟨rfl, b2⟩
  have d1 : decide (i < -1000) = false := decide_eq_false k1
  by_cases k2 : 1099511627776 < i
  · have d2 : decide (1099511627776 < i) = true := decide_eq_true k2
    go_wp2_with (go_at_call 5; refine (alive23_any _).mono ?_; rintro e w2 ⟨rfl, b2⟩)
    go_ret
    exact ⟨rfl, b2⟩
  have d2 : decide (1099511627776 < i) = false := decide_eq_false k2
  by_cases k3 : 1099511627776 < t
  · have d3 : decide (1099511627776 < t) = true := decide_eq_true k3
    go_wp2_with (go_at_call 5; refine (alive23_any _).mono ?_; rintro e w2 ⟨rfl, b2⟩)
    go_ret
    exact ⟨rfl, b2⟩
  have d3 : decide (1099511627776 < t) = false := decide_eq_false k3
  obtain ⟨rl, hrl⟩ : ∃ rl, rl = lightH os := ⟨_, rfl⟩
  have HRL := Lib.hid hrl
  have hlt := HLT.out
  rw [← hrl] at hlt
  have HLT := Lib.hid hlt
  clear hlt hrl
  cases rl
  · go_wp2_with (first
      | (go_at_call 4; with_reducible refine HLT.out.mono ?_; rintro e w1 ⟨rfl, b1⟩)
      | (go_at_call 5; refine (alive23_any _).mono ?_; rintro e w2 ⟨rfl, b2⟩))
    go_ret
    exact ⟨rfl, below_of b2 b1 b1.size⟩
  obtain ⟨hn60, hLE⟩ := lightH_yes HRL.out.symm
  have hn60' : n ≤ 60 := by have := HN.out; omega
  have HLE := Lib.hid hLE
  clear hn60 hLE
  have hx0 : max i 0 ≤ 1152921504606846976 := by omega
  go_upto_region 6 with (first
      | (go_at_call 4; with_reducible refine HLT.out.mono ?_; rintro e w1 ⟨rfl, b1⟩)
      | (go_at_call 5; refine (alive23_any _).mono ?_; rintro e w2 ⟨rfl, b2⟩
         have B2 := below_of b2 b1 b1.size)
      | (go_at_call 6; refine (new_any i t _ (by omega)).mono ?_; rintro e w3 ⟨rfl, hL3, b3⟩
         have B3 := below_of b3 B2 B2.size)
      | (go_at_call 7; refine (rnew_m i t _ (by omega)).mono ?_; rintro e w4 ⟨rfl, hR4, b4⟩
         have B4 := below_of b4 B3 B3.size))
  have hL4 : LogM w4 w.heap.size w2.heap.size (max i 0) (max t 0) [] (.slice none 0 0) := LogM.low (w := w4) (base := w2.heap.size) ⟨hL3.below b4, fun x hx => absurd hx (by simp)⟩ B2.size
  have hR4' := RefM.base hR4 (base' := w.heap.size) B3.size
  have hST := HPs.start hL4 hR4' B4
  obtain ⟨gl, hgl⟩ : ∃ gl, gl = w2.heap.size := ⟨_, rfl⟩
  obtain ⟨gr, hgr⟩ : ∃ gr, gr = w3.heap.size := ⟨_, rfl⟩
  rw [← hgl, ← hgr] at hST
  rw [← hgl, ← hgr]
  obtain ⟨idx0, hidx0⟩ : ∃ idx0, idx0 = max i 0 := ⟨_, rfl⟩
  rw [← hidx0] at hST
  have hI0 : idx0 ≤ 1099511627776 := by omega
  have HST := Lib.hid hST
  clear hgl hgr hL3 hL4 hR4 hR4' b1 b2 b3 b4 B2 B3 B4 hST hidx0 hx0 HLT HRL
  go_upto_region 7 with fail
  obtain ⟨gb, hgb⟩ : ∃ gb, gb = w4.heap.size := ⟨_, rfl⟩
  have hST := HST.out
  unfold bookEn at hST
  rw [← hgb] at hST ⊢
  generalize w4.alloc (.cells #[.slice none 0 0, .slice none 0 0, .slice none 0 0, .slice none 0 0, .slice none 0 0, .slice none 0 0, .slice none 0 0, .slice none 0 0, .slice none 0 0, .slice none 0 0, .slice none 0 0, .slice none 0 0, .slice none 0 0, .slice none 0 0, .slice none 0 0, .slice none 0 0, .slice none 0 0, .slice none 0 0] 40) = W5 at hST ⊢
  have HST := Lib.hid hST
  clear hST hgb
  go_upto_block 0 with fail
  refine wp_block ?_
  refine hp_loop i t A0 n c0 os a b m w HR HN HG HLE (by omega) gl gr gb _ ?hexit _ _ ⟨0, 0, idx0, max t 0, [], _, [], none, 0, 0, by omega, by omega, ⟨rfl, rfl, rfl, rfl, rfl, rfl, rfl, rfl, rfl, rfl, rfl, rfl⟩, HST.out, rfl, by simp; omega, by simp⟩
  case hexit =>
    intro y2 w2 N2 idx2 trm2 es2 v2 rs2 A2 c2 s2 hN2 hx2 H2
    have HA := Lib.hid (H2.end_ (by omega))
    simp only [Exit.inBlock, Exit.then, if_true]
    clear H2
    obtain ⟨hd, hs, t0_, t1_, t2_, t3_, t4_, t5_, t13_, t14_, t15_, t16_⟩ := hx2
    obtain ⟨f, rfl⟩ := hp_open _ hd hs
    have e0_ : f 0 = .int .i64 i := Option.some.inj t0_
    have e1_ : f 1 = .int .i64 t := Option.some.inj t1_
    have e2_ : f 2 = .slice A0 n c0 := Option.some.inj t2_
    have e3_ : f 3 = .int .i64 a := Option.some.inj t3_
    have e4_ : f 4 = .int .i64 b := Option.some.inj t4_
    have e5_ : f 5 = .int .i64 m := Option.some.inj t5_
    have e13_ : f 13 = .pointer (some ⟨gl, 0, none⟩) := Option.some.inj t13_
    have e14_ : f 14 = .pointer (some ⟨gr, 0, none⟩) := Option.some.inj t14_
    have e15_ : f 15 = .pointer (some ⟨gb, 0, none⟩) := Option.some.inj t15_
    have e16_ : f 16 = .int .i64 n := Option.some.inj t16_
    clear hd hs t0_ t1_ t2_ t3_ t4_ t5_ t13_ t14_ t15_ t16_
    rw [e0_, e1_, e2_, e3_, e4_, e5_, e13_, e14_, e15_, e16_]
    clear e0_ e1_ e2_ e3_ e4_ e5_ e13_ e14_ e15_ e16_
    go_wp2_with (go_at_call 35; with_reducible refine HA.out.mono ?_; rintro e w11 ⟨rfl, B11⟩)
    go_ret
    exact ⟨rfl, B11⟩
end Go.Proofs.Ytdhohaeopfgbmaa
