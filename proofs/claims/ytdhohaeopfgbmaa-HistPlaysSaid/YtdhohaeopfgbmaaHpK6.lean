/-
  HistPlays: a round, third stretch: Join, where entries follow. Conditions: as the stretch before leaves it.
-/
import Derived.Test.YtdhohaeopfgbmaaHpD
namespace Go.Proofs.Ytdhohaeopfgbmaa
open Go Go.RowKit
attribute [local go_sem] cell_set_if

theorem HRow.tail_ty {w wr w' : World} {v : Value} {go : Nat} {os : Array Value} {B : Option Addr} {n k : Nat} {news : List En} {g3 c3 : Nat} {ys : List En} (h : HRow w wr v go os B n k news g3 c3 ys) {B2 : Option Addr} {xs : List Value} (hr : Rd wr B2 xs) (hat : ∀ a, B2 = some a → ∃ b, B = some b ∧ b.block = a.block) {S : Nat → Prop} {Ts : List TypeId} (F : Frm S wr w') (hS : TyS wr S Ts) (hE : 53 ∉ Ts) : Rd w' B2 xs := hr.frm F fun ad had hs => by
  obtain ⟨b, hb, e⟩ := hat ad had
  have h1 : TyAt wr ad.block 53 := e ▸ own_ty h.row (by rw [hb]; rfl)
  obtain ⟨t', ht, hq⟩ := hS ad.block h1.lt hs
  exact hE ((h1.eq hq) ▸ ht)
theorem HRow.tail_turn {w wr w' : World} {v v' : Value} {go : Nat} {os : Array Value} {B : Option Addr} {n k : Nat} {news : List En} {g3 c3 : Nat} {ys : List En} (h : HRow w wr v go os B n k news g3 c3 ys) {B2 : Option Addr} {xs : List Value} (hr : Rd wr B2 xs) (hat : ∀ a, B2 = some a → ∃ b, B = some b ∧ b.block = a.block) {base gl : Nat} {idx trm : Int} {es : List En} (hL : LogM wr base gl idx trm es v) (hT : Turn gl v wr v' w') : Rd w' B2 xs := hr.frm hT.frm fun ad had hs => by
  obtain ⟨b, hb, e⟩ := hat ad had
  have ho : (Value.slice B n k).ownBlock = some ad.block := by rw [hb]; exact congrArg some e
  rcases hs with e2 | e2
  · exact Blk.own_ne hL.L.blk h.row (by decide) (by rw [ho]; exact congrArg some e2)
  · exact h.d1 _ ho e2
theorem HRow.tail_ne {w wr : World} {v : Value} {go : Nat} {os : Array Value} {B : Option Addr} {n k : Nat} {news : List En} {g3 c3 : Nat} {ys : List En} (h : HRow w wr v go os B n k news g3 c3 ys) {B2 : Option Addr} (hat : ∀ a, B2 = some a → ∃ b, B = some b ∧ b.block = a.block) {base gl : Nat} {idx trm : Int} {es : List En} (hL : LogM wr base gl idx trm es v) : ∀ a, B2 = some a → a.block ≠ gl ∧ v.ownBlock ≠ some a.block := fun ad had => by
  obtain ⟨b, hb, e⟩ := hat ad had
  have ho : (Value.slice B n k).ownBlock = some ad.block := by rw [hb]; exact congrArg some e
  exact ⟨fun e2 => Blk.own_ne hL.L.blk h.row (by decide) (by rw [ho]; exact congrArg some e2), h.d1 _ ho⟩
theorem JK.cut_le {idx trm : Int} {es : List Ent} {l : List En} {K : Nat} {cut : Int} (h : JK idx trm es l K cut) (hi : ∀ x ∈ l, i64In x.index) : cut ≤ 9223372036854775807 := by
  rcases h.fin with ⟨_, e⟩ | ⟨x, hx, _, e⟩
  · omega
  · have h1 := (hi x (List.mem_of_getElem? hx)).2
    split at e <;> omega
set_option maxRecDepth 1000000 in
set_option maxHeartbeats 16000000 in
theorem hp_ph3_4t (i t : Int) (A0 : Option Addr) (n c0 : Nat) (a b m : Int) (w : World) (gl gr gb : Nat)
    (wr : World) (j N : Nat) (idx trm : Int) (es : List En) (v : Value) (rs : List En) (A : Option Addr) (c s : Nat) (HS : Hid (HPs w wr gl gr gb idx trm es v idx trm rs A c N s)) (HPL : Hid (es.map plE = rs.map plE)) (hmx : idx + es.length ≤ 1099511627776 + j * 12) (hle : es.length ≤ j * 12) (hj : j < 60) (hN : N < 200) (x : OpH) (hn12 : (x.n : Int) ≤ 12)
    (go k0 : Nat) (B : Option Addr) (z a' b' : Int) (news ys : List En) (g3 c3 : Nat) (HR : Hid (HRow w wr v go #[.int .i64 x.kind, .int .i64 a', .int .i64 b', .slice x.A x.n x.c, .bool x.own] B x.n k0 news g3 c3 ys)) (HNL : Hid (news.length = x.n)) (HIX : Hid (∀ q ∈ news, i64In q.index)) (HYL : Hid (ys.length = x.n)) (HYP : Hid (ys.map plE = news.map plE)) (hc3 : x.n + 1 ≤ c3) (HA' : Hid (i64In a')) (T : Code) (Q : Exit → Act → World → Prop)
    (hcont : ∀ (idx2 trm2 : Int) (es2 : List En) (v2 : Value) (rs2 : List En) (A2 : Option Addr) (c2 N2 s2 : Nat) (y : Act) (w' : World), (y.defers = [] ∧ y.tmps.size = 375 ∧ y.tmps[0]? = some (.int .i64 i) ∧ y.tmps[1]? = some (.int .i64 t) ∧ y.tmps[2]? = some (.slice A0 n c0) ∧ y.tmps[3]? = some (.int .i64 a) ∧ y.tmps[4]? = some (.int .i64 b) ∧ y.tmps[5]? = some (.int .i64 m) ∧ y.tmps[13]? = some (.pointer (some ⟨gl, 0, none⟩)) ∧ y.tmps[14]? = some (.pointer (some ⟨gr, 0, none⟩)) ∧ y.tmps[15]? = some (.pointer (some ⟨gb, 0, none⟩)) ∧ y.tmps[16]? = some (.int .i64 j) ∧ y.tmps[17]? = some (.pointer (some ⟨go, 0, none⟩)) ∧ y.tmps[18]? = some (.slice B x.n k0) ∧ y.tmps[21]? = some (.slice (some ⟨g3, 0, none⟩) x.n c3) ∧ y.tmps[22]? = some (.bool true)) → HPs w w' gl gr gb idx2 trm2 es2 v2 idx2 trm2 rs2 A2 c2 N2 s2 → es2.map plE = rs2.map plE → idx2 + es2.length ≤ 1099511627776 + (j + 1 : Nat) * 12 → es2.length ≤ (j + 1) * 12 → N2 ≤ N + 1 → HRow w w' v2 go #[.int .i64 x.kind, .int .i64 a', .int .i64 b', .slice x.A x.n x.c, .bool x.own] B x.n k0 news g3 c3 ys → T.wp Try.prog Q y w')
    (y : Act) (hx : y.defers = [] ∧ y.tmps.size = 375 ∧ y.tmps[0]? = some (.int .i64 i) ∧ y.tmps[1]? = some (.int .i64 t) ∧ y.tmps[2]? = some (.slice A0 n c0) ∧ y.tmps[3]? = some (.int .i64 a) ∧ y.tmps[4]? = some (.int .i64 b) ∧ y.tmps[5]? = some (.int .i64 m) ∧ y.tmps[13]? = some (.pointer (some ⟨gl, 0, none⟩)) ∧ y.tmps[14]? = some (.pointer (some ⟨gr, 0, none⟩)) ∧ y.tmps[15]? = some (.pointer (some ⟨gb, 0, none⟩)) ∧ y.tmps[16]? = some (.int .i64 j) ∧ y.tmps[17]? = some (.pointer (some ⟨go, 0, none⟩)) ∧ y.tmps[18]? = some (.slice B x.n k0) ∧ y.tmps[19]? = some (.int .i64 z) ∧ y.tmps[21]? = some (.slice (some ⟨g3, 0, none⟩) x.n c3) ∧ y.tmps[22]? = some (.bool true)) (h1 : (x.kind == 1) = false) (h2 : (x.kind == 2) = false) (h3 : (x.kind == 3) = false) (hJ : joinB idx trm (ents es) a' b' ys = true) : (Code.seq hpC7 T).wp Try.prog Q y wr := by
  obtain ⟨hd, hs, t0_, t1_, t2_, t3_, t4_, t5_, t13_, t14_, t15_, t16_, t17_, t18_, t19_, t21_, t22_⟩ := hx
  obtain ⟨f, rfl⟩ := hp_open _ hd hs
  have e0_ : f 0 = .int .i64 i := Option.some.inj t0_
  have e1_ : f 1 = .int .i64 t := Option.some.inj t1_
  have e2_ : f 2 = .slice A0 n c0 := Option.some.inj t2_
  have e3_ : f 3 = .int .i64 a := Option.some.inj t3_
  have e4_ : f 4 = .int .i64 b := Option.some.inj t4_
  have e5_ : f 5 = .int .i64 m := Option.some.inj t5_
  have e13_ : f 13 = .pointer (some ⟨gl, 0, none⟩) := Option.some.inj t13_
  have e14_ : f 14 = .pointer (some ⟨gr, 0, none⟩) := Option.some.inj t14_
  have e15_ : f 15 = .pointer (some ⟨gb, 0, none⟩) := Option.some.inj t15_
  have e16_ : f 16 = .int .i64 j := Option.some.inj t16_
  have e17_ : f 17 = .pointer (some ⟨go, 0, none⟩) := Option.some.inj t17_
  have e18_ : f 18 = .slice B x.n k0 := Option.some.inj t18_
  have e19_ : f 19 = .int .i64 z := Option.some.inj t19_
  have e21_ : f 21 = .slice (some ⟨g3, 0, none⟩) x.n c3 := Option.some.inj t21_
  have e22_ : f 22 = .bool true := Option.some.inj t22_
  clear hd hs t0_ t1_ t2_ t3_ t4_ t5_ t13_ t14_ t15_ t16_ t17_ t18_ t19_ t21_ t22_
  rw [e0_, e1_, e2_, e3_, e4_, e5_, e13_, e14_, e15_, e16_, e17_, e18_, e19_, e21_, e22_]
  clear e0_ e1_ e2_ e3_ e4_ e5_ e13_ e14_ e15_ e16_ e17_ e18_ e19_ e21_ e22_
  conv => arg 2; arg 1; whnf
  have HCONT := Lib.hid hcont
  clear hcont
  have c0 := HR.out.o.cell 0
  have c1 := HR.out.o.cell 1
  have c2 := HR.out.o.cell 2
  have hlen : es.length = rs.length := by have h := congrArg List.length HPL.out; simpa only [List.length_map] using h
  have hsame : SameT (ents es) (ents rs) := pl_same HPL.out
  have hRY : Rd wr (some ⟨g3, 0, none⟩) (flatEn ys) := by have h := Rd.of_own HR.out.lent; rw [flatEn_app] at h; exact h.pre
  have hYI : ∀ q ∈ ys, i64In q.index := fun q hq => by
    obtain ⟨u, hu, e⟩ := mem_pl HYP.out hq
    rw [(plE_eq e).1]; exact HIX.out u hu
  have hJJ : joinB idx trm (ents es) a' b' ys = joinB idx trm (ents rs) a' b' news := joinB_same hsame HYP.out a' b'
  have hLJ := join_gen wr w.heap.size gl idx trm es v HS.out.L a' b' (some ⟨g3, 0, none⟩) x.n c3 ys hRY HYL.out (by omega) hYI (fun q hq => (HR.out.lm q hq).has) HA'.out.1 (by omega) (by omega)
  have hRJ : ∀ w2, HPs w w2 gl gr gb idx trm es v idx trm rs A c N s → Rd w2 B (flatEn news) → _ := fun w2 H2 h9 => rjoin_m w2 w.heap.size gr idx trm rs A c H2.R a' b' B x.n k0 news h9 HNL.out (by obtain ⟨_, _, e, h⟩ := own_form HR.out.row; injection e with _ _ e; omega) HIX.out HA'.out.1 (by omega) (by omega)
  rw [← hJJ, hJ] at hRJ
  rw [hJ] at hLJ
  have hLJ2 : Calls Try.prog 18 #[.pointer (some ⟨gl, 0, none⟩), .int .i64 a', .int .i64 b', .slice (some ⟨g3, 0, none⟩) x.n c3] wr (JoinM wr idx trm es ys) := hLJ.mono fun e w' h => by
    rcases h with ⟨_, h⟩ | ⟨h, _⟩
    · exact h
    · exact absurd h (by decide)
  have hRJ2 : ∀ w2, HPs w w2 gl gr gb idx trm es v idx trm rs A c N s → Rd w2 B (flatEn news) → Calls Try.prog 19 #[.pointer (some ⟨gr, 0, none⟩), .int .i64 a', .int .i64 b', .slice B x.n k0] w2 fun e w' => ∃ (K2 : Nat) (cut2 : Int) (B2 : Option Addr) (m2 cc2 : Nat), Hid (m2 = x.n - K2) ∧ e = .returned (.tuple #[.int .i64 cut2, .slice B2 m2 cc2, .bool true]) ∧ JK idx trm (ents rs) news K2 cut2 ∧ Rd w' B2 (flatEn (news.drop K2)) ∧ m2 ≤ cc2 ∧ (∀ a, B2 = some a → ∃ b, B = some b ∧ b.block = a.block) ∧ Qt w2 w' := fun w2 H2 h9 => (hRJ w2 H2 h9).mono fun e w' h => by
    rcases h with ⟨h, _⟩ | ⟨_, ⟨K, cut, B', cc, h1⟩, h2⟩
    · exact absurd h (by decide)
    · have he := h1.he
      rw [HNL.out] at he
      have hle := h1.le
      rw [HNL.out] at hle
      exact ⟨K, cut, B', x.n - K, cc, rfl, he, h1.jk, h1.rd, hle, h1.at_, h2⟩
  have HLJ := Lib.hid hLJ2
  have HRJ := Lib.hid hRJ2
  have HSM := Lib.hid hsame
  have HYI := Lib.hid hYI
  have HLN := Lib.hid hlen
  clear hRY hYI hJJ hLJ hRJ hLJ2 hRJ2 hJ hsame hlen
  go_upto_region 31 with (first
    | (go_at_call 18
       with_reducible refine HLJ.out.mono ?_
       rintro e w4 ⟨K, cut, B1, m1, c1, zs, rfl, hjk, hzl, hzp, hzm, hzo, b4⟩
       have HR4 := Lib.hid (HR.out.below b4)
       have HH4 := Lib.hid (HS.out.below b4)
       have c14 := HR4.out.o.cell 1
       have c24 := HR4.out.o.cell 2))
  have HJK := Lib.hid hjk
  have HZL := Lib.hid hzl
  have HZP := Lib.hid hzp
  have HZM := Lib.hid hzm
  have HZO := Lib.hid hzo
  have HB4 := Lib.hid b4
  have hm1 : m1 = x.n - K := by have h := congrArg List.length hzp; have := HYL.out; simp only [List.length_map, List.length_drop] at h; omega
  have HM1 := Lib.hid hm1
  have hm12 : (m1 : Int) ≤ 12 := by omega
  clear hjk hzl hzp hzm hzo b4 hm1
  go_upto_region 32 with (first
    | (go_at_call 19
       with_reducible refine (HRJ.out _ HH4.out (Rd.of_own HR4.out.row)).mono ?_
       rintro e w5 ⟨K2, cut2, B2, m2, cc2, hm2, rfl, hjk2, hrd2, hle2, hat2, q5⟩
       obtain ⟨hKK, hcc⟩ := HJK.out.one hjk2 HSM.out HYP.out
       subst hKK
       subst hcc
       obtain rfl : m1 = m2 := by have h1 := HM1.out; have h2 := hm2.out; omega
       have HR5 := Lib.hid (HR4.out.qt q5)
       have HH5 := Lib.hid (HH4.out.qt q5)
       have HT5 := Lib.hid hrd2
       have HAT := Lib.hid hat2
       have HLE2 := Lib.hid hle2
       have HO5 := Lib.hid (own_frm HZO.out (S := no) (Frm.of_below (q5.below _)) (fun _ _ h => h))
       have HM5 : Hid (∀ q ∈ zs, q.mine w5 w.heap.size) := fun q hq => ((HZM.out q hq).below (q5.below _)).low HS.out.B.size
       have HBW : Hid (Below wr.heap.size wr w5) := HB4.out.trans (q5.below _)
       clear hjk2 hrd2 hle2 hat2 q5 hm2))
  have hdl : (news.drop K).length = m1 := by rw [List.length_drop, HNL.out]; exact HM1.out.symm
  have hzd : zs.map plE = (news.drop K).map plE := by rw [HZP.out, List.map_drop, List.map_drop, HYP.out]
  have HSE := Lib.hid (sameens_yes B1 B2 m1 c1 cc2 zs (news.drop K) w5 (Rd.of_own HO5.out) HT5.out HZL.out (by omega) hzd (fun q hq => (HM5.out q hq).has) (fun q hq => (HR5.out.old q (List.mem_of_mem_drop hq)).below HH5.out.B))
  have HDL := Lib.hid hdl
  have hzl := HZL.out
  have HEN := Lib.hid (fun (w6 : World) (q : Qt w5 w6) => hp_entries (HH5.out.qt q) (by omega) B1 m1 c1 zs hzl (by omega) (own_base (own_frm HO5.out (S := no) (Frm.of_below (q.below _)) (fun _ _ h => h)) HS.out.B.size) (fun z hz => (HM5.out z hz).below (q.below _)) (fun k hk => by
    have h1 := (HO5.out.lt k hk).1
    have h2 := HS.out.sl
    refine ⟨by omega, fun e => ?_⟩
    have h3 := (HS.out.L.L.own.lt k e).2
    omega))
  clear hdl hzd c14 c24 hzl HH4 HR4 HLJ HRJ HZO HB4 HZM
  go_upto_if 219 with (first
    | (go_at_call 20
       with_reducible refine HSE.out.mono ?_
       rintro e w6 ⟨rfl, q6⟩)
    | (go_at_call 21
       with_reducible refine (HEN.out _ q6).mono ?_
       rintro e w7 ⟨rfl, H7, S7, F7, T7⟩
       have HR7 := Lib.hid ((HR5.out.qt q6).frm F7 T7 (by decide) (by decide) (by decide))
       have HH7 := Lib.hid H7
       have HT7 := Lib.hid ((HR5.out.qt q6).tail_ty (HT5.out.below (q6.below _)) HAT.out F7 T7 (by decide))
       clear H7 T7 F7 q6))
  obtain ⟨s7, hs7⟩ : ∃ s7, s7 = w7.heap.size := ⟨_, rfl⟩
  have HH7 := HH7.out
  rw [← hs7] at HH7
  have HH7 := Lib.hid HH7
  have hcb := HJK.out.cut_le HYI.out
  obtain ⟨ck, hck⟩ : ∃ ck, ck = cutK idx es.length cut := ⟨_, rfl⟩
  have hck2 : ck = cutK idx rs.length cut := by rw [hck, HLN.out]
  obtain ⟨C9, hC9⟩ : ∃ C9 : Int, C9 = (es.length : Int) - ck := ⟨_, rfl⟩
  have hC92 : C9 = (rs.length : Int) - ck := by rw [hC9, HLN.out]
  have hLC := hp_lcut HH7.out cut (by omega)
  rw [← hck, ← hC9] at hLC
  have hRC : ∀ v2 es2 w2, HPs w w2 gl gr gb idx trm es2 v2 idx trm rs A c (N + 1) s7 → Calls Try.prog 15 #[.pointer (some ⟨gr, 0, none⟩), .int .i64 cut] w2 fun e w' => e = .returned (.int .i64 C9) ∧ ∃ c2, HPs w w' gl gr gb idx trm es2 v2 idx trm (rs.take ck) A c2 (N + 1) s7 ∧ Frm (at1 gr) w2 w' := fun v2 es2 w2 H2 => by
    have h := hp_rcut H2 cut hcb
    rw [← hck2, ← hC92] at h
    exact h
  have HLC := Lib.hid hLC
  have HRC := Lib.hid hRC
  have hz0 : (es.take ck).length ≤ es.length := by rw [List.length_take]; omega
  have HZ0 := Lib.hid hz0
  clear hLC hRC hck hck2 hC9 hC92 hz0 hs7 hcb HSE HEN HJK
  go_upto_if 221 with fail
  go_cut [22] from 221 to 228 (fun u22 wx => u22 = .bool true ∧ ∃ (es2 : List En) (v2 : Value) (rs2 : List En) (A2 : Option Addr) (c2 : Nat), Hid (HPs w wx gl gr gb idx trm es2 v2 idx trm rs2 A2 c2 (N + 1) s7) ∧ Hid (HRow w wx v2 go #[.int .i64 x.kind, .int .i64 a', .int .i64 b', .slice x.A x.n x.c, .bool x.own] B x.n k0 news g3 c3 ys) ∧ Hid (Rd wx B2 (flatEn (news.drop K))) ∧ Hid (es2.map plE = rs2.map plE) ∧ es2.length ≤ es.length)
  case first =>
    by_cases hc : 0 < cut
    · have hcd : decide (0 < cut) = true := decide_eq_true hc
      go_wp2_with (first
        | (go_at_call 14
           with_reducible refine HLC.out.mono ?_
           rintro e w8 ⟨rfl, v8, H8, T8⟩
           have HR8 := Lib.hid (HR7.out.turn HH7.out.L T8)
           have HT8 := Lib.hid (HR7.out.tail_turn HT7.out HAT.out HH7.out.L T8)
           have HH8 := Lib.hid H8
           clear H8 T8)
        | (go_at_call 15
           with_reducible refine (HRC.out _ _ _ HH8.out).mono ?_
           rintro e w9 ⟨rfl, c9, H9, F9⟩
           have HR9 := Lib.hid (HR8.out.frm F9 (TyS.one HH8.out.R.blk) (by decide) (by decide) (by decide))
           have HT9 := Lib.hid (HR8.out.tail_ty HT8.out HAT.out F9 (TyS.one HH8.out.R.blk) (by decide))
           have HH9 := Lib.hid H9
           clear H9 F9))
      go_meet
      case rel => exact ⟨rfl, es.take ck, v8, rs.take ck, A, c9, HH9.out, HR9.out, HT9.out, by unfold Hid; rw [List.map_take, List.map_take, HPL.out], HZ0.out⟩
    · have hcd : decide (0 < cut) = false := decide_eq_false hc
      go_wp2
      go_meet
      case rel => exact ⟨rfl, es, v, rs, A, c, HH7.out, HR7.out, HT7.out, HPL.out, Nat.le_refl _⟩
  case rest =>
  obtain ⟨rfl, es2, v2, rs2, A2, c2, HHc, HRc, HTc, HPc, hlc⟩ := hcut
  clear HH7 HR7 HT7 HLC HRC HZ0
  have hlen : es2.length = rs2.length := by have h := congrArg List.length HPc.out; simpa only [List.length_map] using h
  have hsame : SameT (ents es2) (ents rs2) := pl_same HPc.out
  obtain ⟨D, hD⟩ : ∃ D, D = news.drop K := ⟨_, rfl⟩
  have hDl : D.length = m1 := by rw [hD]; exact HDL.out
  have hDi : ∀ q ∈ D, i64In q.index := fun q hq => HIX.out q (List.mem_of_mem_drop (by rw [← hD]; exact hq))
  have hDo : ∀ q ∈ D, q.has w := fun q hq => HRc.out.old q (List.mem_of_mem_drop (by rw [← hD]; exact hq))
  have htc := HTc.out
  rw [← hD] at htc
  have HTc := Lib.hid htc
  obtain ⟨r, hr⟩ : ∃ r, r = riseE (idx + es2.length) (lastT trm (ents es2)) D := ⟨_, rfl⟩
  have hr2 : r = riseE (idx + rs2.length) (lastT trm (ents rs2)) D := by rw [hr, lastT_same hsame, hlen]
  obtain ⟨E9, hE9⟩ : ∃ E9 : Int, E9 = if r = true then 0 else 15 := ⟨_, rfl⟩
  have hLA := hp_lappend HHc.out B2 m1 cc2 D htc hDl hDi (HHc.out.stay_old hDo) (HRc.out.tail_ne HAT.out HHc.out.L) (by omega)
  rw [← hr, ← hE9] at hLA
  obtain ⟨R9, hR9⟩ : ∃ R9 : List En, R9 = if r = true then D else [] := ⟨_, rfl⟩
  have hRA : ∀ v3 es3 w2, HPs w w2 gl gr gb idx trm es3 v3 idx trm rs2 A2 c2 (N + 1) s7 → Rd w2 B2 (flatEn D) → Calls Try.prog 13 #[.pointer (some ⟨gr, 0, none⟩), .slice B2 m1 cc2] w2 fun e w' => e = .returned (.int .i64 E9) ∧ ∃ A3 c4, HPs w w' gl gr gb idx trm es3 v3 idx trm (rs2 ++ R9) A3 c4 (N + 1) s7 ∧ Frm (at1 gr) w2 w' := fun v3 es3 w2 H2 hr3 => by
    have h := hp_rappend H2 B2 m1 cc2 D hr3 hDl hDi hDo (by omega)
    rw [← hr2, ← hE9, ← hR9] at h
    exact h
  have HLA := Lib.hid hLA
  have HRA := Lib.hid hRA
  have HFIN : Hid (∀ zs : List En, zs.map plE = (if r = true then D.map plE else []) → (es2 ++ zs).map plE = (rs2 ++ R9).map plE ∧ zs.length ≤ 12) := fun zs hz => by
    rw [List.map_append, List.map_append, HPc.out, hz, hR9]
    have h := congrArg List.length hz
    refine ⟨?_, ?_⟩
    · cases r <;> simp
    · cases r
      · rw [if_neg (by decide), List.length_map] at h; simp only [List.length_nil] at h; omega
      · rw [if_pos rfl, List.length_map, List.length_map] at h; omega
  clear hLA hRA hr hr2 hE9 hR9 hsame hlen hD hDl hDi hDo htc
  go_wp2_with (first
    | (go_at_call 12
       with_reducible refine HLA.out.mono ?_
       rintro e w10 ⟨rfl, v10, z10, hz10, H10, T10⟩
       have HR10 := Lib.hid (HRc.out.turn HHc.out.L T10)
       have HT10 := Lib.hid (HRc.out.tail_turn HTc.out HAT.out HHc.out.L T10)
       have HH10 := Lib.hid H10
       have HZ10 := Lib.hid (HFIN.out z10 hz10)
       clear hz10 H10 T10)
    | (go_at_call 13
       with_reducible refine (HRA.out _ _ _ HH10.out HT10.out).mono ?_
       rintro e w11 ⟨rfl, A11, c11, H11, F11⟩))
  have hzl := HZ10.out.2
  refine HCONT.out idx trm (es2 ++ z10) v10 (rs2 ++ R9) A11 c11 (N + 1) s7 _ _ ⟨rfl, rfl, rfl, rfl, rfl, rfl, rfl, rfl, rfl, rfl, rfl, rfl, rfl, rfl, rfl, rfl⟩ H11 HZ10.out.1 ?_ ?_ (by omega) (HR10.out.frm F11 (TyS.one HH10.out.R.blk) (by decide) (by decide) (by decide))
  · rw [List.length_append]; omega
  · rw [List.length_append]; omega
end Go.Proofs.Ytdhohaeopfgbmaa
