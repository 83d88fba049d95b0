/-
  HistPlays: a round, second stretch: the copied list made to follow. Conditions: as the first stretch leaves it.
-/
import Derived.Test.YtdhohaeopfgbmaaHpD
namespace Go.Proofs.Ytdhohaeopfgbmaa
open Go Go.RowKit
attribute [local go_sem] cell_set_if

theorem mem_set_ok {p : En → Prop} {l : List En} {k : Nat} {y : En} (h : ∀ q ∈ l, p q) (hy : p y) : ∀ q ∈ l.set k y, p q := fun q hq => by
  rcases List.mem_or_eq_of_mem_set hq with h1 | h1
  · exact h q h1
  · exact h1 ▸ hy
set_option maxRecDepth 1000000 in
set_option maxHeartbeats 16000000 in
theorem hp_round2 (i t : Int) (A0 : Option Addr) (n c0 : Nat) (a b m : Int) (w : World) (gl gr gb : Nat)
    (wr : World) (j N : Nat) (idx trm : Int) (es : List En) (v : Value) (rs : List En) (A : Option Addr) (c s : Nat) (HS : Hid (HPs w wr gl gr gb idx trm es v idx trm rs A c N s)) (x : OpH) (hn12 : (x.n : Int) ≤ 12)
    (go k0 : Nat) (B : Option Addr) (z a' b' : Int) (_hgo : wr.heap.size ≤ go) (HZ : Hid (x.own = true → 0 ≤ z ∧ z ≤ 2199023255552)) (Q0 : Exit → Act → World → Prop) (Pn : Act → World → Prop) (k : Nat) (hnext : k < x.n → ∀ (y : Act) (w' : World) (news : List En), (y.defers = [] ∧ y.tmps.size = 375 ∧ y.tmps[0]? = some (.int .i64 i) ∧ y.tmps[1]? = some (.int .i64 t) ∧ y.tmps[2]? = some (.slice A0 n c0) ∧ y.tmps[3]? = some (.int .i64 a) ∧ y.tmps[4]? = some (.int .i64 b) ∧ y.tmps[5]? = some (.int .i64 m) ∧ y.tmps[13]? = some (.pointer (some ⟨gl, 0, none⟩)) ∧ y.tmps[14]? = some (.pointer (some ⟨gr, 0, none⟩)) ∧ y.tmps[15]? = some (.pointer (some ⟨gb, 0, none⟩)) ∧ y.tmps[16]? = some (.int .i64 j) ∧ y.tmps[17]? = some (.pointer (some ⟨go, 0, none⟩)) ∧ y.tmps[18]? = some (.slice B x.n k0) ∧ y.tmps[19]? = some (.int .i64 z) ∧ y.tmps[20]? = some (.int .i64 ((k : Int) + 1))) → (Hid (news.length = x.n ∧ ∀ q ∈ news, q.has w ∧ i64In q.index) ∧ Hid (w'.ownsRow wr.heap.size 53 5 (.slice B x.n k0) x.n (flatEn news)) ∧ Hid (Blk w' go 43 #[.int .i64 x.kind, .int .i64 a', .int .i64 b', .slice x.A x.n x.c, .bool x.own]) ∧ Hid (Below wr.heap.size wr w')) → Pn y w')
    (hexit : ∀ (y : Act) (w' : World) (news : List En), (y.defers = [] ∧ y.tmps.size = 375 ∧ y.tmps[0]? = some (.int .i64 i) ∧ y.tmps[1]? = some (.int .i64 t) ∧ y.tmps[2]? = some (.slice A0 n c0) ∧ y.tmps[3]? = some (.int .i64 a) ∧ y.tmps[4]? = some (.int .i64 b) ∧ y.tmps[5]? = some (.int .i64 m) ∧ y.tmps[13]? = some (.pointer (some ⟨gl, 0, none⟩)) ∧ y.tmps[14]? = some (.pointer (some ⟨gr, 0, none⟩)) ∧ y.tmps[15]? = some (.pointer (some ⟨gb, 0, none⟩)) ∧ y.tmps[16]? = some (.int .i64 j) ∧ y.tmps[17]? = some (.pointer (some ⟨go, 0, none⟩)) ∧ y.tmps[18]? = some (.slice B x.n k0) ∧ y.tmps[19]? = some (.int .i64 z)) → (Hid (news.length = x.n ∧ ∀ q ∈ news, q.has w ∧ i64In q.index) ∧ Hid (w'.ownsRow wr.heap.size 53 5 (.slice B x.n k0) x.n (flatEn news)) ∧ Hid (Blk w' go 43 #[.int .i64 x.kind, .int .i64 a', .int .i64 b', .slice x.A x.n x.c, .bool x.own]) ∧ Hid (Below wr.heap.size wr w')) → Q0 (.exit 2) y w')
    (y : Act) (wx : World) (news : List En) (hk : k ≤ x.n) (hx : y.defers = [] ∧ y.tmps.size = 375 ∧ y.tmps[0]? = some (.int .i64 i) ∧ y.tmps[1]? = some (.int .i64 t) ∧ y.tmps[2]? = some (.slice A0 n c0) ∧ y.tmps[3]? = some (.int .i64 a) ∧ y.tmps[4]? = some (.int .i64 b) ∧ y.tmps[5]? = some (.int .i64 m) ∧ y.tmps[13]? = some (.pointer (some ⟨gl, 0, none⟩)) ∧ y.tmps[14]? = some (.pointer (some ⟨gr, 0, none⟩)) ∧ y.tmps[15]? = some (.pointer (some ⟨gb, 0, none⟩)) ∧ y.tmps[16]? = some (.int .i64 j) ∧ y.tmps[17]? = some (.pointer (some ⟨go, 0, none⟩)) ∧ y.tmps[18]? = some (.slice B x.n k0) ∧ y.tmps[19]? = some (.int .i64 z) ∧ y.tmps[20]? = some (.int .i64 k)) (HI : Hid (news.length = x.n ∧ ∀ q ∈ news, q.has w ∧ i64In q.index) ∧ Hid (wx.ownsRow wr.heap.size 53 5 (.slice B x.n k0) x.n (flatEn news)) ∧ Hid (Blk wx go 43 #[.int .i64 x.kind, .int .i64 a', .int .i64 b', .slice x.A x.n x.c, .bool x.own]) ∧ Hid (Below wr.heap.size wr wx)) :
    Code.wp Try.prog hpL2 (Exit.then Pn Q0) y wx := by
  obtain ⟨hd, hs, t0_, t1_, t2_, t3_, t4_, t5_, t13_, t14_, t15_, t16_, t17_, t18_, t19_, t20_⟩ := hx
  obtain ⟨f, rfl⟩ := hp_open _ hd hs
  have e0_ : f 0 = .int .i64 i := Option.some.inj t0_
  have e1_ : f 1 = .int .i64 t := Option.some.inj t1_
  have e2_ : f 2 = .slice A0 n c0 := Option.some.inj t2_
  have e3_ : f 3 = .int .i64 a := Option.some.inj t3_
  have e4_ : f 4 = .int .i64 b := Option.some.inj t4_
  have e5_ : f 5 = .int .i64 m := Option.some.inj t5_
  have e13_ : f 13 = .pointer (some ⟨gl, 0, none⟩) := Option.some.inj t13_
  have e14_ : f 14 = .pointer (some ⟨gr, 0, none⟩) := Option.some.inj t14_
  have e15_ : f 15 = .pointer (some ⟨gb, 0, none⟩) := Option.some.inj t15_
  have e16_ : f 16 = .int .i64 j := Option.some.inj t16_
  have e17_ : f 17 = .pointer (some ⟨go, 0, none⟩) := Option.some.inj t17_
  have e18_ : f 18 = .slice B x.n k0 := Option.some.inj t18_
  have e19_ : f 19 = .int .i64 z := Option.some.inj t19_
  have e20_ : f 20 = .int .i64 k := Option.some.inj t20_
  clear hd hs t0_ t1_ t2_ t3_ t4_ t5_ t13_ t14_ t15_ t16_ t17_ t18_ t19_ t20_
  rw [e0_, e1_, e2_, e3_, e4_, e5_, e13_, e14_, e15_, e16_, e17_, e18_, e19_, e20_]
  clear e0_ e1_ e2_ e3_ e4_ e5_ e13_ e14_ e15_ e16_ e17_ e18_ e19_ e20_
  conv => arg 2; whnf
  obtain ⟨HNW, HO, HKO, HBX⟩ := HI
  have hni : (x.n : Int) ≤ 12 := hn12
  have e3 := HKO.out.cell 0
  have e4 := HKO.out.cell 4
  have e2 := HKO.out.cell 2
  by_cases hlt : k < x.n
  · have hki : (k : Int) < (x.n : Int) := by omega
    have hdk : decide ((k : Int) < (x.n : Int)) = true := decide_eq_true hki
    cases hown : x.own
    · rw [hown] at e4
      have HX := Lib.hid (fun y w' => hexit y w' news)
      clear hexit
      go_wp2
      refine HX.out _ _ ⟨rfl, rfl, rfl, rfl, rfl, rfl, rfl, rfl, rfl, rfl, rfl, rfl, rfl, rfl, rfl⟩ ⟨HNW, HO, HKO, HBX⟩
    · rw [hown] at e4
      obtain ⟨hz0, hz1⟩ := HZ.out hown
      have HNX := Lib.hid (hnext hlt)
      clear hnext hexit hown
      obtain ⟨g, c2, hv, _⟩ := HO.out.form (by omega)
      have hA : B = some ⟨g, 0, none⟩ := by injection hv
      subst hA
      have hgl := (HO.out.lt g rfl).2
      have hglo := (HO.out.lt g rfl).1
      have hgne : g ≠ go := fun e => HKO.out.own_ne HO.out (by decide) (by rw [← e]; rfl)
      obtain ⟨nk, hnk⟩ : ∃ nk, news[k]? = some nk := ⟨_, List.getElem?_eq_getElem (by have := HNW.out.1; omega)⟩
      have hklen : k < news.length := by have := HNW.out.1; omega
      have hnke : news[k] = nk := by rw [List.getElem?_eq_getElem hklen] at hnk; exact Option.some.inj hnk
      obtain ⟨news1, hnews1⟩ : ∃ news1, news1 = news.set k { nk with index := z + 1 + k } := ⟨_, rfl⟩
      have hset : (flatEn news).set (k * 5) (.int .i64 (z + 1 + k)) = flatEn news1 := by rw [flatEn_set0 _ k hklen, hnke, hnews1]
      have hlen1 : news1.length = x.n := by rw [hnews1, List.length_set]; exact HNW.out.1
      have hat1 : news1[k]? = some { nk with index := z + 1 + k } := by rw [hnews1, List.getElem?_set_self hklen]
      have hin := HNW.out.2 nk (List.mem_of_getElem? hnk)
      have hok1 : ∀ q ∈ news1, q.has w ∧ i64In q.index := by
        rw [hnews1]
        exact mem_set_ok HNW.out.2 ⟨hin.1, ⟨by show (-9223372036854775808 : Int) ≤ z + 1 + k; omega, by show z + 1 + (k : Int) ≤ 9223372036854775807; omega⟩⟩
      have h0c : wx.cell? ⟨g, k * 5, none⟩ = some (.int .i64 nk.index) := by
        obtain ⟨b1, o1, x', hA', _, hx', d0, _⟩ := (Rd.of_own HO.out).en (k := k) hklen
        injection hA' with hA'
        injection hA' with e1 e2
        subst e1 e2
        rw [Nat.zero_add] at d0
        rw [d0, Option.some.inj (hx'.symm.trans hnk)]
      have h0f := own_free HO.out (k * 5)
      have hwi : IntKind.i64.wrap (z + 1 + k) = z + 1 + k := IntWalk.i64_in _ (by omega)
      have hwz : IntKind.i64.wrap (z + 1) = z + 1 := IntWalk.i64_in _ (by omega)
      go_upto_block 3 with fail
      go_cut [20] from 121 to 173 (fun u20 W => u20 = .int .i64 k ∧ ∃ news2 : List En, Hid (news2.length = x.n ∧ ∀ q ∈ news2, q.has w ∧ i64In q.index) ∧ Hid (W.ownsRow wr.heap.size 53 5 (.slice (some ⟨g, 0, none⟩) x.n k0) x.n (flatEn news2)) ∧ Hid (Blk W go 43 #[.int .i64 x.kind, .int .i64 a', .int .i64 b', .slice x.A x.n x.c, .bool x.own]) ∧ Hid (Below wr.heap.size wr W))
      case first =>
        go_upto_region 22 with fail
        have HO1 : Hid ((wx.setCell ⟨g, k * 5, none⟩ (.int .i64 (z + 1 + k))).ownsRow wr.heap.size 53 5 (.slice (some ⟨g, 0, none⟩) x.n k0) x.n (flatEn news1)) := by
          have h := own_put HO.out (p := k * 5) (x := .int .i64 (z + 1 + k)) (by omega)
          rw [hset] at h; exact h
        have F1 : Frm (at1 g) wx (wx.setCell ⟨g, k * 5, none⟩ (.int .i64 (z + 1 + k))) := (Frm.refl (at1 g) wx).setCell (p := ⟨g, k * 5, none⟩) (fun _ => rfl) _
        have HK1 := Lib.hid (HKO.out.frm F1 (fun e => hgne e.symm))
        have HB1 : Hid (Below wr.heap.size wr (wx.setCell ⟨g, k * 5, none⟩ (.int .i64 (z + 1 + k)))) := HBX.out.setCell (p := ⟨g, k * 5, none⟩) hglo _
        generalize wx.setCell ⟨g, k * 5, none⟩ (.int .i64 (z + 1 + k)) = w6 at HO1 HK1 HB1 ⊢
        have s1 : w6.cell? ⟨g, k * 5 + 1, none⟩ = some (.int .i64 nk.term) := by
          obtain ⟨b1, o1, x', hA', _, hx', _, d1, _⟩ := (Rd.of_own HO1.out).en (k := k) (by omega)
          injection hA' with hA'
          injection hA' with e1 e2
          subst e1 e2
          rw [Nat.zero_add] at d1
          rw [d1, Option.some.inj (hx'.symm.trans hat1)]
        have t1 := own_free HO1.out (k * 5 + 1)
        obtain ⟨tk, htk⟩ : ∃ tk, tk = nk.term := ⟨_, rfl⟩
        rw [← htk] at s1
        have HAT1 := Lib.hid hat1
        have HOK1 := Lib.hid hok1
        have HL1 := Lib.hid hlen1
        have o0 := HK1.out.cell 0
        have o2 := HK1.out.cell 2
        clear htk hnews1 hset hok1 hin hnk hnke hat1 h0c h0f F1 e3 e4 e2 hwi hwz HO HKO HBX HNW hgl hlen1 hklen
        have hgl6 := (HO1.out.lt g rfl).2
        have HMK : Hid (∀ (W : World) (tt : Int), Qt w6 W → (∃ news2 : List En, Hid (news2.length = x.n ∧ ∀ q ∈ news2, q.has w ∧ i64In q.index) ∧ Hid ((W.setCell ⟨g, k * 5 + 1, none⟩ (.int .i64 tt)).ownsRow wr.heap.size 53 5 (.slice (some ⟨g, 0, none⟩) x.n k0) x.n (flatEn news2)) ∧ Hid (Blk (W.setCell ⟨g, k * 5 + 1, none⟩ (.int .i64 tt)) go 43 #[.int .i64 x.kind, .int .i64 a', .int .i64 b', .slice x.A x.n x.c, .bool x.own]) ∧ Hid (Below wr.heap.size wr (W.setCell ⟨g, k * 5 + 1, none⟩ (.int .i64 tt))))) := fun W tt q => by
          have hl1 := HL1.out
          have hkl : k < news1.length := by omega
          have hke : news1[k] = { nk with index := z + 1 + k } := by have := HAT1.out; rw [List.getElem?_eq_getElem hkl] at this; exact Option.some.inj this
          have hb := q.below w6.heap.size
          have O2 := own_frm HO1.out (S := no) (Frm.of_below hb) (fun _ _ h => h)
          refine ⟨news1.set k { news1[k] with term := tt }, ⟨by rw [List.length_set]; exact hl1, mem_set_ok HOK1.out ?_⟩, ?_, ?_, ?_⟩
          · have h1 := HOK1.out _ (List.mem_of_getElem? HAT1.out)
            rw [hke]; exact h1
          · have h := own_put O2 (p := k * 5 + 1) (x := .int .i64 tt) (by omega)
            rw [flatEn_set1 _ k hkl] at h; exact h
          · exact (HK1.out.below hb).far (p := ⟨g, k * 5 + 1, none⟩) (fun e => hgne e.symm) _
          · exact (HB1.out.trans (q.below _)).setCell (p := ⟨g, k * 5 + 1, none⟩) hglo _
        have s1d : w6.drew.cell? ⟨g, k * 5 + 1, none⟩ = some (.int .i64 tk) := s1
        have t1d : w6.drew.frozen? ⟨g, k * 5 + 1, none⟩ = false := t1
        have o2d : w6.drew.cell? ⟨go, 2, none⟩ = some (.int .i64 b') := o2
        have o0d : w6.drew.cell? ⟨go, 0, none⟩ = some (.int .i64 x.kind) := o0
        have hgo' : go ≠ g := fun e => hgne e.symm
        by_cases hk0 : k = 0
        · have dk0 : decide ((0 : Int) < (k : Int)) = false := decide_eq_false (by omega)
          have dk00 : decide (0 < k) = false := decide_eq_false (by omega)
          clear hk0
          by_cases h4 : x.kind = 4
          · have d4 : (x.kind == 4) = true := by rw [h4]; rfl
            go_upto_region 25 with fail
            refine wp_region_noPanic ?_
            refine wp_region_held_drew (S := fun W => W.cell? ⟨go, 2, none⟩ = some (.int .i64 b')) (by kernel_rfl) o2d (fun _ => ?_)
            refine wpAnyH_take (i := 0) (v := ?vc27) (by simp only [List.getElem?_toArray, List.getElem?_cons_zero]; rfl) (by kernel_rfl) (by kernel_rfl) (by kernel_rfl) (fun _ _ _ h => h) (Or.inl ⟨by rfl, ?hyc27⟩) o2d ?rc27
            case hyc27 => (intro W hW; (try dsimp only at hW); go_simp; try with_reducible rfl)
            try simp only [Act.put, List.setIfInBounds_toArray, List.set_cons_zero, List.set_cons_succ]
            refine wpAnyH_take (i := 1) (v := ?vc28) (by simp only [List.getElem?_toArray, List.getElem?_cons_succ, List.getElem?_cons_zero]; rfl) (by kernel_rfl) (by kernel_rfl) (by kernel_rfl) (fun _ _ _ h => h) (Or.inl ⟨by rfl, ?hyc28⟩) o2d ?rc28
            case hyc28 => (intro W hW; (try dsimp only at hW); go_simp; try with_reducible rfl)
            try simp only [Act.put, List.setIfInBounds_toArray, List.set_cons_zero, List.set_cons_succ]
            refine wpAnyH_take (i := 2) (v := ?vc29) (by simp only [List.getElem?_toArray, List.getElem?_cons_succ, List.getElem?_cons_zero]; rfl) (by kernel_rfl) (by kernel_rfl) (by kernel_rfl) (fun _ _ _ h => h) (Or.inl ⟨by rfl, ?hyc29⟩) o2d ?rc29
            case hyc29 => (intro W hW; (try dsimp only at hW); go_simp; try with_reducible rfl)
            try simp only [Act.put, List.setIfInBounds_toArray, List.set_cons_zero, List.set_cons_succ]
            refine wpAnyH_take (i := 3) (v := ?vc30) (by simp only [List.getElem?_toArray, List.getElem?_cons_succ, List.getElem?_cons_zero]; rfl) (by kernel_rfl) (by kernel_rfl) (by kernel_rfl) (fun _ _ _ h => h) (Or.inl ⟨by rfl, ?hyc30⟩) o2d ?rc30
            case hyc30 => (intro W hW; (try dsimp only at hW); go_simp; try with_reducible rfl)
            try simp only [Act.put, List.setIfInBounds_toArray, List.set_cons_zero, List.set_cons_succ]
            refine wpAnyH_take (i := 4) (v := ?vc31) (by simp only [List.getElem?_toArray, List.getElem?_cons_succ, List.getElem?_cons_zero]; rfl) (by kernel_rfl) (by kernel_rfl) (by kernel_rfl) (fun _ _ _ h => h) (Or.inl ⟨by rfl, ?hyc31⟩) o2d ?rc31
            case hyc31 => (intro W hW; (try dsimp only at hW); go_simp; try with_reducible rfl)
            try simp only [Act.put, List.setIfInBounds_toArray, List.set_cons_zero, List.set_cons_succ]
            refine wpAnyH_take (i := 5) (v := ?vc32) (by simp only [List.getElem?_toArray, List.getElem?_cons_succ, List.getElem?_cons_zero]; rfl) (by kernel_rfl) (by kernel_rfl) (by kernel_rfl) (fun _ _ _ h => h) (Or.inl ⟨by rfl, ?hyc32⟩) o2d ?rc32
            case hyc32 => (intro W hW; (try dsimp only at hW); go_simp; try with_reducible rfl)
            try simp only [Act.put, List.setIfInBounds_toArray, List.set_cons_zero, List.set_cons_succ]
            refine wpAnyH_take (i := 7) (v := ?vc33) (by simp only [List.getElem?_toArray, List.getElem?_cons_succ, List.getElem?_cons_zero]; rfl) (by kernel_rfl) (by kernel_rfl) (by kernel_rfl) (fun _ _ _ h => h) (Or.inl ⟨by rfl, ?hyc33⟩) o2d ?rc33
            case hyc33 => (intro W hW; (try dsimp only at hW); go_simp; try with_reducible rfl)
            try simp only [Act.put, List.setIfInBounds_toArray, List.set_cons_zero, List.set_cons_succ]
            refine wpAnyH_take (i := 8) (v := ?vc34) (by simp only [List.getElem?_toArray, List.getElem?_cons_succ, List.getElem?_cons_zero]; rfl) (by kernel_rfl) (by kernel_rfl) (by kernel_rfl) (fun _ _ _ h => h) (Or.inl ⟨by rfl, ?hyc34⟩) o2d ?rc34
            case hyc34 => (intro W hW; (try dsimp only at hW); go_simp; try with_reducible rfl)
            try simp only [Act.put, List.setIfInBounds_toArray, List.set_cons_zero, List.set_cons_succ]
            refine wpAnyH_ready (rs := [6]) (by kernel_rfl) (by simp) ?_
            refine AllReadyH.cons (by simp only [List.getElem?_toArray, List.getElem?_cons_succ, List.getElem?_cons_zero]; rfl) (fun K hK => ?_) AllReadyH.nil
            go_simp
            refine hK.out _ _ ?hSc35 (fun hHeld => ?_)
            case hSc35 => exact o2d
            clear hK K hHeld
            try simp only [Act.put, List.setIfInBounds_toArray, List.set_cons_zero, List.set_cons_succ]
            refine wpAnyH_take (i := 9) (v := ?vc36) (by simp only [List.getElem?_toArray, List.getElem?_cons_succ, List.getElem?_cons_zero]; rfl) (by kernel_rfl) (by kernel_rfl) (by kernel_rfl) (fun _ _ _ h => h) (Or.inl ⟨by rfl, ?hyc36⟩) o2d ?rc36
            case hyc36 => (intro W hW; (try dsimp only at hW); go_simp; try with_reducible rfl)
            try simp only [Act.put, List.setIfInBounds_toArray, List.set_cons_zero, List.set_cons_succ]
            refine wpAnyH_take (i := 10) (v := ?vc37) (by simp only [List.getElem?_toArray, List.getElem?_cons_succ, List.getElem?_cons_zero]; rfl) (by kernel_rfl) (by kernel_rfl) (by kernel_rfl) (fun _ _ _ h => h) (Or.inl ⟨by rfl, ?hyc37⟩) o2d ?rc37
            case hyc37 => (intro W hW; (try dsimp only at hW); go_simp; try with_reducible rfl)
            try simp only [Act.put, List.setIfInBounds_toArray, List.set_cons_zero, List.set_cons_succ]
            refine wpAnyH_take (i := 11) (v := ?vc38) (by simp only [List.getElem?_toArray, List.getElem?_cons_succ, List.getElem?_cons_zero]; rfl) (by kernel_rfl) (by kernel_rfl) (by kernel_rfl) (fun _ _ _ h => h) (Or.inl ⟨by rfl, ?hyc38⟩) o2d ?rc38
            case hyc38 => (intro W hW; (try dsimp only at hW); go_simp; try with_reducible rfl)
            try simp only [Act.put, List.setIfInBounds_toArray, List.set_cons_zero, List.set_cons_succ]
            refine wpAnyH_ready (rs := [12]) (by kernel_rfl) (by simp) ?_
            refine AllReadyH.cons (by simp only [List.getElem?_toArray, List.getElem?_cons_succ, List.getElem?_cons_zero]; rfl) (fun K hK => ?_) AllReadyH.nil
            go_simp
            refine hK.out _ _ ?hSc39 (fun hHeld => ?_)
            case hSc39 => (refine cell_other o2d ?_; intro e; have h9 := congrArg Addr.block e; simp only at h9; omega)
            clear hK K hHeld
            try simp only [Act.put, List.setIfInBounds_toArray, List.set_cons_zero, List.set_cons_succ]
            refine wpAnyH_done (by kernel_rfl) ?_ _
            refine NoPanic.normal ?_
            go_wp2
            go_meet
            case rel => exact ⟨rfl, HMK.out w6.drew (max tk b') ⟨1, rfl⟩⟩
          · have d4 : (x.kind == 4) = false := by rw [beq_eq_false_iff_ne]; exact h4
            have HRD : Hid (RefM w6.drew w.heap.size gr idx trm rs A c) := (HS.out.below HB1.out).R.qt ⟨1, rfl⟩
            go_upto_region 26 with fail
            refine wp_region_noPanic ?_
            refine wp_region_held_drew (S := fun W => W.cell? ⟨go, 0, none⟩ = some (.int .i64 x.kind)) (by kernel_rfl) o0d (fun _ => ?_)
            refine wpAnyH_take (i := 0) (v := ?vd40) (by simp only [List.getElem?_toArray, List.getElem?_cons_zero]; rfl) (by kernel_rfl) (by kernel_rfl) (by kernel_rfl) (fun _ _ _ h => h) (Or.inl ⟨by rfl, ?hyd40⟩) o0d ?rd40
            case hyd40 => (intro W hW; (try dsimp only at hW); go_simp; try with_reducible rfl)
            try simp only [Act.put, List.setIfInBounds_toArray, List.set_cons_zero, List.set_cons_succ]
            refine wpAnyH_take (i := 1) (v := ?vd41) (by simp only [List.getElem?_toArray, List.getElem?_cons_succ, List.getElem?_cons_zero]; rfl) (by kernel_rfl) (by kernel_rfl) (by kernel_rfl) (fun _ _ _ h => h) (Or.inl ⟨by rfl, ?hyd41⟩) o0d ?rd41
            case hyd41 => (intro W hW; (try dsimp only at hW); go_simp; try with_reducible rfl)
            try simp only [Act.put, List.setIfInBounds_toArray, List.set_cons_zero, List.set_cons_succ]
            refine wpAnyH_take (i := 2) (v := ?vd42) (by simp only [List.getElem?_toArray, List.getElem?_cons_succ, List.getElem?_cons_zero]; rfl) (by kernel_rfl) (by kernel_rfl) (by kernel_rfl) (fun _ _ _ h => h) (Or.inl ⟨by rfl, ?hyd42⟩) o0d ?rd42
            case hyd42 => (intro W hW; (try dsimp only at hW); go_simp; try with_reducible rfl)
            try simp only [Act.put, List.setIfInBounds_toArray, List.set_cons_zero, List.set_cons_succ]
            refine wpAnyH_take (i := 3) (v := ?vd43) (by simp only [List.getElem?_toArray, List.getElem?_cons_succ, List.getElem?_cons_zero]; rfl) (by kernel_rfl) (by kernel_rfl) (by kernel_rfl) (fun _ _ _ h => h) (Or.inl ⟨by rfl, ?hyd43⟩) o0d ?rd43
            case hyd43 => (intro W hW; (try dsimp only at hW); go_simp; try with_reducible rfl)
            try simp only [Act.put, List.setIfInBounds_toArray, List.set_cons_zero, List.set_cons_succ]
            refine wpAnyH_take (i := 4) (v := ?vd44) (by simp only [List.getElem?_toArray, List.getElem?_cons_succ, List.getElem?_cons_zero]; rfl) (by kernel_rfl) (by kernel_rfl) (by kernel_rfl) (fun _ _ _ h => h) (Or.inl ⟨by rfl, ?hyd44⟩) o0d ?rd44
            case hyd44 => (intro W hW; (try dsimp only at hW); go_simp; try with_reducible rfl)
            try simp only [Act.put, List.setIfInBounds_toArray, List.set_cons_zero, List.set_cons_succ]
            refine wpAnyH_take (i := 5) (v := ?vd45) (by simp only [List.getElem?_toArray, List.getElem?_cons_succ, List.getElem?_cons_zero]; rfl) (by kernel_rfl) (by kernel_rfl) (by kernel_rfl) (fun _ _ _ h => h) (Or.inl ⟨by rfl, ?hyd45⟩) o0d ?rd45
            case hyd45 => (intro W hW; (try dsimp only at hW); go_simp; try with_reducible rfl)
            try simp only [Act.put, List.setIfInBounds_toArray, List.set_cons_zero, List.set_cons_succ]
            refine wpAnyH_take (i := 7) (v := ?vd46) (by simp only [List.getElem?_toArray, List.getElem?_cons_succ, List.getElem?_cons_zero]; rfl) (by kernel_rfl) (by kernel_rfl) (by kernel_rfl) (fun _ _ _ h => h) (Or.inl ⟨by rfl, ?hyd46⟩) o0d ?rd46
            case hyd46 => (intro W hW; (try dsimp only at hW); go_simp; try with_reducible rfl)
            try simp only [Act.put, List.setIfInBounds_toArray, List.set_cons_zero, List.set_cons_succ]
            refine wpAnyH_ready (rs := [6, 8]) (by kernel_rfl) (by simp) ?_
            refine AllReadyH.cons (by simp only [List.getElem?_toArray, List.getElem?_cons_succ, List.getElem?_cons_zero]; rfl) (fun K hK => ?_) (AllReadyH.cons (by simp only [List.getElem?_toArray, List.getElem?_cons_succ, List.getElem?_cons_zero]; rfl) (fun K hK => ?_) AllReadyH.nil)
            · go_simp
              refine hK.out _ _ ?hSd47 (fun hHeld => ?_)
              case hSd47 => exact o0d
              clear hK K hHeld
              try simp only [Act.put, List.setIfInBounds_toArray, List.set_cons_zero, List.set_cons_succ]
              refine wpAnyH_ready (rs := [8]) (by kernel_rfl) (by simp) ?_
              refine AllReadyH.cons (by simp only [List.getElem?_toArray, List.getElem?_cons_succ, List.getElem?_cons_zero]; rfl) (fun K hK => ?_) AllReadyH.nil
              go_simp
              go_at_call 10
              with_reducible refine (rlastterm_m _ _ _ _ _ _ _ _ HRD.out).mono ?_
              rintro e w7 ⟨rfl, q7⟩
              have u7 : w7.cell? ⟨go, 0, none⟩ = some (.int .i64 x.kind) := ((q7.below w6.heap.size).cell (p := ⟨go, 0, none⟩) HK1.out.lt).trans o0d
              have s7 : w7.cell? ⟨g, k * 5 + 1, none⟩ = some (.int .i64 tk) := ((q7.below w6.heap.size).cell (p := ⟨g, k * 5 + 1, none⟩) hgl6).trans s1d
              have t7 : w7.frozen? ⟨g, k * 5 + 1, none⟩ = false := ((q7.below w6.heap.size).frozen (p := ⟨g, k * 5 + 1, none⟩) hgl6).trans t1d
              refine hK.out _ _ ?hSd48 (fun hHeld => ?_)
              case hSd48 => exact u7
              clear hK K hHeld
              try simp only [Act.put, List.setIfInBounds_toArray, List.set_cons_zero, List.set_cons_succ]
              refine wpAnyH_take (i := 9) (v := ?vd49) (by simp only [List.getElem?_toArray, List.getElem?_cons_succ, List.getElem?_cons_zero]; rfl) (by kernel_rfl) (by kernel_rfl) (by kernel_rfl) (fun _ _ _ h => h) (Or.inl ⟨by rfl, ?hyd49⟩) u7 ?rd49
              case hyd49 => (intro W hW; (try dsimp only at hW); go_simp; try with_reducible rfl)
              try simp only [Act.put, List.setIfInBounds_toArray, List.set_cons_zero, List.set_cons_succ]
              refine wpAnyH_take (i := 10) (v := ?vd50) (by simp only [List.getElem?_toArray, List.getElem?_cons_succ, List.getElem?_cons_zero]; rfl) (by kernel_rfl) (by kernel_rfl) (by kernel_rfl) (fun _ _ _ h => h) (Or.inl ⟨by rfl, ?hyd50⟩) u7 ?rd50
              case hyd50 => (intro W hW; (try dsimp only at hW); go_simp; try with_reducible rfl)
              try simp only [Act.put, List.setIfInBounds_toArray, List.set_cons_zero, List.set_cons_succ]
              refine wpAnyH_take (i := 11) (v := ?vd51) (by simp only [List.getElem?_toArray, List.getElem?_cons_succ, List.getElem?_cons_zero]; rfl) (by kernel_rfl) (by kernel_rfl) (by kernel_rfl) (fun _ _ _ h => h) (Or.inl ⟨by rfl, ?hyd51⟩) u7 ?rd51
              case hyd51 => (intro W hW; (try dsimp only at hW); go_simp; try with_reducible rfl)
              try simp only [Act.put, List.setIfInBounds_toArray, List.set_cons_zero, List.set_cons_succ]
              refine wpAnyH_ready (rs := [12]) (by kernel_rfl) (by simp) ?_
              refine AllReadyH.cons (by simp only [List.getElem?_toArray, List.getElem?_cons_succ, List.getElem?_cons_zero]; rfl) (fun K hK => ?_) AllReadyH.nil
              go_simp
              refine hK.out _ _ ?hSd52 (fun hHeld => ?_)
              case hSd52 => (refine cell_other u7 ?_; intro e; have h9 := congrArg Addr.block e; simp only at h9; omega)
              clear hK K hHeld
              try simp only [Act.put, List.setIfInBounds_toArray, List.set_cons_zero, List.set_cons_succ]
              refine wpAnyH_done (by kernel_rfl) ?_ _
              refine NoPanic.normal ?_
              go_wp2
              go_meet
              case rel => exact ⟨rfl, HMK.out w7 (max tk (lastT trm (ents rs))) ((show Qt w6 w6.drew from ⟨1, rfl⟩).trans q7)⟩
            · go_simp
              go_at_call 10
              with_reducible refine (rlastterm_m _ _ _ _ _ _ _ _ HRD.out).mono ?_
              rintro e w7 ⟨rfl, q7⟩
              have u7 : w7.cell? ⟨go, 0, none⟩ = some (.int .i64 x.kind) := ((q7.below w6.heap.size).cell (p := ⟨go, 0, none⟩) HK1.out.lt).trans o0d
              have s7 : w7.cell? ⟨g, k * 5 + 1, none⟩ = some (.int .i64 tk) := ((q7.below w6.heap.size).cell (p := ⟨g, k * 5 + 1, none⟩) hgl6).trans s1d
              have t7 : w7.frozen? ⟨g, k * 5 + 1, none⟩ = false := ((q7.below w6.heap.size).frozen (p := ⟨g, k * 5 + 1, none⟩) hgl6).trans t1d
              refine hK.out _ _ ?hSd53 (fun hHeld => ?_)
              case hSd53 => exact u7
              clear hK K hHeld
              try simp only [Act.put, List.setIfInBounds_toArray, List.set_cons_zero, List.set_cons_succ]
              refine wpAnyH_ready (rs := [6]) (by kernel_rfl) (by simp) ?_
              refine AllReadyH.cons (by simp only [List.getElem?_toArray, List.getElem?_cons_succ, List.getElem?_cons_zero]; rfl) (fun K hK => ?_) AllReadyH.nil
              go_simp
              refine hK.out _ _ ?hSd54 (fun hHeld => ?_)
              case hSd54 => exact u7
              clear hK K hHeld
              try simp only [Act.put, List.setIfInBounds_toArray, List.set_cons_zero, List.set_cons_succ]
              refine wpAnyH_take (i := 9) (v := ?vd55) (by simp only [List.getElem?_toArray, List.getElem?_cons_succ, List.getElem?_cons_zero]; rfl) (by kernel_rfl) (by kernel_rfl) (by kernel_rfl) (fun _ _ _ h => h) (Or.inl ⟨by rfl, ?hyd55⟩) u7 ?rd55
              case hyd55 => (intro W hW; (try dsimp only at hW); go_simp; try with_reducible rfl)
              try simp only [Act.put, List.setIfInBounds_toArray, List.set_cons_zero, List.set_cons_succ]
              refine wpAnyH_take (i := 10) (v := ?vd56) (by simp only [List.getElem?_toArray, List.getElem?_cons_succ, List.getElem?_cons_zero]; rfl) (by kernel_rfl) (by kernel_rfl) (by kernel_rfl) (fun _ _ _ h => h) (Or.inl ⟨by rfl, ?hyd56⟩) u7 ?rd56
              case hyd56 => (intro W hW; (try dsimp only at hW); go_simp; try with_reducible rfl)
              try simp only [Act.put, List.setIfInBounds_toArray, List.set_cons_zero, List.set_cons_succ]
              refine wpAnyH_take (i := 11) (v := ?vd57) (by simp only [List.getElem?_toArray, List.getElem?_cons_succ, List.getElem?_cons_zero]; rfl) (by kernel_rfl) (by kernel_rfl) (by kernel_rfl) (fun _ _ _ h => h) (Or.inl ⟨by rfl, ?hyd57⟩) u7 ?rd57
              case hyd57 => (intro W hW; (try dsimp only at hW); go_simp; try with_reducible rfl)
              try simp only [Act.put, List.setIfInBounds_toArray, List.set_cons_zero, List.set_cons_succ]
              refine wpAnyH_ready (rs := [12]) (by kernel_rfl) (by simp) ?_
              refine AllReadyH.cons (by simp only [List.getElem?_toArray, List.getElem?_cons_succ, List.getElem?_cons_zero]; rfl) (fun K hK => ?_) AllReadyH.nil
              go_simp
              refine hK.out _ _ ?hSd58 (fun hHeld => ?_)
              case hSd58 => (refine cell_other u7 ?_; intro e; have h9 := congrArg Addr.block e; simp only at h9; omega)
              clear hK K hHeld
              try simp only [Act.put, List.setIfInBounds_toArray, List.set_cons_zero, List.set_cons_succ]
              refine wpAnyH_done (by kernel_rfl) ?_ _
              refine NoPanic.normal ?_
              go_wp2
              go_meet
              case rel => exact ⟨rfl, HMK.out w7 (max tk (lastT trm (ents rs))) ((show Qt w6 w6.drew from ⟨1, rfl⟩).trans q7)⟩
        · have hk0i : (0 : Int) < (k : Int) := by omega
          obtain ⟨k1, hk1⟩ : ∃ k1, k = k1 + 1 := ⟨k - 1, by omega⟩
          obtain ⟨np, hnp⟩ : ∃ np, news1[k1]? = some np := ⟨_, List.getElem?_eq_getElem (by have := HL1.out; omega)⟩
          have p1 : w6.cell? ⟨g, k1 * 5 + 1, none⟩ = some (.int .i64 np.term) := by
            obtain ⟨b1, o1, x', hA', _, hx', _, d1, _⟩ := (Rd.of_own HO1.out).en (k := k1) (by have := HL1.out; omega)
            injection hA' with hA'
            injection hA' with e1 e2
            subst e1 e2
            rw [Nat.zero_add] at d1
            rw [d1, Option.some.inj (hx'.symm.trans hnp)]
          obtain ⟨tp, htp⟩ : ∃ tp, tp = np.term := ⟨_, rfl⟩
          rw [← htp] at p1
          have p1d : w6.drew.cell? ⟨g, k1 * 5 + 1, none⟩ = some (.int .i64 tp) := p1
          have hkm : IntKind.i64.wrap ((k : Int) - 1) = (k1 : Int) := by rw [show (k : Int) - 1 = (k1 : Int) by omega]; exact IntWalk.i64_in _ (by omega)
          have hkl1 : (k1 : Int) < (x.n : Int) := by omega
          have HK1E := Lib.hid hk1
          clear htp hnp hk1
          go_upto_region 23 with fail
          refine wp_region_noPanic ?_
          refine wp_region_held_drew (S := fun W => W.cell? ⟨g, k1 * 5 + 1, none⟩ = some (.int .i64 tp)) (by kernel_rfl) p1d (fun _ => ?_)
          refine wpAnyH_take (i := 0) (v := ?vb59) (by simp only [List.getElem?_toArray, List.getElem?_cons_zero]; rfl) (by kernel_rfl) (by kernel_rfl) (by kernel_rfl) (fun _ _ _ h => h) (Or.inl ⟨by rfl, ?hyb59⟩) p1d ?rb59
          case hyb59 => (intro W hW; (try dsimp only at hW); go_simp; try with_reducible rfl)
          try simp only [Act.put, List.setIfInBounds_toArray, List.set_cons_zero, List.set_cons_succ]
          refine wpAnyH_take (i := 1) (v := ?vb60) (by simp only [List.getElem?_toArray, List.getElem?_cons_succ, List.getElem?_cons_zero]; rfl) (by kernel_rfl) (by kernel_rfl) (by kernel_rfl) (fun _ _ _ h => h) (Or.inl ⟨by rfl, ?hyb60⟩) p1d ?rb60
          case hyb60 => (intro W hW; (try dsimp only at hW); go_simp; try with_reducible rfl)
          try simp only [Act.put, List.setIfInBounds_toArray, List.set_cons_zero, List.set_cons_succ]
          refine wpAnyH_take (i := 2) (v := ?vb61) (by simp only [List.getElem?_toArray, List.getElem?_cons_succ, List.getElem?_cons_zero]; rfl) (by kernel_rfl) (by kernel_rfl) (by kernel_rfl) (fun _ _ _ h => h) (Or.inl ⟨by rfl, ?hyb61⟩) p1d ?rb61
          case hyb61 => (intro W hW; (try dsimp only at hW); go_simp; try with_reducible rfl)
          try simp only [Act.put, List.setIfInBounds_toArray, List.set_cons_zero, List.set_cons_succ]
          refine wpAnyH_take (i := 3) (v := ?vb62) (by simp only [List.getElem?_toArray, List.getElem?_cons_succ, List.getElem?_cons_zero]; rfl) (by kernel_rfl) (by kernel_rfl) (by kernel_rfl) (fun _ _ _ h => h) (Or.inl ⟨by rfl, ?hyb62⟩) p1d ?rb62
          case hyb62 => (intro W hW; (try dsimp only at hW); go_simp; try with_reducible rfl)
          try simp only [Act.put, List.setIfInBounds_toArray, List.set_cons_zero, List.set_cons_succ]
          refine wpAnyH_take (i := 4) (v := ?vb63) (by simp only [List.getElem?_toArray, List.getElem?_cons_succ, List.getElem?_cons_zero]; rfl) (by kernel_rfl) (by kernel_rfl) (by kernel_rfl) (fun _ _ _ h => h) (Or.inl ⟨by rfl, ?hyb63⟩) p1d ?rb63
          case hyb63 => (intro W hW; (try dsimp only at hW); go_simp; try with_reducible rfl)
          try simp only [Act.put, List.setIfInBounds_toArray, List.set_cons_zero, List.set_cons_succ]
          refine wpAnyH_take (i := 5) (v := ?vb64) (by simp only [List.getElem?_toArray, List.getElem?_cons_succ, List.getElem?_cons_zero]; rfl) (by kernel_rfl) (by kernel_rfl) (by kernel_rfl) (fun _ _ _ h => h) (Or.inl ⟨by rfl, ?hyb64⟩) p1d ?rb64
          case hyb64 => (intro W hW; (try dsimp only at hW); go_simp; try with_reducible rfl)
          try simp only [Act.put, List.setIfInBounds_toArray, List.set_cons_zero, List.set_cons_succ]
          refine wpAnyH_take (i := 7) (v := ?vb65) (by simp only [List.getElem?_toArray, List.getElem?_cons_succ, List.getElem?_cons_zero]; rfl) (by kernel_rfl) (by kernel_rfl) (by kernel_rfl) (fun _ _ _ h => h) (Or.inl ⟨by rfl, ?hyb65⟩) p1d ?rb65
          case hyb65 => (intro W hW; (try dsimp only at hW); go_simp; try with_reducible rfl)
          try simp only [Act.put, List.setIfInBounds_toArray, List.set_cons_zero, List.set_cons_succ]
          refine wpAnyH_take (i := 8) (v := ?vb66) (by simp only [List.getElem?_toArray, List.getElem?_cons_succ, List.getElem?_cons_zero]; rfl) (by kernel_rfl) (by kernel_rfl) (by kernel_rfl) (fun _ _ _ h => h) (Or.inl ⟨by rfl, ?hyb66⟩) p1d ?rb66
          case hyb66 => (intro W hW; (try dsimp only at hW); go_simp; try with_reducible rfl)
          try simp only [Act.put, List.setIfInBounds_toArray, List.set_cons_zero, List.set_cons_succ]
          refine wpAnyH_take (i := 9) (v := ?vb67) (by simp only [List.getElem?_toArray, List.getElem?_cons_succ, List.getElem?_cons_zero]; rfl) (by kernel_rfl) (by kernel_rfl) (by kernel_rfl) (fun _ _ _ h => h) (Or.inl ⟨by rfl, ?hyb67⟩) p1d ?rb67
          case hyb67 => (intro W hW; (try dsimp only at hW); go_simp; try with_reducible rfl)
          try simp only [Act.put, List.setIfInBounds_toArray, List.set_cons_zero, List.set_cons_succ]
          refine wpAnyH_take (i := 10) (v := ?vb68) (by simp only [List.getElem?_toArray, List.getElem?_cons_succ, List.getElem?_cons_zero]; rfl) (by kernel_rfl) (by kernel_rfl) (by kernel_rfl) (fun _ _ _ h => h) (Or.inl ⟨by rfl, ?hyb68⟩) p1d ?rb68
          case hyb68 => (intro W hW; (try dsimp only at hW); go_simp; try with_reducible rfl)
          try simp only [Act.put, List.setIfInBounds_toArray, List.set_cons_zero, List.set_cons_succ]
          refine wpAnyH_take (i := 11) (v := ?vb69) (by simp only [List.getElem?_toArray, List.getElem?_cons_succ, List.getElem?_cons_zero]; rfl) (by kernel_rfl) (by kernel_rfl) (by kernel_rfl) (fun _ _ _ h => h) (Or.inl ⟨by rfl, ?hyb69⟩) p1d ?rb69
          case hyb69 => (intro W hW; (try dsimp only at hW); go_simp; try with_reducible rfl)
          try simp only [Act.put, List.setIfInBounds_toArray, List.set_cons_zero, List.set_cons_succ]
          refine wpAnyH_take (i := 12) (v := ?vb70) (by simp only [List.getElem?_toArray, List.getElem?_cons_succ, List.getElem?_cons_zero]; rfl) (by kernel_rfl) (by kernel_rfl) (by kernel_rfl) (fun _ _ _ h => h) (Or.inl ⟨by rfl, ?hyb70⟩) p1d ?rb70
          case hyb70 => (intro W hW; (try dsimp only at hW); go_simp; try with_reducible rfl)
          try simp only [Act.put, List.setIfInBounds_toArray, List.set_cons_zero, List.set_cons_succ]
          refine wpAnyH_ready (rs := [6]) (by kernel_rfl) (by simp) ?_
          refine AllReadyH.cons (by simp only [List.getElem?_toArray, List.getElem?_cons_succ, List.getElem?_cons_zero]; rfl) (fun K hK => ?_) AllReadyH.nil
          go_simp
          refine hK.out _ _ ?hSb71 (fun hHeld => ?_)
          case hSb71 => exact p1d
          clear hK K hHeld
          try simp only [Act.put, List.setIfInBounds_toArray, List.set_cons_zero, List.set_cons_succ]
          refine wpAnyH_take (i := 13) (v := ?vb72) (by simp only [List.getElem?_toArray, List.getElem?_cons_succ, List.getElem?_cons_zero]; rfl) (by kernel_rfl) (by kernel_rfl) (by kernel_rfl) (fun _ _ _ h => h) (Or.inl ⟨by rfl, ?hyb72⟩) p1d ?rb72
          case hyb72 => (intro W hW; (try dsimp only at hW); go_simp; try with_reducible rfl)
          try simp only [Act.put, List.setIfInBounds_toArray, List.set_cons_zero, List.set_cons_succ]
          refine wpAnyH_take (i := 14) (v := ?vb73) (by simp only [List.getElem?_toArray, List.getElem?_cons_succ, List.getElem?_cons_zero]; rfl) (by kernel_rfl) (by kernel_rfl) (by kernel_rfl) (fun _ _ _ h => h) (Or.inl ⟨by rfl, ?hyb73⟩) p1d ?rb73
          case hyb73 => (intro W hW; (try dsimp only at hW); go_simp; try with_reducible rfl)
          try simp only [Act.put, List.setIfInBounds_toArray, List.set_cons_zero, List.set_cons_succ]
          refine wpAnyH_take (i := 15) (v := ?vb74) (by simp only [List.getElem?_toArray, List.getElem?_cons_succ, List.getElem?_cons_zero]; rfl) (by kernel_rfl) (by kernel_rfl) (by kernel_rfl) (fun _ _ _ h => h) (Or.inl ⟨by rfl, ?hyb74⟩) p1d ?rb74
          case hyb74 => (intro W hW; (try dsimp only at hW); go_simp; try with_reducible rfl)
          try simp only [Act.put, List.setIfInBounds_toArray, List.set_cons_zero, List.set_cons_succ]
          refine wpAnyH_ready (rs := [16]) (by kernel_rfl) (by simp) ?_
          refine AllReadyH.cons (by simp only [List.getElem?_toArray, List.getElem?_cons_succ, List.getElem?_cons_zero]; rfl) (fun K hK => ?_) AllReadyH.nil
          go_simp
          refine hK.out _ _ ?hSb75 (fun hHeld => ?_)
          case hSb75 => (refine cell_other p1d ?_; intro e; have h9 := congrArg Addr.off e; simp only at h9; have := HK1E.out; omega)
          clear hK K hHeld
          try simp only [Act.put, List.setIfInBounds_toArray, List.set_cons_zero, List.set_cons_succ]
          refine wpAnyH_done (by kernel_rfl) ?_ _
          refine NoPanic.normal ?_
          go_wp2
          go_meet
          case rel => exact ⟨rfl, HMK.out w6.drew (max tk tp) ⟨1, rfl⟩⟩
      case rest =>
        obtain ⟨rfl, news2, HN2, HO2, HK2, HB2⟩ := hcut
        go_wp2
        exact HNX.out _ _ news2 ⟨rfl, rfl, rfl, rfl, rfl, rfl, rfl, rfl, rfl, rfl, rfl, rfl, rfl, rfl, rfl, rfl⟩ ⟨HN2, HO2, HK2, HB2⟩
  · obtain rfl : k = x.n := by omega
    have HX := Lib.hid (fun y w' => hexit y w' news)
    clear hexit
    go_wp2
    refine HX.out _ _ ⟨rfl, rfl, rfl, rfl, rfl, rfl, rfl, rfl, rfl, rfl, rfl, rfl, rfl, rfl, rfl⟩ ⟨HNW, HO, HKO, HBX⟩
end Go.Proofs.Ytdhohaeopfgbmaa
