/-
  The walk of MsgTells: every message as bytes, every bytes as a message; lists kept, marked, grown. Conditions: entries that memory holds.
-/
import Derived.Test.YtgigkekajdgngaaGreatLightE
import Derived.Test.YtgigkekajdgngaaGreatPostAlive
import Derived.Test.YtgigkekajdgngaaGreatRefMsgB
import Derived.Test.YtgigkekajdgngaaGreatTellsM
import Derived.Test.YtgigkekajdgngaaGreatBookEntriesE
namespace Go.Proofs.YtgigkekajdgngaaGreat
open Go Go.RowKit
attribute [local go_sem] cell_set_if

theorem cmds_few (l : List Cm) (n : Int) (h : 0 ≤ cmdsL n l) : (l.length : Int) * 9 ≤ n := by
  induction l generalizing n with
  | nil => have h' : 0 ≤ n := h; simpa using h'
  | cons x xs ih =>
    unfold cmdsL at h
    split at h
    · rename_i h0
      have h1 := ih _ h
      have h2 : roomL n (cmZ x) ≤ n - 9 ∨ roomL n (cmZ x) = -1 := by
        unfold cmZ
        unfold roomL
        split
        · exact .inr rfl
        · exact .inl (roomL_le (n - 9) _ (fun z hz => by simp only [List.mem_cons, List.mem_nil_iff, or_false] at hz; rcases hz with rfl | rfl | rfl | rfl <;> omega) (by omega)).2
      rcases h2 with h2 | h2
      · rw [List.length_cons]; omega
      · rw [h2, cmdsL_neg (by omega)] at h; omega
    · rename_i h0; omega
theorem ens_few (l : List En) (n : Int) (h : 0 ≤ ensL n l) (hn : n ≤ 20000) : ∀ x ∈ l, x.cmds.length ≤ 20000 := by
  induction l generalizing n with
  | nil => intro x hx; exact absurd hx (by simp)
  | cons y ys ih =>
    unfold ensL at h
    split at h
    · rename_i h0
      have hr := roomL_le n [20] (fun z hz => by rw [List.mem_singleton.1 hz]; omega) (by omega)
      have hc := cmdsL_le (roomL n [20]) y.cmds hr.1
      by_cases h2 : 0 ≤ cmdsL (roomL n [20]) y.cmds
      · have h3 := cmds_few _ _ h2
        have h4 := ih _ h (by omega)
        intro x hx
        rcases List.mem_cons.1 hx with rfl | hx
        · omega
        · exact h4 x hx
      · rw [ensL_neg h2] at h; exact absurd h h2
    · rename_i h0; omega
theorem light_few {few : Nat} {l : List En} (h : lightE few l = true) : l.length ≤ few ∧ ∀ x ∈ l, x.cmds.length ≤ 20000 := by
  unfold lightE at h
  rw [Bool.and_eq_true, decide_eq_true_eq, decide_eq_true_eq] at h
  have h2 := ens_few _ _ h.2 (Int.le_refl _)
  rw [List.take_of_length_le h.1] at h2
  exact ⟨h.1, h2⟩
theorem mem_pl {xs ys : List En} (h : ys.map plE = xs.map plE) {y : En} (hy : y ∈ ys) : ∃ x ∈ xs, plE y = plE x := by
  have h1 : plE y ∈ ys.map plE := List.mem_map.2 ⟨y, hy, rfl⟩
  rw [h] at h1
  obtain ⟨x, hx, e⟩ := List.mem_map.1 h1
  exact ⟨x, hx, e.symm⟩
theorem pl_twice (m : Ms) : m.pl = m.pl' := rfl
/-- A list that was kept tells as its copy. -/
def AlikeEn (w : World) (base N : Nat) (f fw : Nat → List En) : Prop := ∀ i, i < N → (f i).map plE = (fw i).map plE ∧ (∀ x ∈ f i, x.mine w base) ∧ (∀ y ∈ fw i, y.mine w base)
theorem AlikeEn.frm {w w' : World} {base N : Nat} {f fw : Nat → List En} {S : Nat → Prop} {Ts : List TypeId} (h : AlikeEn w base N f fw) (k : Frm S w w') (hS : TyS w S Ts) (hn : 117 ∉ Ts) : AlikeEn w' base N f fw := fun i hi => ⟨(h i hi).1, fun x hx => ((h i hi).2.1 x hx).frm k hS hn, fun x hx => ((h i hi).2.2 x hx).frm k hS hn⟩
theorem AlikeEn.below {w w' : World} {base N : Nat} {f fw : Nat → List En} (h : AlikeEn w base N f fw) (b : Below w.heap.size w w') : AlikeEn w' base N f fw := fun i hi => ⟨(h i hi).1, fun x hx => ((h i hi).2.1 x hx).below b, fun x hx => ((h i hi).2.2 x hx).below b⟩
theorem BookEn.last {base g N n c : Nat} {w : World} {f fw : Nat → List En} {v1 v2 : Value} {V W : List Value} {A : Option Addr} {xs : List En} (h : BookEn base w g (N + 1) (fun j => if j = N then xs else f j) fw v1 v2 (V ++ [.slice A n c]) W) (hn : xs.length = n) : w.ownsRow base 61 5 (.slice A n c) n (flatEn xs) := by
  have hl := h.rV.len
  rw [List.length_append, List.length_cons, List.length_nil] at hl
  obtain ⟨B, d, h1, h2⟩ := h.rV.at_ N (by omega)
  rw [List.getElem?_append_right (by omega), show N - V.length = 0 by omega, List.getElem?_cons_zero] at h1
  injection h1 with h1
  simp only [if_true] at h1 h2
  rw [hn] at h1 h2
  injection h1 with e1 _ e2
  subst e1 e2
  exact h2
theorem hdM_few (b : ByteArray) : (okM b).es.length ≤ 255 := by
  unfold okM
  split
  · unfold rdM tsM
    rw [List.length_map, getTs_len]
    have := hdM_n (openL (bts b)).1
    omega
  · show 0 ≤ 255; omega
theorem layM_size' {m : Ms} {T : ByteArray} (h : layM m = (T, 0)) : T.size ≤ 60000 := by
  obtain ⟨h1, h2, rfl⟩ := layM_ok h
  obtain ⟨_, g2, g3, _⟩ := Ms.good h1
  have h3 := entsB_len h2
  rw [sealB_size, bs_size]
  unfold Ms.body headM
  have e5 : m.nums.length = 5 := rfl
  simp only [List.length_append, lowB_len, numsB_len, List.length_map, e5, bts_len]
  omega
theorem pl_len {m k : Ms} (h : m.pl = k) : m.es.length = k.es.length := by rw [← h]; unfold Ms.pl; rw [List.length_map]
/-- One list more. -/
theorem AlikeEn.more {w : World} {base N : Nat} {f fw : Nat → List En} {xs ys : List En} (h : AlikeEn w base N f fw) (hp : ys.map plE = xs.map plE) (h1 : ∀ x ∈ xs, x.mine w base) (h2 : ∀ y ∈ ys, y.mine w base) : AlikeEn w base (N + 1) (fun j => if j = N then xs else f j) (fun j => if j = N then ys else fw j) := fun i hi => by
  by_cases hc : i = N
  · simp only [hc, if_true]; exact ⟨hp.symm, h1, h2⟩
  · simp only [hc, if_false]; exact h i (by omega)
set_option maxRecDepth 100000 in
set_option maxHeartbeats 16000000 in
theorem msgtells_walk (m : Ms) (A : Option Addr) (n c : Nat) (b : ByteArray) (own : Bool) (w : World) (hR : Rd w A (flatEn m.es)) (hN : m.es.length = n) (hm : n ≤ maxLen) (hz : m.txt.size ≤ maxLen) (hL : ∀ x ∈ m.es, x.lies w) (hb9 : b.size ≤ maxLen) :
    Calls Tryz.prog 3 #[m.v A n c, .string b, .bool own] w fun e w' => e = .returned (.bool true) ∧ Below w.heap.size w w' := by
  have hni : (n : Int) ≤ 9223372036854775807 := by unfold maxLen at hm; omega
  have hti : (m.txt.size : Int) ≤ 9223372036854775807 := by unfold maxLen at hz; omega
  have hbi : (b.size : Int) ≤ 9223372036854775807 := by unfold maxLen at hb9; omega
  obtain ⟨lg, hlg⟩ : ∃ lg, lg = lightE 12 m.es := ⟨_, rfl⟩
  have ba : Below w.heap.size w (w.alloc (.cells #[.int .i64 m.kind, .int .i64 m.a, .int .i64 m.b, .int .i64 m.c, .int .i64 m.d, .int .i64 m.r, .bool m.ok, .string m.txt, .slice A n c] 24)) := (Below.refl _ _).alloc (Nat.le_refl _) _
  have KM := Blk.new w 24 #[.int .i64 m.kind, .int .i64 m.a, .int .i64 m.b, .int .i64 m.c, .int .i64 m.d, .int .i64 m.r, .bool m.ok, .string m.txt, .slice A n c]
  have hlc : Calls Tryz.prog 4 #[.int .i64 12, .slice A n c] (w.alloc (.cells #[.int .i64 m.kind, .int .i64 m.a, .int .i64 m.b, .int .i64 m.c, .int .i64 m.d, .int .i64 m.r, .bool m.ok, .string m.txt, .slice A n c] 24)) fun e w' => e = .returned (.bool (lightE 12 m.es)) ∧ Below (w.alloc (.cells #[.int .i64 m.kind, .int .i64 m.a, .int .i64 m.b, .int .i64 m.c, .int .i64 m.d, .int .i64 m.r, .bool m.ok, .string m.txt, .slice A n c] 24)).heap.size (w.alloc (.cells #[.int .i64 m.kind, .int .i64 m.a, .int .i64 m.b, .int .i64 m.c, .int .i64 m.d, .int .i64 m.r, .bool m.ok, .string m.txt, .slice A n c] 24)) w' :=
    lightE_any 12 A n c m.es _ (hR.below ba) hN hm (by omega) (fun x hx => ⟨(hL x hx).1.below ba, (hL x hx).2.1, (hL x hx).2.2.1, fun y hy => (hL x hx).2.2.2 y hy⟩)
  rw [← hlg] at hlc
  have HLC := Lib.hid hlc
  have HLG := Lib.hid hlg
  have HR := Lib.hid hR
  have HN := Lib.hid hN
  have HL := Lib.hid hL
  have HZ := Lib.hid hz
  clear hlc hlg hR hN hm hz hL hb9
  unfold Ms.v msgV
  go_enter Tryz.func3, Tryz.ntmps3
  go_upto_region 1 with fail
  obtain ⟨gm, hgm⟩ : ∃ gm, gm = w.heap.size := ⟨_, rfl⟩
  rw [← hgm] at KM ⊢
  have BA := Lib.hid ba
  generalize w.alloc (.cells #[.int .i64 m.kind, .int .i64 m.a, .int .i64 m.b, .int .i64 m.c, .int .i64 m.d, .int .i64 m.r, .bool m.ok, .string m.txt, .slice A n c] 24) = W at ba BA KM HLC ⊢
  clear hgm ba
  have HKM := Lib.hid KM
  have m7 : W.cell? ⟨gm, 7, none⟩ = some (.string m.txt) := KM.cell 7
  have m8 : W.cell? ⟨gm, 8, none⟩ = some (.slice A n c) := KM.cell 8
  clear KM
  cases lg
  · 
    go_wp2_with (first
      | (go_at_call 4; with_reducible refine HLC.out.mono ?_; rintro e w1 ⟨rfl, b1⟩
         have n7 : w1.cell? ⟨gm, 7, none⟩ = some (.string m.txt) := (HKM.out.below b1).cell 7)
      | (go_at_call 5; refine (alive24_any _).mono ?_; rintro e w2 ⟨rfl, b2⟩))
    go_ret
    exact ⟨rfl, (BA.out.trans (b1.mono BA.out.size)).trans (b2.mono (by have := BA.out.size; have := b1.size; omega))⟩
  by_cases k2 : 3000 < m.txt.size
  · have d2 : decide (3000 < (m.txt.size : Int)) = true := decide_eq_true (by omega)
    go_wp2_with (first
      | (go_at_call 4; with_reducible refine HLC.out.mono ?_; rintro e w1 ⟨rfl, b1⟩
         have n7 : w1.cell? ⟨gm, 7, none⟩ = some (.string m.txt) := (HKM.out.below b1).cell 7)
      | (go_at_call 5; refine (alive24_any _).mono ?_; rintro e w2 ⟨rfl, b2⟩))
    go_ret
    exact ⟨rfl, (BA.out.trans (b1.mono BA.out.size)).trans (b2.mono (by have := BA.out.size; have := b1.size; omega))⟩
  have d2 : decide (3000 < (m.txt.size : Int)) = false := decide_eq_false (by omega)
  by_cases k3 : 4000 < b.size
  · have d3 : decide (4000 < (b.size : Int)) = true := decide_eq_true (by omega)
    go_wp2_with (first
      | (go_at_call 4; with_reducible refine HLC.out.mono ?_; rintro e w1 ⟨rfl, b1⟩
         have n7 : w1.cell? ⟨gm, 7, none⟩ = some (.string m.txt) := (HKM.out.below b1).cell 7)
      | (go_at_call 5; refine (alive24_any _).mono ?_; rintro e w2 ⟨rfl, b2⟩))
    go_ret
    exact ⟨rfl, (BA.out.trans (b1.mono BA.out.size)).trans (b2.mono (by have := BA.out.size; have := b1.size; omega))⟩
  have d3 : decide (4000 < (b.size : Int)) = false := decide_eq_false (by omega)
  obtain ⟨hn12, hcf⟩ := light_few HLG.out.symm
  have hn12' : n ≤ 12 := by have := HN.out; omega
  have HHAS : Hid (∀ x ∈ m.es, x.has w) := fun x hx => ⟨(HL.out x hx).1, (HL.out x hx).2.1, by have h1 := (HL.out x hx).2.1; have h2 := hcf x hx; omega⟩
  obtain ⟨T, q, hTq⟩ : ∃ T q, layM m = (T, q) := ⟨_, _, rfl⟩
  have HTQ := Lib.hid hTq
  obtain ⟨b', hb'⟩ : ∃ b', b' = if own then sealB b else b := ⟨_, rfl⟩
  have hbz : b'.size ≤ 4004 := by
    rw [hb']; split
    · rw [sealB_size]; omega
    · omega
  obtain ⟨g, hg⟩ : ∃ g, g = errM b' := ⟨_, rfl⟩
  have hrd := fun W => mread_any b' W (by omega)
  have hrrd := fun W => rmread_any b' W (by omega)
  unfold Ms.v msgV at hrd hrrd
  rw [← hg] at hrd hrrd
  have hfew := hdM_few b'
  obtain ⟨O, hO⟩ : ∃ O, O = okM b' := ⟨_, rfl⟩
  rw [← hO] at hrd hrrd hfew
  have HRD := Lib.hid hrd
  have HRRD := Lib.hid hrrd
  have HFEW := Lib.hid hfew
  have tt : (T.toList == T.toList) = true := by simp
  have tt2 : (T.toList != T.toList) = false := by simp
  have qq : (q != q) = false := by simp
  have gg : (g != g) = false := by simp
  have hseal := fun W => refseal_any b W (by omega)
  have HSEAL := Lib.hid hseal
  have HB' := Lib.hid hb'
  clear hn12 hcf hTq hbz hg hrd hrrd hfew hO hseal hb'
  have hPL : ∀ W, Calls Tryz.prog 10 #[.agg #[.int .i64 m.kind, .int .i64 m.a, .int .i64 m.b, .int .i64 m.c, .int .i64 m.d, .int .i64 m.r, .bool m.ok, .string m.txt, .slice A n c]] W fun e w' => e = .returned (.agg #[.int .i64 m.kind, .int .i64 m.a, .int .i64 m.b, .int .i64 m.c, .int .i64 m.d, .int .i64 m.r, .bool m.ok, .string m.txt, .slice A n c]) ∧ Below W.heap.size W w' := fun W => plainM_any m A n c W
  have hRL : ∀ W, Below w.heap.size w W → Calls Tryz.prog 9 #[.agg #[.int .i64 m.kind, .int .i64 m.a, .int .i64 m.b, .int .i64 m.c, .int .i64 m.d, .int .i64 m.r, .bool m.ok, .string m.txt, .slice A n c]] W fun e w' => e = .returned (.tuple #[.string T, .int .i64 q]) ∧ Below W.heap.size W w' := fun W b => by
    have h := rlayM_any m A n c W (HR.out.below b) HN.out (by unfold maxLen; omega) HZ.out (fun x hx => (HL.out x hx).below b)
    rw [HTQ.out] at h
    exact h
  have HPL := Lib.hid hPL
  have HRL := Lib.hid hRL
  clear hPL hRL
  go_upto_if 40 with (first
    | (go_at_call 4; with_reducible refine HLC.out.mono ?_; rintro e w1 ⟨rfl, b1⟩
       have n7 : w1.cell? ⟨gm, 7, none⟩ = some (.string m.txt) := (HKM.out.below b1).cell 7)
    | (go_at_call 5; refine (alive24_any _).mono ?_; rintro e w2 ⟨rfl, b2⟩))
  have B2 : Below w.heap.size w w2 := BA.out.trans ((b1.mono BA.out.size).trans (b2.mono (by have := BA.out.size; have := b1.size; omega)))
  have K2 := (HKM.out.below b1).below b2
  have HB2 := Lib.hid B2
  have HK2 := Lib.hid K2
  clear B2 K2 b1 b2 n7 m7 m8 HKM BA HLC
  go_cut [1] (fun u1 wx => u1 = .string b' ∧ Hid (Below w2.heap.size w2 wx))
  case first =>
    cases own
    · have e : b' = b := HB'.out
      have e := Lib.hid e
      go_wp2
      go_meet
      case rel => exact ⟨by rw [e.out], Below.refl _ _⟩
    · have e : b' = sealB b := HB'.out
      have e := Lib.hid e
      go_wp2_with (go_at_call 6; with_reducible refine (HSEAL.out _).mono ?_; rintro e w3 ⟨rfl, b3⟩)
      go_meet
      case rel => exact ⟨by rw [e.out], b3⟩
  case rest =>
  obtain ⟨rfl, hb3⟩ := hcut
  have Bc : Below w.heap.size w wc := below_of hb3.out HB2.out HB2.out.size
  have KC := HK2.out.below hb3.out
  have HBC := Lib.hid Bc
  have HKC := Lib.hid KC
  clear Bc KC hb3 HB2 HK2 HB' HSEAL
  go_wp2
  have hK0 := BookEn.start w.heap.size wc HBC.out.size (fun _ => []) (fun _ => [])
  unfold bookEn at hK0
  go_loopw [8] (fun u8 wr => ∃ (N : Nat) (v1 v2 : Value) (V Y : List Value) (f fw : Nat → List En), N ≤ 2 ∧ u8 = .int .i64 N ∧ Hid (BookEn w.heap.size wr wc.heap.size N f fw v1 v2 V Y) ∧ Hid (AlikeEn wr w.heap.size N f fw) ∧ Hid (∀ i, (f i).length ≤ 255) ∧ Hid (∀ p, v1.ownBlock = some p → wc.heap.size ≤ p) ∧ Hid (∀ p, v2.ownBlock = some p → wc.heap.size ≤ p) ∧ Hid (Below wc.heap.size wc wr)) (fun u8 _ => 2 - (intOf u8).toNat)
  case atStart => exact ⟨0, _, _, [], [], _, _, by omega, rfl, hK0, fun i hi => by omega, fun i => by simp, fun q hq => by simp [Value.ownBlock] at hq, fun q hq => by simp [Value.ownBlock] at hq, (Below.refl _ _).alloc (Nat.le_refl _) _⟩
  case round =>
    obtain ⟨N, v1, v2, V, Y, f, fw, hN, rfl, HK, HAL, HF, HV1, HV2, HB⟩ := hrel
    have HBW : Hid (Below w.heap.size w wr) := below_of HB.out HBC.out HBC.out.size
    have KR := HKC.out.below HB.out
    have HKR := Lib.hid KR
    by_cases hlt : N < 2
    · have hqi : (N : Int) < 2 := by omega
      have a0 := KR.cell 0
      have a1 := KR.cell 1
      have a2 := KR.cell 2
      have a3 := KR.cell 3
      have a4 := KR.cell 4
      have a5 := KR.cell 5
      have a6 := KR.cell 6
      have a7 := KR.cell 7
      have a8 := KR.cell 8
      clear KR
      go_upto_region 10 with fail
      have KX := Blk.new wr 24 #[.int .i64 m.kind, .int .i64 m.a, .int .i64 m.b, .int .i64 m.c, .int .i64 m.d, .int .i64 m.r, .bool m.ok, .string m.txt, .slice A n c]
      have bx : Below wr.heap.size wr (wr.alloc (.cells #[.int .i64 m.kind, .int .i64 m.a, .int .i64 m.b, .int .i64 m.c, .int .i64 m.d, .int .i64 m.r, .bool m.ok, .string m.txt, .slice A n c] 24)) := (Below.refl _ _).alloc (Nat.le_refl _) _
      have hsz : wr.heap.size < (wr.alloc (.cells #[.int .i64 m.kind, .int .i64 m.a, .int .i64 m.b, .int .i64 m.c, .int .i64 m.d, .int .i64 m.r, .bool m.ok, .string m.txt, .slice A n c] 24)).heap.size := by simp
      obtain ⟨gx, hgx⟩ : ∃ gx, gx = wr.heap.size := ⟨_, rfl⟩
      rw [← hgx] at KX hsz ⊢
      have hgx1 : wr.heap.size ≤ gx := by omega
      generalize wr.alloc (.cells #[.int .i64 m.kind, .int .i64 m.a, .int .i64 m.b, .int .i64 m.c, .int .i64 m.d, .int .i64 m.r, .bool m.ok, .string m.txt, .slice A n c] 24) = W1 at KX bx hsz ⊢
      have c8 : W1.cell? ⟨gm, 8, none⟩ = some (.slice A n c) := (HKR.out.below bx).cell 8
      have hLN := lentEn_any A n c m.es W1 (HR.out.below (below_of bx HBW.out HBW.out.size)) HN.out (by omega) (fun x hx => (HHAS.out x hx).below (below_of bx HBW.out HBW.out.size))
      have HLN := Lib.hid hLN
      have HKX := Lib.hid KX
      have HBX := Lib.hid bx
      clear a0 a1 a2 a3 a4 a5 a6 a7 a8
      clear hgx KX bx hLN
      go_upto_region 11 with (go_at_call 7; with_reducible refine HLN.out.mono ?_; rintro e w3 ⟨⟨g3, n3, c3, ys, hn3, hc3, rfl, hp3, hm3, ho3⟩, b3⟩
                              obtain rfl : n = n3 := by have h := congrArg List.length hp3; have := HN.out; simp only [List.length_map] at h; omega
                              have x8 := (HKX.out.below b3).cell 8
                              have xf := (HKX.out.below b3).free 8)
      have KX3 := HKX.out.below b3
      have KX4 : Blk (w3.setCell ⟨gx, 8, none⟩ (.slice (some ⟨g3, 0, none⟩) n c3)) gx 24 #[.int .i64 m.kind, .int .i64 m.a, .int .i64 m.b, .int .i64 m.c, .int .i64 m.d, .int .i64 m.r, .bool m.ok, .string m.txt, .slice (some ⟨g3, 0, none⟩) n c3] := KX3.set_ 8 _
      have P4 := own_set KX3 ho3 (i := 8) (by decide) (.slice (some ⟨g3, 0, none⟩) n c3)
      have F4 : Frm (at1 gx) w3 (w3.setCell ⟨gx, 8, none⟩ (.slice (some ⟨g3, 0, none⟩) n c3)) := (Frm.refl (at1 gx) w3).setCell (p := ⟨gx, 8, none⟩) (fun _ => rfl) _
      have M4 : ∀ y ∈ ys, y.mine (w3.setCell ⟨gx, 8, none⟩ (.slice (some ⟨g3, 0, none⟩) n c3)) W1.heap.size := fun y hy => (hm3 y hy).frm F4 (TyS.one KX3) (by decide)
      have D4 : Below wr.heap.size wr (w3.setCell ⟨gx, 8, none⟩ (.slice (some ⟨g3, 0, none⟩) n c3)) := (HBX.out.trans (b3.mono HBX.out.size)).setCell (p := ⟨gx, 8, none⟩) hgx1 _
      generalize w3.setCell ⟨gx, 8, none⟩ (.slice (some ⟨g3, 0, none⟩) n c3) = W4 at KX4 P4 M4 D4 ⊢
      have L4 : Rd W4 (some ⟨g3, 0, none⟩) (flatEn ys) := by have h := Rd.of_own P4; rw [flatEn_app] at h; exact h.pre
      have LY : ∀ y ∈ ys, y.lies W4 := fun y hy => by
        obtain ⟨x, hx, e⟩ := mem_pl hp3 hy
        obtain ⟨_, _, _, _, _, e6⟩ := plE_eq e
        exact ⟨(M4 y hy).has.1, (M4 y hy).2.1, by have := (M4 y hy).2.2; unfold maxLen; omega, fun z hz => (HL.out x hx).2.2.2 z (by rw [← e6]; exact hz)⟩
      have hLY : Calls Tryz.prog 8 #[.agg #[.int .i64 m.kind, .int .i64 m.a, .int .i64 m.b, .int .i64 m.c, .int .i64 m.d, .int .i64 m.r, .bool m.ok, .string m.txt, .slice (some ⟨g3, 0, none⟩) n c3]] W4 fun e w' => e = .returned (.tuple #[.string T, .int .i64 q]) ∧ Below W4.heap.size W4 w' := by
        have h := layM_any { m with es := ys } (some ⟨g3, 0, none⟩) n c3 W4 L4 hn3 (by unfold maxLen; omega) HZ.out LY
        rw [← layM_plain m ys hp3.symm, HTQ.out] at h
        exact h
      have HLY := Lib.hid hLY
      have HKX4 := Lib.hid KX4
      have HP4 := Lib.hid P4
      have HM4 := Lib.hid M4
      have HD4 := Lib.hid D4
      have HP3 := Lib.hid hp3
      have HN3 := Lib.hid hn3
      have HC3 := Lib.hid hc3
      have x0 := KX4.cell 0
      have x1 := KX4.cell 1
      have x2 := KX4.cell 2
      have x3 := KX4.cell 3
      have x4 := KX4.cell 4
      have x5 := KX4.cell 5
      have x6 := KX4.cell 6
      have x7 := KX4.cell 7
      have x8 := KX4.cell 8
      clear L4 LY hLY KX4 P4 M4 D4 hp3 hm3 ho3 hn3 hc3 b3 c8 xf KX3 F4 HKX HLN
      go_upto_region 13 with (first
        | (go_at_call 8; with_reducible refine HLY.out.mono ?_; rintro e w5 ⟨rfl, b5⟩
           have D5 := HD4.out.trans (b5.mono HD4.out.size)
           have K5 := HKR.out.below D5
           have a0 := K5.cell 0
           have a1 := K5.cell 1
           have a2 := K5.cell 2
           have a3 := K5.cell 3
           have a4 := K5.cell 4
           have a5 := K5.cell 5
           have a6 := K5.cell 6
           have a7 := K5.cell 7
           have a8 := K5.cell 8
           clear K5)
        | (go_at_call 10; with_reducible refine (HPL.out _).mono ?_; rintro e w6 ⟨rfl, b6⟩
           have D6 := D5.trans (b6.mono D5.size)
           have G6 := below_of D6 HBW.out HBW.out.size)
        | (go_at_call 9; with_reducible refine (HRL.out _ G6).mono ?_; rintro e w7 ⟨rfl, b7⟩))
      have C7 : Below W4.heap.size W4 w7 := (b5.trans (b6.mono b5.size)).trans (b7.mono (by have := b5.size; have := b6.size; omega))
      have HD7 : Hid (Below wr.heap.size wr w7) := below_of C7 HD4.out HD4.out.size
      have HKX7 := Lib.hid (HKX4.out.below C7)
      have HP7 : Hid (w7.ownsRow W1.heap.size 61 5 (.slice (some ⟨g3, 0, none⟩) (n + 1) c3) (n + 1) (flatEn (ys ++ [lentMarkEn]))) := own_frm HP4.out (S := no) (Frm.of_below C7) (fun _ _ h => h)
      have HM7 : Hid (∀ y ∈ ys, y.mine w7 w.heap.size) := fun y hy => ((HM4.out y hy).below C7).low (by have := HBX.out.size; have := HBW.out.size; omega)
      clear a0 a1 a2 a3 a4 a5 a6 a7 a8 x0 x1 x2 x3 x4 x5 x6 x7 x8
      clear C7 b5 b6 b7 D5 D6 G6 HKX4 HP4 HM4 HLY HD4
      go_upto_region 14 with (go_at_call 11; with_reducible refine (HRD.out _).mono ?_; rintro e w8 ⟨M1, A1, n1, c1, rfl, hp1, hn1, ho1, hm1, b8⟩)
      have KY := Blk.new w8 24 #[.int .i64 M1.kind, .int .i64 M1.a, .int .i64 M1.b, .int .i64 M1.c, .int .i64 M1.d, .int .i64 M1.r, .bool M1.ok, .string M1.txt, .slice A1 n1 c1]
      have by_ : Below w8.heap.size w8 (w8.alloc (.cells #[.int .i64 M1.kind, .int .i64 M1.a, .int .i64 M1.b, .int .i64 M1.c, .int .i64 M1.d, .int .i64 M1.r, .bool M1.ok, .string M1.txt, .slice A1 n1 c1] 24)) := (Below.refl _ _).alloc (Nat.le_refl _) _
      have HE8 : Hid (w8.heap.size = w8.heap.size) := rfl
      generalize w8.alloc (.cells #[.int .i64 M1.kind, .int .i64 M1.a, .int .i64 M1.b, .int .i64 M1.c, .int .i64 M1.d, .int .i64 M1.r, .bool M1.ok, .string M1.txt, .slice A1 n1 c1] 24) = W9 at KY by_ ⊢
      have HD9 : Hid (Below w7.heap.size w7 W9) := b8.trans (by_.mono b8.size)
      have HKY := Lib.hid KY
      have HO1 := Lib.hid (own_frm ho1 (S := no) (Frm.of_below by_) (fun _ _ h => h))
      have HM1 : Hid (∀ x ∈ M1.es, x.mine W9 w.heap.size) := fun x hx => ((hm1 x hx).below by_).mine.low (by have := HD7.out.size; have := HBW.out.size; omega)
      have HN1 := Lib.hid hn1
      have HP1 := Lib.hid hp1
      clear KY by_ b8 ho1 hm1 hn1 hp1 HE8
      go_upto_region 15 with (go_at_call 12; with_reducible refine (HRRD.out _).mono ?_; rintro e w10 ⟨M2, A2, n2, c2, rfl, hp2, hn2, ho2, hm2, b10⟩)
      obtain rfl : n1 = n2 := by have h1 := pl_len HP1.out; have h2 := pl_len hp2; have := HN1.out; omega
      have hn255 : n1 ≤ 255 := by have h1 := pl_len HP1.out; have := HN1.out; have := HFEW.out; omega
      have KZ := Blk.new w10 45 #[.int .i64 M2.kind, .int .i64 M2.a, .int .i64 M2.b, .int .i64 M2.c, .int .i64 M2.d, .int .i64 M2.r, .bool M2.ok, .string M2.txt, .slice A2 n1 c2]
      have bz : Below w10.heap.size w10 (w10.alloc (.cells #[.int .i64 M2.kind, .int .i64 M2.a, .int .i64 M2.b, .int .i64 M2.c, .int .i64 M2.d, .int .i64 M2.r, .bool M2.ok, .string M2.txt, .slice A2 n1 c2] 45)) := (Below.refl _ _).alloc (Nat.le_refl _) _
      generalize w10.alloc (.cells #[.int .i64 M2.kind, .int .i64 M2.a, .int .i64 M2.b, .int .i64 M2.c, .int .i64 M2.d, .int .i64 M2.r, .bool M2.ok, .string M2.txt, .slice A2 n1 c2] 45) = W11 at KZ bz ⊢
      have D11 : Below W9.heap.size W9 W11 := b10.trans (bz.mono b10.size)
      have E11 : Below w7.heap.size w7 W11 := below_of D11 HD9.out HD9.out.size
      have HG11 : Hid (Below wr.heap.size wr W11) := below_of E11 HD7.out HD7.out.size
      have HKX := Lib.hid (HKX7.out.below E11)
      have HP11 := Lib.hid (own_frm HP7.out (S := no) (Frm.of_below E11) (fun _ _ h => h))
      have HM11 : Hid (∀ y ∈ ys, y.mine W11 w.heap.size) := fun y hy => (HM7.out y hy).below E11
      have HKY11 := Lib.hid (HKY.out.below D11)
      have HO11 := Lib.hid (own_frm HO1.out (S := no) (Frm.of_below D11) (fun _ _ h => h))
      have HM1' : Hid (∀ x ∈ M1.es, x.mine W11 w.heap.size) := fun x hx => (HM1.out x hx).below D11
      have HKZ := Lib.hid KZ
      have HR11 := Lib.hid (own_frm ho2 (S := no) (Frm.of_below bz) (fun _ _ h => h))
      have HM2 : Hid (∀ x ∈ M2.es, x.mine W11 w.heap.size) := fun x hx => ((hm2 x hx).below bz).mine.low (by have := HD9.out.size; have := HD7.out.size; have := HBW.out.size; omega)
      have HN2 := Lib.hid hn2
      have HP2 : Hid (M1.pl = M2.pl) := HP1.out.trans hp2.symm
      have y8 := (HKY11.out).cell 8
      have hADD := addEn_more w.heap.size wc.heap.size N f fw v1 v2 V Y A1 n1 c1 M1.es W11 (HK.out.below HG11.out) (by omega) (by have := HG11.out.size; have := HBW.out.size; omega) HM1'.out HN1.out (by omega) (own_base HO11.out (by have := HD7.out.size; have := HBW.out.size; omega)) (fun i x p hx hp hp2 => by
        have h1 := (HK.out.rV.lt i x p hx hp).2
        have h2 := (HO11.out.lt p hp2).1
        have := HD7.out.size
        omega)
      have HADD := Lib.hid hADD
      clear hADD KZ bz b10 D11 E11 ho2 hm2 hn2 hp2 HKX7 HP7 HM7 HKY HO1 HM1
      go_upto_region 18 with (first
        | (go_at_call 13; with_reducible refine HADD.out.mono ?_; rintro e w12 ⟨rfl, ⟨v1', v2', yv, zs, k12, hv1', hv2', hyv, hpz, hmz, hT⟩, F12⟩
           have HK12 := Lib.hid k12
           have HT := Lib.hid hT
           have HF12 := Lib.hid F12
           have HV1' := Lib.hid hv1'
           have HV2' := Lib.hid hv2'
           have HPZ := Lib.hid hpz
           have HMZ := Lib.hid hmz
           have HKX12 := Lib.hid (HKX.out.frm_ty F12 hT (by decide))
           have KY12 := HKY11.out.frm_ty F12 hT (by decide)
           have KZ12 := HKZ.out.frm_ty F12 hT (by decide)
           have HKM12 := Lib.hid ((HKR.out.below HG11.out).frm_ty F12 hT (by decide))
           have HP12 := Lib.hid (own_frm_ty HP11.out F12 hT (by decide))
           have HO12 := Lib.hid (own_frm_ty HO11.out F12 hT (by decide))
           have HR12 := Lib.hid (own_frm_ty HR11.out F12 hT (by decide))
           have HM12 : Hid (∀ y ∈ ys, y.mine w12 w.heap.size) := fun y hy => (HM11.out y hy).frm F12 hT (by decide)
           have HM112 : Hid (∀ x ∈ M1.es, x.mine w12 w.heap.size) := fun x hx => (HM1'.out x hx).frm F12 hT (by decide)
           have HM212 : Hid (∀ x ∈ M2.es, x.mine w12 w.heap.size) := fun x hx => (HM2.out x hx).frm F12 hT (by decide)
           have HAL12 : Hid (AlikeEn w12 w.heap.size (N + 1) (fun j => if j = N then M1.es else f j) (fun j => if j = N then zs else fw j)) := ((HAL.out.below HG11.out).frm F12 hT (by decide)).more hpz HM112.out hmz
           have HD12 : Hid (Below wc.heap.size wc w12) := (HB.out.trans (HG11.out.mono HB.out.size)).trans (F12.below (by have := HG11.out.size; have := HB.out.size; omega) (fun i hi => by
             rcases hi with h | h | h
             · omega
             · exact HV1.out i h
             · exact HV2.out i h))
           have HS12 := Lib.hid (sameM_yes M1 M2 A1 A2 n1 c1 c2 w12 HP2.out (Rd.of_own HO12.out) (Rd.of_own HR12.out) HN1.out (by omega) (fun x hx => (HM112.out x hx).has) (fun x hx => (HM212.out x hx).has))
           unfold Ms.v msgV at HS12
           clear k12 hT F12 hv1' hv2' hpz hmz hyv y8
           have y0 := KY12.cell 0
           have y1 := KY12.cell 1
           have y2 := KY12.cell 2
           have y3 := KY12.cell 3
           have y4 := KY12.cell 4
           have y5 := KY12.cell 5
           have y6 := KY12.cell 6
           have y7 := KY12.cell 7
           have y8 := KY12.cell 8
           have z0 := KZ12.cell 0
           have z1 := KZ12.cell 1
           have z2 := KZ12.cell 2
           have z3 := KZ12.cell 3
           have z4 := KZ12.cell 4
           have z5 := KZ12.cell 5
           have z6 := KZ12.cell 6
           have z7 := KZ12.cell 7
           have z8 := KZ12.cell 8
           clear KY12 KZ12)
        | (go_at_call 14; with_reducible refine HS12.out.mono ?_; rintro e w13 ⟨rfl, b13⟩
           have x8 := (HKX12.out.below b13).cell 8
           have a8 := (HKM12.out.below b13).cell 8
           have B13 := below_of (below_of b13 HD12.out HD12.out.size) HBC.out HBC.out.size
           have HST := Lib.hid (staysEn_any A g3 n c3 c ys m.es w13 (Rd.of_own (own_frm HP12.out (S := no) (Frm.of_below b13) (fun _ _ h => h))) (HR.out.below B13) HN3.out HC3.out (by omega) HP3.out (fun x hx => ((HM12.out x hx).below b13).has) (fun x hx => (HHAS.out x hx).below B13)))
        | (go_at_call 15; with_reducible refine HST.out.mono ?_; rintro e w14 ⟨rfl, q14⟩))
      have b14 : Below w12.heap.size w12 w14 := b13.trans ((q14.below _).mono b13.size)
      have HB14 := Lib.hid b14
      have HF' : Hid (∀ i, ((fun j => if j = N then M1.es else f j) i).length ≤ 255) := fun i => by
        by_cases hc : i = N
        · simp only [hc, if_true]; have := HN1.out; omega
        · simp only [hc, if_false]; exact HF.out i
      have HV1'' : Hid (∀ p, v1'.ownBlock = some p → wc.heap.size ≤ p) := fun p hp => by
        rcases HV1'.out p hp with h | h
        · exact HV1.out p h
        · have := HG11.out.size; have := HB.out.size; omega
      have HV2'' : Hid (∀ p, v2'.ownBlock = some p → wc.heap.size ≤ p) := fun p hp => by
        rcases HV2'.out p hp with h | h
        · exact HV2.out p h
        · have := HG11.out.size; have := HB.out.size; omega
      clear y0 y1 y2 y3 y4 y5 y6 y7 y8 z0 z1 z2 z3 z4 z5 z6 z7 z8
      clear x8 a8 b13 q14 b14 B13 HST HS12 HP12 HO12 HR12 HM12 HM112 HM212 HKX12 HADD HR11 HM2 HM1' HO11 HKY11 HM11 HP11 HKX HKZ HV1' HV2' HT HF12
      by_cases hq0 : q = 0
      · subst hq0
        obtain ⟨he0, hr0⟩ := errM_back HTQ.out (fun x hx => (HL.out x hx).2.1)
        have hts := layM_size' HTQ.out
        have hok : okM T = m.pl := by unfold okM; rw [if_pos he0, hr0]; rfl
        have hRT := fun W => mread_any T W (by omega)
        rw [he0, hok] at hRT
        unfold Ms.v msgV at hRT
        have HRT := Lib.hid hRT
        clear he0 hr0 hts hok hRT
        go_upto_region 20 with (go_at_call 11; with_reducible refine (HRT.out _).mono ?_; rintro e w15 ⟨M3, A3, n3, c4, rfl, hp4, hn4, ho4, hm4, b15⟩)
        have KS := Blk.new w15 24 #[.int .i64 M3.kind, .int .i64 M3.a, .int .i64 M3.b, .int .i64 M3.c, .int .i64 M3.d, .int .i64 M3.r, .bool M3.ok, .string M3.txt, .slice A3 n3 c4]
        have bs_ : Below w15.heap.size w15 (w15.alloc (.cells #[.int .i64 M3.kind, .int .i64 M3.a, .int .i64 M3.b, .int .i64 M3.c, .int .i64 M3.d, .int .i64 M3.r, .bool M3.ok, .string M3.txt, .slice A3 n3 c4] 24)) := (Below.refl _ _).alloc (Nat.le_refl _) _
        generalize w15.alloc (.cells #[.int .i64 M3.kind, .int .i64 M3.a, .int .i64 M3.b, .int .i64 M3.c, .int .i64 M3.d, .int .i64 M3.r, .bool M3.ok, .string M3.txt, .slice A3 n3 c4] 24) = W16 at KS bs_ ⊢
        have C16 : Below w12.heap.size w12 W16 := below_of (b15.trans (bs_.mono b15.size)) HB14.out HB14.out.size
        have KM16 := HKM12.out.below C16
        have HC16 := Lib.hid C16
        have B16 := below_of (below_of C16 HD12.out HD12.out.size) HBC.out HBC.out.size
        have O16 := Rd.of_own (own_frm ho4 (S := no) (Frm.of_below bs_) (fun _ _ h => h))
        have hn12'' : n3 ≤ 12 := by have h1 := pl_len hp4; have h2 : m.pl.es.length = m.es.length := by unfold Ms.pl; rw [List.length_map]
                                    have := HN.out; omega
        have hSM : ∀ r : NewM W16, Calls Tryz.prog 14 #[.agg #[.int .i64 M3.kind, .int .i64 M3.a, .int .i64 M3.b, .int .i64 M3.c, .int .i64 M3.d, .int .i64 M3.r, .bool M3.ok, .string M3.txt, .slice A3 n3 c4], .agg #[.int .i64 m.kind, .int .i64 m.a, .int .i64 m.b, .int .i64 m.c, .int .i64 m.d, .int .i64 m.r, .bool m.ok, .string m.txt, .slice A n c]] r.w' fun e w' => e = .returned (.bool true) ∧ Below r.w'.heap.size r.w' w' := fun r => by
          have h3 : n3 = n := by have h1 := pl_len hp4; have h2 : m.pl.es.length = m.es.length := by unfold Ms.pl; rw [List.length_map]
                                 have := HN.out; omega
          subst h3
          exact sameM_yes M3 m A3 A n3 c4 c r.w' hp4 (O16.below r.h) ((HR.out.below B16).below r.h) hn4 (by omega) (fun x hx => (((hm4 x hx).below bs_).mine.has).below r.h) (fun x hx => ((HHAS.out x hx).below B16).below r.h)
        have HSM := Lib.hid hSM
        have s0 := NewM.cell (KS.cell 0)
        have s1 := NewM.cell (KS.cell 1)
        have s2 := NewM.cell (KS.cell 2)
        have s3 := NewM.cell (KS.cell 3)
        have s4 := NewM.cell (KS.cell 4)
        have s5 := NewM.cell (KS.cell 5)
        have s6 := NewM.cell (KS.cell 6)
        have s7 := NewM.cell (KS.cell 7)
        have s8 := NewM.cell (KS.cell 8)
        have a0 := NewM.cell (KM16.cell 0)
        have a1 := NewM.cell (KM16.cell 1)
        have a2 := NewM.cell (KM16.cell 2)
        have a3 := NewM.cell (KM16.cell 3)
        have a4 := NewM.cell (KM16.cell 4)
        have a5 := NewM.cell (KM16.cell 5)
        have a6 := NewM.cell (KM16.cell 6)
        have a7 := NewM.cell (KM16.cell 7)
        have a8 := NewM.cell (KM16.cell 8)
        clear hSM KS KM16 bs_ C16 B16 O16 hp4 hn4 ho4 hm4 b15 hn12''
        refine wp_region_quiet_new (by kernel_rfl) (by kernel_rfl) ?_
        repeat (go_big_quiet_step (first
          | (go_at_call 10; with_reducible exact NewM.call (HPL.out _))
          | (go_at_call 14; with_reducible exact NewM.call (HSM.out _))))
        refine wpQuiet_nil ?_
        rintro _ ⟨rr, rfl⟩
        go_wp2
        have C17 := below_of rr.h HC16.out HC16.out.size
        go_roundw
        case rel => exact ⟨N + 1, v1', v2', _, _, _, _, by omega, by go_num, HK12.out.below C17, HAL12.out.below C17, HF'.out, HV1''.out, HV2''.out, below_of C17 HD12.out HD12.out.size⟩
        case measure => simp [intOf]; omega
      · have hq1 : decide (q = 0) = false := decide_eq_false hq0
        have hq2 : (q == 0) = false := by simp [hq0]
        go_wp2
        go_roundw
        case rel => exact ⟨N + 1, v1', v2', _, _, _, _, by omega, by go_num, HK12.out.below HB14.out, HAL12.out.below HB14.out, HF'.out, HV1''.out, HV2''.out, below_of HB14.out HD12.out HD12.out.size⟩
        case measure => simp [intOf]; omega
    · obtain rfl : N = 2 := by omega
      clear KR
      go_wp2_with (go_at_call 16; refine (apartEn_any w.heap.size wc.heap.size 2 (fun i => (f i).length) f fw v1 v2 V Y wr HK.out (fun i hi => ⟨(HAL.out i hi).1, fun x hx => ((HAL.out i hi).2.1 x hx).has, fun y hy => ((HAL.out i hi).2.2 y hy).has⟩) (by omega) (fun _ => rfl) (fun i => by have := HF.out i; omega) HBW.out.size).mono ?_; rintro e w11 ⟨rfl, F11⟩
                   have B11 := HBW.out.trans (F11.below HBW.out.size (fun i hi => by obtain ⟨j, x, hx, hq⟩ := hi; exact (HK.out.rV.lt j x i hx hq).1)))
      go_ret
      exact ⟨rfl, B11⟩
end Go.Proofs.YtgigkekajdgngaaGreat
