/-
  Entries lent with room behind them, in which a mark stands; and that stay as they were. Condition: no more than a hundred thousand.
-/
import Derived.Test.YtgigkekajdgngaaGreatEntsB
namespace Go.Proofs.YtgigkekajdgngaaGreat
open Go Go.RowKit
attribute [local go_sem] cell_set_if

def lentMarkEn : En := ⟨-77, 0, 0, 0, none, 0, 0, []⟩
theorem Rd.pre {w : World} {A : Option Addr} {xs ys : List Value} (h : Rd w A (xs ++ ys)) : Rd w A xs := fun j x hx => h j x (by rw [List.getElem?_append_left (List.getElem?_eq_some_iff.1 hx).1]; exact hx)
/-- A lent list: n entries that tell the same, and one behind them. -/
inductive LentEn (base : Nat) (e : Ending) (w' : World) (ks : List En) : Prop
  | mk (g n c : Nat) (ys : List En) (hn : ys.length = n) (hc : n + 1 ≤ c) (he : e = .returned (.slice (some ⟨g, 0, none⟩) n c)) (hp : ys.map plE = ks.map plE) (hm : ∀ y ∈ ys, y.mine w' base) (ho : w'.ownsRow base 61 5 (.slice (some ⟨g, 0, none⟩) (n + 1) c) (n + 1) (flatEn (ys ++ [lentMarkEn]))) : LentEn base e w' ks
set_option maxRecDepth 100000 in
set_option maxHeartbeats 2000000 in
theorem lentEn_any (A : Option Addr) (n c : Nat) (ks : List En) (w : World) (hr : Rd w A (flatEn ks)) (hn : ks.length = n) (hn1 : n ≤ 100000) (hh : ∀ x ∈ ks, x.has w) :
    Calls Tryz.prog 7 #[.slice A n c] w fun e w' => LentEn w.heap.size e w' ks ∧ Below w.heap.size w w' := by
  obtain ⟨i0, hi0, hz0, hz1, hz2⟩ := info_parts enInfo
  have HC := Lib.hid (copyEn_any A n c ks w hr hn hn1 hh)
  have HN := Lib.hid hn
  have hnn : (n : Int) ≤ 100000 := by omega
  have HX : ∀ ys : List En, Hid (flatEn ys ++ [.int .i64 (-77), .int .i64 0, .int .i64 0, .int .i64 0, .slice none 0 0] = flatEn (ys ++ [lentMarkEn])) := fun ys => by unfold Hid; rw [flatEn_app]; rfl
  clear hr hn hh
  go_enter Tryz.func7, Tryz.ntmps7
  go_wp2_with (first
    | (go_at_call 25; with_reducible refine HC.out.mono ?_; rintro e w1 ⟨⟨A1, n1, c1, ys, hn1', rfl, ho1, hp1, hm1⟩, b1⟩
       obtain rfl : n1 = n := by have := congrArg List.length hp1; have := HN.out; simp only [List.length_map] at *; omega)
    | (at_builtin
       refine wpList_app rfl (.tmp 4) (.tmp 6) 22 rfl w.heap.size 61 i0 _ 5 56 Tryz.underlying22 hi0 hz0 hz1 hz2 rfl (by omega) (.slice A1 n1 c1) n1 (flatEn ys) rfl (ho1.alloc _) _ 1 1 _ rfl (Rd.new w1 _ 61) rfl (by simp [Value.oneCell']) (by unfold maxLen; omega) (by omega) (by have := b1.size; simp; omega) ?_
       intro v5 w5 hown5 hg5 hb5 hat5
       have F5 : Frm (fun k => (Value.slice A1 n1 c1).ownBlock = some k) w1 w5 := ((Frm.refl _ w1).alloc _).grown hg5 (fun k hk _ => hk)
       have T5 : TyS w1 (fun k => (Value.slice A1 n1 c1).ownBlock = some k) [61] := fun k _ hk => ⟨_, by simp, own_ty ho1 hk⟩
       have M5 : ∀ y ∈ ys, y.mine w5 w.heap.size := fun y hy => (hm1 y hy).frm F5 T5 (by decide)
       rw [(HX ys).out] at hown5
       obtain ⟨g5, c5, rfl, _, _⟩ := hown5.form (by omega)
       have hc5 : n1 + 1 ≤ c5 := by obtain ⟨A6, c6, hv6, h6⟩ := own_form hown5; injection hv6 with _ _ e6; omega
       have hc5i : (n1 : Int) ≤ (c5 : Int) := by omega))
  go_ret
  exact ⟨⟨g5, n1, c5, ys, hn1', hc5, rfl, hp1, M5, hown5⟩, (b1.alloc b1.size _).trans hb5⟩
set_option maxRecDepth 100000 in
set_option maxHeartbeats 1000000 in
theorem staysEn_any (A : Option Addr) (g n c d : Nat) (ys ks : List En) (w : World) (ha : Rd w (some ⟨g, 0, none⟩) (flatEn (ys ++ [lentMarkEn]))) (hb : Rd w A (flatEn ks)) (hn : ys.length = n) (hc : n + 1 ≤ c) (hn1 : n ≤ 100000) (hp : ys.map plE = ks.map plE) (h1 : ∀ x ∈ ys, x.has w) (h2 : ∀ x ∈ ks, x.has w) :
    Calls Tryz.prog 15 #[.slice (some ⟨g, 0, none⟩) n c, .slice A n d] w fun e w' => e = .returned (.bool true) ∧ Qt w w' := by
  have ha1 : Rd w (some ⟨g, 0, none⟩) (flatEn ys) := by rw [flatEn_app] at ha; exact ha.pre
  obtain ⟨b, o, x, hA, _, hx, x1, _, _, _, _⟩ := ha.en (k := n) (by rw [List.length_append, hn]; simp)
  injection hA with hA
  injection hA with e1 e2
  subst e1 e2
  rw [List.getElem?_append_right (by omega), hn, Nat.sub_self, List.getElem?_cons_zero] at hx
  injection hx with hx
  subst hx
  rw [Nat.zero_add] at x1
  have HS := Lib.hid (sameens_yes (some ⟨g, 0, none⟩) A n c d ys ks w ha1 hb hn (by omega) hp h1 h2)
  have hcc : (n : Int) + 1 ≤ (c : Int) := by omega
  have hnn : (n : Int) ≤ 100000 := by omega
  have x2 : w.cell? ⟨g, n * 5, none⟩ = some (.int .i64 (-77)) := x1
  clear ha hb hn ha1 x1 hp h1 h2
  go_enter Tryz.func15, Tryz.ntmps15
  go_wp2_with (go_at_call 48; (with_reducible refine HS.out.mono ?_); rintro e w1 ⟨rfl, k1, h1⟩; subst h1)
  go_ret
  exact ⟨rfl, Qt.drewN _ _⟩
set_option maxRecDepth 100000 in
set_option maxHeartbeats 4000000 in
theorem samereq_yes (client seq : Int) (A B : Option Addr) (n c d : Nat) (l : List Cm) (w : World) (ha : Rd w A (flatCm l)) (hb : Rd w B (flatCm l)) (hn : l.length = n) (hm : n ≤ 1000000) :
    Calls Tryz.prog 47 #[.agg #[.int .i64 client, .int .i64 seq, .slice A n c], .agg #[.int .i64 client, .int .i64 seq, .slice B n d]] w fun e w' => e = .returned (.bool true) ∧ Below w.heap.size w w' := by
  have ba : Below w.heap.size w ((w.alloc (.cells #[.int .i64 client, .int .i64 seq, .slice A n c] 59)).alloc (.cells #[.int .i64 client, .int .i64 seq, .slice B n d] 59)) := ((Below.refl _ _).alloc (Nat.le_refl _) _).alloc (by simp) _
  have K1 := (Blk.new w 59 #[.int .i64 client, .int .i64 seq, .slice A n c]).alloc (.cells #[.int .i64 client, .int .i64 seq, .slice B n d] 59)
  have K2 : Blk ((w.alloc (.cells #[.int .i64 client, .int .i64 seq, .slice A n c] 59)).alloc (.cells #[.int .i64 client, .int .i64 seq, .slice B n d] 59)) (w.heap.size + 1) 59 #[.int .i64 client, .int .i64 seq, .slice B n d] := by
    have := Blk.new (w.alloc (.cells #[.int .i64 client, .int .i64 seq, .slice A n c] 59)) 59 #[.int .i64 client, .int .i64 seq, .slice B n d]
    simpa using this
  have HA := Lib.hid (ha.below ba)
  have HB := Lib.hid (hb.below ba)
  have HN := Lib.hid hn
  have hnn : (n : Int) ≤ 1000000 := by omega
  have q1 : (client != client) = false := by simp
  have q2 : (seq != seq) = false := by simp
  have q3 : ((n : Int) != (n : Int)) = false := by simp
  clear ha hb hn
  go_enter Tryz.func47, Tryz.ntmps47
  go_upto_region 1 with fail
  have HBA := Lib.hid ba
  generalize (w.alloc (.cells #[.int .i64 client, .int .i64 seq, .slice A n c] 59)).alloc (.cells #[.int .i64 client, .int .i64 seq, .slice B n d] 59) = W at ba K1 K2 HA HB HBA ⊢
  have a0 := K1.cell 0
  have a1 := K1.cell 1
  have a2 := K1.cell 2
  have b0 := K2.cell 0
  have b1 := K2.cell 1
  have b2 := K2.cell 2
  have HK1 := Lib.hid K1
  have HK2 := Lib.hid K2
  clear K1 K2 ba
  go_wp2
  go_loopw [4, 5] (fun u4 u5 wr => ∃ k : Nat, k ≤ n ∧ u5 = .int .i64 k ∧ Qt W wr) (fun _ u5 _ => n - (intOf u5).toNat)
  case atStart => exact ⟨0, by omega, rfl, Qt.refl _⟩
  case round =>
    clear a0 a1 a2 b0 b1 b2
    obtain ⟨k, hk, rfl, hQ⟩ := hrel
    have hqc : ∀ p, wr.cell? p = W.cell? p := fun p => by obtain ⟨m, rfl⟩ := hQ; rfl
    have a2 : wr.cell? ⟨w.heap.size, 2, none⟩ = some (.slice A n c) := by rw [hqc]; exact HK1.out.cell 2
    have b2 : wr.cell? ⟨w.heap.size + 1, 2, none⟩ = some (.slice B n d) := by rw [hqc]; exact HK2.out.cell 2
    by_cases hlt : k < n
    · obtain ⟨b1, o1, x, rfl, _, hx, d0, d1, d2, d3, d4⟩ := HA.out.cm (k := k) (by have := HN.out; omega)
      obtain ⟨b2', o2, y, rfl, _, hy, e0, e1, e2, e3, e4⟩ := HB.out.cm (k := k) (by have := HN.out; omega)
      obtain rfl : y = x := Option.some.inj (hy.symm.trans hx)
      rw [← hqc] at d0 d1 d2 d3 d4 e0 e1 e2 e3 e4
      have hki : (k : Int) < (n : Int) := by omega
      have h0 : (y.kind == y.kind) = true := by simp
      have h1 : (y.path.toList == y.path.toList) = true := by simp
      have h2 : (y.key.toList == y.key.toList) = true := by simp
      have h3 : (y.val.toList == y.val.toList) = true := by simp
      have h4 : (y.old.toList == y.old.toList) = true := by simp
      clear hx hy hqc
      go_wp2
      go_quiet (fail)
      go_wp2
      go_roundw
      case rel => exact ⟨k + 1, by omega, by go_num, hQ.trans (Qt.drewN _ _)⟩
      case measure => simp [intOf]; omega
    · obtain rfl : k = n := by omega
      clear hqc
      go_wp2
      go_ret
      exact ⟨rfl, HBA.out.trans ((hQ.below _).mono HBA.out.size)⟩
end Go.Proofs.YtgigkekajdgngaaGreat
