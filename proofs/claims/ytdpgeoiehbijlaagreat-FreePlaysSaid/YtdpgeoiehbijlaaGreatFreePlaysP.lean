/-
  What FreePlays holds: the program's list, the document's, the book, each in memory of its own; Light; of a nil list. No condition of its own.
-/
import Derived.Test.YtdpgeoiehbijlaaGreatFreeRC
import Derived.Test.YtdpgeoiehbijlaaGreatFreeRD
import Derived.Test.YtdpgeoiehbijlaaGreatFreeJ
import Derived.Test.YtdpgeoiehbijlaaGreatFreeW
import Derived.Test.YtdpgeoiehbijlaaGreatFreeWaitsP
import Derived.Test.YtdpgeoiehbijlaaGreatBookIntsE
import Derived.Test.YtdpgeoiehbijlaaGreatBookIntsL
import Derived.Test.YtdpgeoiehbijlaaGreatOne
namespace Go.Proofs.YtdpgeoiehbijlaaGreat
open Go Go.RowKit
attribute [local go_sem] cell_set_if

/-- All blocks of a book. -/
def bookAll (g : Nat) (b1 b2 : Value) (V W : List Value) (q : Nat) : Prop := bookS g b1 b2 q ∨ VS V q ∨ VS W q
theorem RowsZ.vs_lt {w : World} {base N : Nat} {V : List Value} {f : Nat → List Int} (h : RowsZ w base V N f) {q : Nat} (hq : VS V q) : base ≤ q ∧ q < w.heap.size := by
  obtain ⟨i, x, hx, hxq⟩ := hq
  exact h.lt i x q hx hxq
theorem BookZ.all_lt {base g N : Nat} {w : World} {f : Nat → List Int} {v1 v2 : Value} {V W : List Value} (h : BookZ base w g N f v1 v2 V W) {q : Nat} (hq : bookAll g v1 v2 V W q) : base ≤ q ∧ q < w.heap.size := by
  rcases hq with (rfl | hq | hq) | hq | hq
  · exact ⟨h.lo, h.B.lt⟩
  · exact h.r1.lt q hq
  · exact h.r2.lt q hq
  · exact h.rV.vs_lt hq
  · exact h.rW.vs_lt hq
theorem BookZ.frm {base g N : Nat} {w w' : World} {f : Nat → List Int} {v1 v2 : Value} {V W : List Value} {S : Nat → Prop} (h : BookZ base w g N f v1 v2 V W) (k : Frm S w w') (hS : ∀ q, bookAll g v1 v2 V W q → ¬ S q) : BookZ base w' g N f v1 v2 V W :=
  ⟨h.lo, h.B.frm k (hS g (.inl (.inl rfl))), own_frm h.r1 k (fun q hq => hS q (.inl (.inr (.inl hq)))), own_frm h.r2 k (fun q hq => hS q (.inl (.inr (.inr hq)))),
    h.rV.frm k (fun i x b hx hb => hS b (.inr (.inl ⟨i, x, hx, hb⟩))), h.rW.frm k (fun i x b hx hb => hS b (.inr (.inr ⟨i, x, hx, hb⟩))), h.ap, h.ne⟩
/-- What the law holds; E are other blocks that are to stay. -/
structure PlaysAt (B : Nat) (w : World) (E : Nat → Prop) (sx sr : Fs) (gx : Nat) (v1 v2 : Value) (gr : Nat) (u1 u2 : Value) (gb N : Nat) (f : Nat → List Int) (b1 b2 : Value) (V W : List Value) : Prop where
  x : FreeAt w B gx sx v1 v2
  r : FreeDoc w B gr sr u1 u2
  b : BookZ B w gb N f b1 b2 V W
  ox : sx.ok
  od : sr.ok
  xr : ∀ q, mineF gx v1 v2 q → ¬ mineF gr u1 u2 q
  xb : ∀ q, mineF gx v1 v2 q → ¬ bookAll gb b1 b2 V W q
  rb : ∀ q, mineF gr u1 u2 q → ¬ bookAll gb b1 b2 V W q
  xe : ∀ q, mineF gx v1 v2 q → ¬ E q
  re : ∀ q, mineF gr u1 u2 q → ¬ E q
  el : ∀ q, E q → q < w.heap.size
  fl : ∀ i, (f i).length ≤ 4000
section
variable {B : Nat} {w w' : World} {E E' : Nat → Prop} {sx sr s' : Fs} {gx : Nat} {v1 v2 v1' v2' : Value} {gr : Nat} {u1 u2 u1' u2' : Value} {gb N : Nat} {f : Nat → List Int} {b1 b2 : Value} {V W : List Value}
theorem PlaysAt.ext (h : PlaysAt B w E sx sr gx v1 v2 gr u1 u2 gb N f b1 b2 V W) (k : Below w.heap.size w w') (hE : ∀ q, E' q → E q ∨ (w.heap.size ≤ q ∧ q < w'.heap.size)) : PlaysAt B w' E' sx sr gx v1 v2 gr u1 u2 gb N f b1 b2 V W :=
  ⟨h.x.below k, h.r.below k, h.b.below k, h.ox, h.od, h.xr, h.xb, h.rb, fun q hq he => by
    rcases hE q he with h1 | h1
    · exact h.xe q hq h1
    · have := (h.x.mine_lt q hq).2; omega, fun q hq he => by
    rcases hE q he with h1 | h1
    · exact h.re q hq h1
    · have := (h.r.mine_lt q hq).2; omega, fun q he => by
    rcases hE q he with h1 | h1
    · exact Nat.lt_of_lt_of_le (h.el q h1) k.size
    · exact h1.2, h.fl⟩
theorem PlaysAt.below (h : PlaysAt B w E sx sr gx v1 v2 gr u1 u2 gb N f b1 b2 V W) (k : Below w.heap.size w w') : PlaysAt B w' E sx sr gx v1 v2 gr u1 u2 gb N f b1 b2 V W := h.ext k fun _ hq => .inl hq
theorem PlaysAt.less (h : PlaysAt B w E sx sr gx v1 v2 gr u1 u2 gb N f b1 b2 V W) (hE : ∀ q, E' q → E q) : PlaysAt B w E' sx sr gx v1 v2 gr u1 u2 gb N f b1 b2 V W := h.ext (Below.refl _ _) fun q hq => .inl (hE q hq)
theorem PlaysAt.turnX (h : PlaysAt B w E sx sr gx v1 v2 gr u1 u2 gb N f b1 b2 V W) (F : FreeAt w' B gx s' v1' v2') (ok : s'.ok) (T : TurnF gx v1 v2 w v1' v2' w') : PlaysAt B w' E s' sr gx v1' v2' gr u1 u2 gb N f b1 b2 V W := by
  refine ⟨F, h.r.frm T.frm fun q hr hx => h.xr q hx hr, h.b.frm T.frm fun q hb hx => h.xb q hx hb, ok, h.od, fun q hq hr => ?_, fun q hq hb => ?_, h.rb, fun q hq he => ?_, h.re, fun q he => Nat.lt_of_lt_of_le (h.el q he) T.frm.size, h.fl⟩
  · rcases T.own q hq with h1 | h1
    · exact h.xr q h1 hr
    · have := (h.r.mine_lt q hr).2; omega
  · rcases T.own q hq with h1 | h1
    · exact h.xb q h1 hb
    · have := (h.b.all_lt hb).2; omega
  · rcases T.own q hq with h1 | h1
    · exact h.xe q h1 he
    · have := h.el q he; omega
theorem PlaysAt.turnR (h : PlaysAt B w E sx sr gx v1 v2 gr u1 u2 gb N f b1 b2 V W) (F : FreeDoc w' B gr s' u1' u2') (ok : s'.ok) (T : TurnF gr u1 u2 w u1' u2' w') : PlaysAt B w' E sx s' gx v1 v2 gr u1' u2' gb N f b1 b2 V W := by
  refine ⟨h.x.frm T.frm fun q hx hr => h.xr q hx hr, F, h.b.frm T.frm fun q hb hr => h.rb q hr hb, h.ox, ok, fun q hx hq => ?_, h.xb, fun q hq hb => ?_, h.xe, fun q hq he => ?_, fun q he => Nat.lt_of_lt_of_le (h.el q he) T.frm.size, h.fl⟩
  · rcases T.own q hq with h1 | h1
    · exact h.xr q hx h1
    · have := (h.x.mine_lt q hx).2; omega
  · rcases T.own q hq with h1 | h1
    · exact h.rb q h1 hb
    · have := (h.b.all_lt hb).2; omega
  · rcases T.own q hq with h1 | h1
    · exact h.re q h1 he
    · have := h.el q he; omega
/-- The copy takes the list's place. -/
theorem PlaysAt.swap {gy : Nat} {y1 y2 : Value} (h : PlaysAt B w (mineF gy y1 y2) sx sr gx v1 v2 gr u1 u2 gb N f b1 b2 V W) (hy : FreeAt w B gy s' y1 y2) (ok : s'.ok) (eb : ∀ q, mineF gy y1 y2 q → ¬ bookAll gb b1 b2 V W q) : PlaysAt B w no s' sr gy y1 y2 gr u1 u2 gb N f b1 b2 V W :=
  ⟨hy, h.r, h.b, ok, h.od, fun q hy hr => h.re q hr hy, eb, h.rb, fun _ _ h => h, fun _ _ h => h, fun _ h => h.elim, h.fl⟩
theorem PlaysAt.size (h : PlaysAt B w E sx sr gx v1 v2 gr u1 u2 gb N f b1 b2 V W) : B ≤ w.heap.size := by have := h.x.mine_lt gx (.inl rfl); omega
/-- A list is kept. -/
theorem PlaysAt.adds (h : PlaysAt B w E sx sr gx v1 v2 gr u1 u2 gb N f b1 b2 V W) {A : Option Addr} {n c : Nat} {xs : List Int} (hN : N < 250) (hn : xs.length = n) (hn4 : n ≤ 4000) (ho : w.ownsRow B 3 1 (.slice A n c) n (flatZ xs))
    (hV : ∀ q, (Value.slice A n c).ownBlock = some q → ¬ VS V q) (hE : ∀ q, (Value.slice A n c).ownBlock = some q → E q) :
    Calls Tryz.prog 21 #[.pointer (some ⟨gb, 0, none⟩), .slice A n c] w fun e w' => e = .returned (.tuple #[]) ∧ (∃ b1' b2' y, PlaysAt B w' E sx sr gx v1 v2 gr u1 u2 gb (N + 1) (fun j => if j = N then xs else f j) b1' b2' (V ++ [.slice A n c]) (W ++ [y])) ∧ Frm (bookS gb b1 b2) w w' ∧ TyS w (bookS gb b1 b2) [49, 22, 22] := by
  refine (addZ_more B gb N f b1 b2 V W A n c xs w h.b hN h.size hn (by omega) ho (fun i x b hx hb hq => hV b hq ⟨i, x, hx, hb⟩)).mono fun e w' ⟨he, ⟨b1', b2', y, hB, l1, l2, l3⟩, F⟩ => ?_
  have hT : TyS w (bookS gb b1 b2) [49, 22, 22] := TyS.three h.b.B h.b.r1 h.b.r2
  have hall : ∀ q, bookAll gb b1' b2' (V ++ [.slice A n c]) (W ++ [y]) q → bookAll gb b1 b2 V W q ∨ E q ∨ w.heap.size ≤ q := by
    intro q hq
    rcases hq with (hq | hq | hq) | hq | hq
    · exact .inl (.inl (.inl hq))
    · rcases l1 q hq with h1 | h1
      · exact .inl (.inl (.inr (.inl h1)))
      · exact .inr (.inr h1)
    · rcases l2 q hq with h1 | h1
      · exact .inl (.inl (.inr (.inr h1)))
      · exact .inr (.inr h1)
    · obtain ⟨i, x, hx, hxq⟩ := hq
      by_cases hi : i < V.length
      · rw [List.getElem?_append_left hi] at hx
        exact .inl (.inr (.inl ⟨i, x, hx, hxq⟩))
      · have hi' : i = V.length := by have := (List.getElem?_eq_some_iff.1 hx).1; simp at this; omega
        subst hi'
        rw [List.getElem?_append_right (Nat.le_refl _), Nat.sub_self] at hx
        injection hx with hx
        subst hx
        exact .inr (.inl (hE q hxq))
    · obtain ⟨i, x, hx, hxq⟩ := hq
      by_cases hi : i < W.length
      · rw [List.getElem?_append_left hi] at hx
        exact .inl (.inr (.inr ⟨i, x, hx, hxq⟩))
      · have hi' : i = W.length := by have := (List.getElem?_eq_some_iff.1 hx).1; simp at this; omega
        subst hi'
        rw [List.getElem?_append_right (Nat.le_refl _), Nat.sub_self] at hx
        injection hx with hx
        subst hx
        exact .inr (.inr (l3 q hxq))
  refine ⟨he, ⟨b1', b2', y, h.x.frm_ty F hT (by decide) (by decide) (by decide), h.r.frm_ty F hT (by decide) (by decide) (by decide), hB, h.ox, h.od, h.xr, fun q hx hb => ?_, fun q hr hb => ?_, h.xe, h.re, fun q he => Nat.lt_of_lt_of_le (h.el q he) F.size, fun i => ?_⟩, F, hT⟩
  · rcases hall q hb with h1 | h1 | h1
    · exact h.xb q hx h1
    · exact h.xe q hx h1
    · have := (h.x.mine_lt q hx).2; omega
  · rcases hall q hb with h1 | h1 | h1
    · exact h.rb q hr h1
    · exact h.re q hr h1
    · have := (h.r.mine_lt q hr).2; omega
  · by_cases hi : i = N
    · rw [if_pos hi]; omega
    · rw [if_neg hi]; exact h.fl i
end
/-- Are acts few and short enough? -/
def lightF (os : List OpF) : Bool := decide (os.length ≤ 50) && (os.take 100).all fun o => decide (o.n ≤ 60)
theorem lightF_bad {os : List OpF} {k : Nat} {x : OpF} (hx : os[k]? = some x) (hk : k < 100) (h : 60 < x.n) : lightF os = false := by
  unfold lightF
  rw [Bool.and_eq_false_iff]
  refine .inr ?_
  rw [List.all_eq_false]
  exact ⟨x, List.mem_of_getElem? (i := k) (by rw [List.getElem?_take, if_pos hk]; exact hx), by simp; omega⟩
theorem lightF_all {os : List OpF} (h : ∀ (j : Nat) x, j < os.length → j < 100 → os[j]? = some x → x.n ≤ 60) : lightF os = decide (os.length ≤ 50) := by
  unfold lightF
  rw [show ((os.take 100).all fun o => decide (o.n ≤ 60)) = true from List.all_eq_true.2 fun x hx => ?_, Bool.and_true]
  obtain ⟨j, hj⟩ := List.mem_iff_getElem?.1 hx
  have hjl := (List.getElem?_eq_some_iff.1 hj).1
  rw [List.length_take] at hjl
  rw [List.getElem?_take, if_pos (by omega)] at hj
  exact decide_eq_true (h j x (by omega) (by omega) hj)
set_option maxRecDepth 100000 in
set_option maxHeartbeats 1000000 in
theorem lightF_any (A : Option Addr) (n c : Nat) (os : List OpF) (w : World) (hr : Rd w A (flatF os)) (hn : os.length = n) (hm : n ≤ 9223372036854775807) :
    Calls Tryz.prog 4 #[.slice A n c] w fun e w' => e = .returned (.bool (lightF os)) ∧ w' = w := by
  have HR := Lib.hid hr
  have HN := Lib.hid hn
  have hni : (n : Int) ≤ 9223372036854775807 := by omega
  clear hr hn
  go_enter Tryz.func4, Tryz.ntmps4
  go_wp2
  go_loopw [3] (fun u3 wr => ∃ k : Nat, k ≤ n ∧ k ≤ 100 ∧ u3 = .int .i64 k ∧ Hid (∀ (j : Nat) x, j < k → os[j]? = some x → x.n ≤ 60) ∧ wr = w) (fun u3 _ => n - (intOf u3).toNat)
  case atStart => exact ⟨0, by omega, by omega, rfl, fun j x hj => by omega, rfl⟩
  case round =>
    obtain ⟨k, hk, hk100, rfl, HO, rfl⟩ := hrel
    by_cases hlt : k < n ∧ k < 100
    · obtain ⟨hlt, hk1⟩ := hlt
      obtain ⟨b1, o1, x, rfl, _, hx, _, _, d2⟩ := HR.out.opf (k := k) (by have := HN.out; omega)
      have hki : (k : Int) < (n : Int) := by omega
      have hk1i : (k : Int) < 100 := by omega
      by_cases h60 : 60 < x.n
      · have HL := Lib.hid (lightF_bad hx hk1 h60)
        have h60i : 60 < (x.n : Int) := by omega
        clear hx
        go_wp2
        go_ret
        exact ⟨by (rw [HL.out]) <;> rfl, rfl⟩
      · have HX : Hid (∀ (j : Nat) y, j < k + 1 → os[j]? = some y → y.n ≤ 60) := fun j y hj hy => by
          by_cases e : j = k
          · subst e; rw [hx] at hy; rw [← Option.some.inj hy]; omega
          · exact HO.out j y (by omega) hy
        have h60i : (x.n : Int) ≤ 60 := by omega
        clear hx
        go_wp2
        go_roundw
        case rel => exact ⟨k + 1, by omega, by omega, by go_num, HX, by first | rfl | trivial⟩
        case measure => simp [intOf]; omega
    · have HL : Hid (lightF os = decide (n ≤ 50)) := by
        unfold Hid
        rw [← HN.out]
        exact lightF_all fun j x hj hj1 hx => HO.out j x (by have := HN.out; omega) hx
      by_cases hkn : k < n
      · have hd : decide ((k : Int) < (n : Int)) = true := decide_eq_true (by omega)
        have hd1 : decide ((k : Int) < 100) = false := decide_eq_false (by omega)
        have hd2 : decide ((n : Int) ≤ 50) = false := decide_eq_false (by omega)
        have hd3 : decide (n ≤ 50) = false := decide_eq_false (by omega)
        go_wp2
        go_ret
        exact ⟨by (rw [HL.out, hd3]) <;> rfl, rfl⟩
      · obtain rfl : n = k := by omega
        have hd : decide ((n : Int) < (n : Int)) = false := decide_eq_false (by omega)
        have HD : Hid (decide (n ≤ 50) = decide ((n : Int) ≤ 50)) := by unfold Hid; rw [Bool.eq_iff_iff]; simp; omega
        go_wp2
        go_ret
        exact ⟨by (rw [HL.out, HD.out]) <;> rfl, rfl⟩
theorem ftake_nil (n : Int) (w : World) : Calls Tryz.prog 11 #[.pointer none, .int .i64 n] w fun e w' => e = .returned (.tuple #[.int .i64 0, .int .i64 1]) ∧ w' = w := by
  go_enter Tryz.func11, Tryz.ntmps11
  go_wp2
  go_ret2
  exact ⟨rfl, rfl⟩
theorem fgive_nil (n : Int) (v : Value) (w : World) : Calls Tryz.prog 13 #[.pointer none, .int .i64 n, v] w fun e w' => e = .returned (.int .i64 0) ∧ w' = w := by
  go_enter Tryz.func13, Tryz.ntmps13
  go_wp2
  go_ret
  exact ⟨rfl, rfl⟩
theorem frel_nil (n : Int) (w : World) : Calls Tryz.prog 15 #[.pointer none, .int .i64 n] w fun e w' => e = .returned (.int .i64 0) ∧ Below w.heap.size w w' := by
  go_enter Tryz.func15, Tryz.ntmps15
  go_wp2
  go_ret
  exact ⟨rfl, (Below.refl _ _).alloc (Nat.le_refl _) _⟩
theorem fpages_nil (w : World) : Calls Tryz.prog 25 #[.pointer none] w fun e w' => e = .returned (.int .i64 0) ∧ w' = w := by
  go_enter Tryz.func25, Tryz.ntmps25
  go_wp2
  go_ret
  exact ⟨rfl, rfl⟩
theorem fall_nil (w : World) : Calls Tryz.prog 20 #[.pointer none] w fun e w' => e = .returned (.slice none 0 0) ∧ w' = w := by
  go_enter Tryz.func20, Tryz.ntmps20
  go_wp2
  go_ret
  exact ⟨rfl, rfl⟩
end Go.Proofs.YtdpgeoiehbijlaaGreat
