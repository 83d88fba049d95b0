/-
  Where Find of children finds a key. Conditions: the children are right; no more than a million.
-/
import Derived.Test.YtldkhhipfoeckaaGreatKidFindP
import Derived.Test.YtldkhhipfoeckaaGreatKidLay
import Derived.Test.YtldkhhipfoeckaaGreatLaySearch
namespace Go.Proofs.YtldkhhipfoeckaaGreat
open Go Go.RowKit
attribute [local go_sem] cell_set_if

theorem enters_body {P : Program} {f : FuncId} {fn : Func} {c : Code} (hf : P.funcs[f]? = some fn) (hname : (fn.name == "runtime.NumGoroutine") = false) (hb : fn.body = some c) (args : Array Value) (w : World) :
    (callFunc f args).run P w = .ok (.enter f args) w := by
  have h1 : fn.name ≠ "runtime.NumGoroutine" := by simpa using hname
  simp [callFunc, hf, h1, hb]
/-- Where what rises begins to be so. -/
theorem boundary (n : Nat) (p : Nat → Bool) (hm : ∀ a b, a ≤ b → b < n → p a = true → p b = true) : ∃ r, r ≤ n ∧ (∀ t, t < r → p t = false) ∧ (∀ t, r ≤ t → t < n → p t = true) := by
  induction n with
  | zero => exact ⟨0, by omega, fun t h => by omega, fun t h k => by omega⟩
  | succ n ih =>
    obtain ⟨r, h1, h2, h3⟩ := ih fun a b hab hb => hm a b hab (by omega)
    cases hp : p n
    · refine ⟨n + 1, by omega, fun t ht => ?_, fun t h k => by omega⟩
      cases hq : p t
      · rfl
      · have := hm t n (by omega) (by omega) hq; rw [hp] at this; cases this
    · refine ⟨r, by omega, h2, fun t h k => ?_⟩
      by_cases hc : t < n
      · exact h3 t h hc
      · obtain rfl : t = n := by omega
        exact hp
theorem count_boundary (n : Nat) (p : Nat → Bool) (r : Nat) (h1 : r ≤ n) (h2 : ∀ t, t < r → p t = false) (h3 : ∀ t, r ≤ t → t < n → p t = true) : (List.range n).countP (fun i => !p i) = r := by
  have hr : ∀ t, t < n → (List.range n)[t]! = t := fun t ht => by rw [getElem!_pos _ t (by simpa using ht)]; simp
  refine Lib.countP_boundary _ (List.range n) r (by simpa using h1) (fun t ht => ?_) (fun t h4 h5 => ?_)
  · rw [hr t (by omega), h2 t ht]; rfl
  · rw [hr t (by simpa using h5), h3 t h4 (by simpa using h5)]; rfl
/-- Is the child at this place above the key? -/
def aboveK (ks : List Kd) (key : ByteArray) (i : Nat) : Bool := match ks[i]? with
  | some x => ltB key x.key
  | none => true
theorem aboveK_at {ks : List Kd} {key : ByteArray} {i : Nat} {x : Kd} (h : ks[i]? = some x) : aboveK ks key i = ltB key x.key := by unfold aboveK; rw [h]
theorem aboveK_mono {ks : List Kd} (hR : RightK ks) (key : ByteArray) (a b : Nat) (hab : a ≤ b) (hb : b < ks.length) (h : aboveK ks key a = true) : aboveK ks key b = true := by
  have ea : ks[a]? = some ks[a] := List.getElem?_eq_getElem (by omega)
  have eb : ks[b]? = some ks[b] := List.getElem?_eq_getElem hb
  rw [aboveK_at ea] at h
  rw [aboveK_at eb]
  by_cases hc : a = b
  · subst hc; exact h
  · exact ltB_trans h (hR.lt ea eb (by omega))
theorem findK_of {ks : List Kd} {key : ByteArray} {r : Nat} (h1 : r ≤ ks.length) (h2 : ∀ t, t < r → aboveK ks key t = false) (h3 : ∀ t, r ≤ t → t < ks.length → aboveK ks key t = true) : FindK ks key r :=
  ⟨h1, fun t y ht hy => by have := h2 t ht; rwa [aboveK_at hy] at this, fun t y ht hy => by have := h3 t ht (List.getElem?_eq_some_iff.1 hy).1; rwa [aboveK_at hy] at this⟩

set_option maxHeartbeats 1000000 in
theorem kclos_any (A : Option Addr) (n c : Nat) (ks : List Kd) (key : ByteArray) (g2 g3 i : Nat) (w : World) (h2 : w.cell? ⟨g2, 0, none⟩ = some (.slice A n c)) (h3 : w.cell? ⟨g3, 0, none⟩ = some (.string key))
    (hr : Rd w A (flatK ks)) (hn : ks.length = n) (hi : i < n) :
    Calls Tryz.prog 126 #[.int .i64 i, .pointer (some ⟨g2, 0, none⟩), .pointer (some ⟨g3, 0, none⟩)] w fun e w' => e = .returned (.bool (aboveK ks key i)) ∧ ∃ q, w' = w.drewN q := by
  obtain ⟨b, o, x, rfl, _, hx, d0, _⟩ := hr.kid (k := i) (by omega)
  have hcmp := gtr_eq x.key key
  rw [aboveK_at hx, ← hcmp]
  have hin : (i : Int) < (n : Int) := by omega
  clear hcmp hx hr
  cases h1 : Op.bytesLess x.key.toList key.toList <;> cases h4 : (x.key.toList == key.toList)
  all_goals
    go_enter Tryz.func126, Tryz.ntmps126
    go_wp2
    go_quiet (fail)
    go_wp2
    go_ret
    exact ⟨ret_bool (by simp [h1, h4]), _, rfl⟩
set_option maxHeartbeats 1000000 in
theorem kfind_any (A : Option Addr) (n c : Nat) (ks : List Kd) (key : ByteArray) (w : World) (hr : Rd w A (flatK ks)) (hn : ks.length = n) (hm : n ≤ 1000000) (hR : RightK ks) (r : Nat) (hf : FindK ks key r) :
    Calls Tryz.prog 90 #[.slice A n c, .string key] w fun e w' => e = .returned (.int .i64 (findV n r)) ∧ Below w.heap.size w w' := by
  have hB1 : Below w.heap.size w (w.alloc (.cells #[.slice A n c] 52)) := (Below.refl _ _).alloc (Nat.le_refl _) _
  have hB2 : Below w.heap.size w ((w.alloc (.cells #[.slice A n c] 52)).alloc (.cells #[.string key] 9)) := hB1.alloc hB1.size _
  have K2 : Blk ((w.alloc (.cells #[.slice A n c] 52)).alloc (.cells #[.string key] 9)) w.heap.size 52 #[.slice A n c] := (Blk.new _ _ _).alloc _
  have K3 : Blk ((w.alloc (.cells #[.slice A n c] 52)).alloc (.cells #[.string key] 9)) (w.heap.size + 1) 9 #[.string key] := by
    have := Blk.new (w.alloc (.cells #[.slice A n c] 52)) 9 #[.string key]
    simpa using this
  have hS : Calls Tryz.prog 96 #[.int .i64 n, .func (.func 126) #[] #[.pointer (some ⟨w.heap.size, 0, none⟩), .pointer (some ⟨w.heap.size + 1, 0, none⟩)]] ((w.alloc (.cells #[.slice A n c] 52)).alloc (.cells #[.string key] 9)) fun e w' => e = .returned (.int .i64 r) ∧ Below ((w.alloc (.cells #[.slice A n c] 52)).alloc (.cells #[.string key] 9)).heap.size ((w.alloc (.cells #[.slice A n c] 52)).alloc (.cells #[.string key] 9)) w' := by
    have hc : (List.range n).countP (fun i => !aboveK ks key i) = r := count_boundary n _ r (by rw [← hn]; exact hf.le)
      (fun t ht => by
        have e : ks[t]? = some (ks[t]'(by have := hf.le; omega)) := List.getElem?_eq_getElem _
        rw [aboveK_at e]; exact hf.lo t _ ht e)
      (fun t h1 h2 => by
        have e : ks[t]? = some (ks[t]'(by omega)) := List.getElem?_eq_getElem _
        rw [aboveK_at e]; exact hf.hi t _ h1 e)
    have := search_any 126 #[.pointer (some ⟨w.heap.size, 0, none⟩), .pointer (some ⟨w.heap.size + 1, 0, none⟩)] n (aboveK ks key) _ (fun args w => enters_body Tryz.func126 (by kernel_rfl) rfl args w) (by omega)
      (fun m os i hi => by
        refine (kclos_any A n c ks key w.heap.size (w.heap.size + 1) i _ ?_ ?_ ?_ hn hi).mono ?_
        · exact cell_b (below_grown_sl _ _ m os (Nat.le_refl _)) (K2.cell 0)
        · exact cell_b (below_grown_sl _ _ m os (Nat.le_refl _)) (K3.cell 0)
        · exact (hr.below hB2).below (below_grown_sl _ _ m os (Nat.le_refl _))
        · rintro e w' ⟨he, q, hq⟩
          exact ⟨he, q, #[], by rw [Sort.grow_empty, hq]⟩)
      (fun a b hab hb h => aboveK_mono hR key a b hab (by omega) h)
    rwa [hc] at this
  have hrn : r ≤ n := by rw [← hn]; exact hf.le
  have HS := Lib.hid hS
  have hrI : (r : Int) ≤ 1000000 := by omega
  have hnI : (n : Int) ≤ 1000000 := by omega
  have k2 := K2.cell 0
  clear hS hr hn hR hf K3 hB1
  by_cases h0 : r = 0
  · subst h0
    by_cases hn0 : 0 < n
    · have hv : findV n 0 = 0 := if_pos ⟨rfl, hn0⟩
      rw [hv]
      have hn0' : (0 : Int) < (n : Int) := by omega
      go_enter Tryz.func90, Tryz.ntmps90
      go_wp2_with (go_at_call 96; refine HS.out.mono ?_; rintro e w1 ⟨rfl, b1⟩; have B1 := below_of b1 hB2 hB2.size; have k21 := cell_b b1 (K2.cell 0))
      go_ret
      exact ⟨rfl, B1⟩
    · obtain rfl : n = 0 := by omega
      have hv : findV 0 0 = -1 := rfl
      rw [hv]
      go_enter Tryz.func90, Tryz.ntmps90
      go_wp2_with (go_at_call 96; refine HS.out.mono ?_; rintro e w1 ⟨rfl, b1⟩; have B1 := below_of b1 hB2 hB2.size; have k21 := cell_b b1 (K2.cell 0))
      go_ret
      exact ⟨rfl, B1⟩
  · have hv : findV n r = (r : Int) - 1 := if_neg (fun h => h0 h.1)
    rw [hv]
    have hr1 : (1 : Int) ≤ (r : Int) := by omega
    have hr2 : decide ((r : Int) - 1 < 0) = false := by simp; omega
    clear h0 hv
    go_enter Tryz.func90, Tryz.ntmps90
    go_wp2_with (go_at_call 96; refine HS.out.mono ?_; rintro e w1 ⟨rfl, b1⟩; have B1 := below_of b1 hB2 hB2.size; have k21 := cell_b b1 (K2.cell 0))
    go_ret
    exact ⟨rfl, B1⟩
end Go.Proofs.YtldkhhipfoeckaaGreat
