/-
  Where Find of items finds a key. Conditions: the items are right; no more than a million.
-/
import Derived.Test.YtldkhhipfoeckaaItemLay
import Derived.Test.YtldkhhipfoeckaaLaySearch
namespace Go.Proofs.Ytldkhhipfoeckaa
open Go Go.RowKit
attribute [local go_sem] cell_set_if

theorem enters_body {P : Program} {f : FuncId} {fn : Func} {c : Code} (hf : P.funcs[f]? = some fn) (hname : (fn.name == "runtime.NumGoroutine") = false) (hb : fn.body = some c) (args : Array Value) (w : World) :
    (callFunc f args).run P w = .ok (.enter f args) w := by
  have h1 : fn.name ≠ "runtime.NumGoroutine" := by simpa using hname
  simp [callFunc, hf, h1, hb]
/-- Where what rises begins to be so. -/
theorem boundary (n : Nat) (p : Nat → Bool) (hm : ∀ a b, a ≤ b → b < n → p a = true → p b = true) : ∃ r, r ≤ n ∧ (∀ t, t < r → p t = false) ∧ (∀ t, r ≤ t → t < n → p t = true) := by
  induction n with
  | zero => exact ⟨0, by omega, fun t h => by omega, fun t h k => by omega⟩
  | succ n ih =>
    obtain ⟨r, h1, h2, h3⟩ := ih fun a b hab hb => hm a b hab (by omega)
    cases hp : p n
    · refine ⟨n + 1, by omega, fun t ht => ?_, fun t h k => by omega⟩
      cases hq : p t
      · rfl
      · have := hm t n (by omega) (by omega) hq; rw [hp] at this; cases this
    · refine ⟨r, by omega, h2, fun t h k => ?_⟩
      by_cases hc : t < n
      · exact h3 t h hc
      · obtain rfl : t = n := by omega
        exact hp
theorem count_boundary (n : Nat) (p : Nat → Bool) (r : Nat) (h1 : r ≤ n) (h2 : ∀ t, t < r → p t = false) (h3 : ∀ t, r ≤ t → t < n → p t = true) : (List.range n).countP (fun i => !p i) = r := by
  have hr : ∀ t, t < n → (List.range n)[t]! = t := fun t ht => by rw [getElem!_pos _ t (by simpa using ht)]; simp
  refine Lib.countP_boundary _ (List.range n) r (by simpa using h1) (fun t ht => ?_) (fun t h4 h5 => ?_)
  · rw [hr t (by omega), h2 t ht]; rfl
  · rw [hr t (by simpa using h5), h3 t h4 (by simpa using h5)]; rfl
/-- Is the item at this place not below the key? -/
def fromK (ks : List Im) (key : ByteArray) (i : Nat) : Bool := match ks[i]? with
  | some x => !ltB x.key key
  | none => true
theorem fromK_at {ks : List Im} {key : ByteArray} {i : Nat} {x : Im} (h : ks[i]? = some x) : fromK ks key i = !ltB x.key key := by unfold fromK; rw [h]
theorem fromK_mono {ks : List Im} (hR : RightI ks) (key : ByteArray) (a b : Nat) (hab : a ≤ b) (hb : b < ks.length) (h : fromK ks key a = true) : fromK ks key b = true := by
  have ea : ks[a]? = some ks[a] := List.getElem?_eq_getElem (by omega)
  have eb : ks[b]? = some ks[b] := List.getElem?_eq_getElem hb
  rw [fromK_at ea] at h
  rw [fromK_at eb]
  by_cases hc : a = b
  · subst hc; exact h
  · cases h2 : ltB (ks[b]).key key
    · rfl
    · have := ltB_trans (hR.lt ea eb (by omega)) h2
      rw [this] at h; cases h
theorem findI_of {ks : List Im} {key : ByteArray} {r : Nat} (h1 : r ≤ ks.length) (h2 : ∀ t, t < r → fromK ks key t = false) (h3 : ∀ t, r ≤ t → t < ks.length → fromK ks key t = true) : FindI ks key r :=
  ⟨h1, fun t y ht hy => by have := h2 t ht; rw [fromK_at hy] at this; simpa using this, fun t y ht hy => by have := h3 t ht (List.getElem?_eq_some_iff.1 hy).1; rw [fromK_at hy] at this; simpa using this⟩

set_option maxHeartbeats 1000000 in
theorem iclos_any (A : Option Addr) (n c : Nat) (ks : List Im) (key : ByteArray) (g2 g3 i : Nat) (w : World) (h2 : w.cell? ⟨g2, 0, none⟩ = some (.slice A n c)) (h3 : w.cell? ⟨g3, 0, none⟩ = some (.string key))
    (hr : Rd w A (flatI ks)) (hn : ks.length = n) (hi : i < n) :
    Calls Try.prog 134 #[.int .i64 i, .pointer (some ⟨g2, 0, none⟩), .pointer (some ⟨g3, 0, none⟩)] w fun e w' => e = .returned (.bool (fromK ks key i)) ∧ ∃ q, w' = w.drewN q := by
  obtain ⟨b, o, x, rfl, _, hx, d0, _, _⟩ := hr.item (k := i) (by omega)
  have hcmp := geq_eq x.key key
  rw [fromK_at hx, ← hcmp]
  have hin : (i : Int) < (n : Int) := by omega
  clear hcmp hx hr
  cases h1 : Op.bytesLess x.key.toList key.toList
  all_goals
    go_enter Try.func134, Try.ntmps134
    go_wp2
    go_quiet (fail)
    go_wp2
    go_ret
    exact ⟨ret_bool (by simp [h1]), _, rfl⟩
set_option maxHeartbeats 1000000 in
theorem ifind_any (A : Option Addr) (n c : Nat) (ks : List Im) (key : ByteArray) (w : World) (hr : Rd w A (flatI ks)) (hn : ks.length = n) (hm : n ≤ 1000000) (hR : RightI ks) (r : Nat) (hf : FindI ks key r) :
    Calls Try.prog 69 #[.slice A n c, .string key] w fun e w' => e = .returned (.tuple #[.int .i64 r, .bool (hasI ks key r)]) ∧ Below w.heap.size w w' := by
  have hB1 : Below w.heap.size w (w.alloc (.cells #[.slice A n c] 96)) := (Below.refl _ _).alloc (Nat.le_refl _) _
  have hB2 : Below w.heap.size w ((w.alloc (.cells #[.slice A n c] 96)).alloc (.cells #[.string key] 9)) := hB1.alloc hB1.size _
  have K2 : Blk ((w.alloc (.cells #[.slice A n c] 96)).alloc (.cells #[.string key] 9)) w.heap.size 96 #[.slice A n c] := (Blk.new _ _ _).alloc _
  have K3 : Blk ((w.alloc (.cells #[.slice A n c] 96)).alloc (.cells #[.string key] 9)) (w.heap.size + 1) 9 #[.string key] := by
    have := Blk.new (w.alloc (.cells #[.slice A n c] 96)) 9 #[.string key]
    simpa using this
  have hS : Calls Try.prog 122 #[.int .i64 n, .func (.func 134) #[] #[.pointer (some ⟨w.heap.size, 0, none⟩), .pointer (some ⟨w.heap.size + 1, 0, none⟩)]] ((w.alloc (.cells #[.slice A n c] 96)).alloc (.cells #[.string key] 9)) fun e w' => e = .returned (.int .i64 r) ∧ Below ((w.alloc (.cells #[.slice A n c] 96)).alloc (.cells #[.string key] 9)).heap.size ((w.alloc (.cells #[.slice A n c] 96)).alloc (.cells #[.string key] 9)) w' := by
    have hc : (List.range n).countP (fun i => !fromK ks key i) = r := count_boundary n _ r (by rw [← hn]; exact hf.le)
      (fun t ht => by
        have e : ks[t]? = some (ks[t]'(by have := hf.le; omega)) := List.getElem?_eq_getElem _
        rw [fromK_at e, hf.lo t _ ht e]; rfl)
      (fun t h1 h2 => by
        have e : ks[t]? = some (ks[t]'(by omega)) := List.getElem?_eq_getElem _
        rw [fromK_at e, hf.hi t _ h1 e]; rfl)
    have := search_any 134 #[.pointer (some ⟨w.heap.size, 0, none⟩), .pointer (some ⟨w.heap.size + 1, 0, none⟩)] n (fromK ks key) _ (fun args w => enters_body Try.func134 (by kernel_rfl) rfl args w) (by omega)
      (fun m os i hi => by
        refine (iclos_any A n c ks key w.heap.size (w.heap.size + 1) i _ ?_ ?_ ?_ hn hi).mono ?_
        · exact cell_b (below_grown_sl _ _ m os (Nat.le_refl _)) (K2.cell 0)
        · exact cell_b (below_grown_sl _ _ m os (Nat.le_refl _)) (K3.cell 0)
        · exact (hr.below hB2).below (below_grown_sl _ _ m os (Nat.le_refl _))
        · rintro e w' ⟨he, q, hq⟩
          exact ⟨he, q, #[], by rw [Sort.grow_empty, hq]⟩)
      (fun a b hab hb h => fromK_mono hR key a b hab (by omega) h)
    rwa [hc] at this
  have hrn : r ≤ n := by rw [← hn]; exact hf.le
  have HS := Lib.hid hS
  have hrI : (r : Int) ≤ 1000000 := by omega
  have hnI : (n : Int) ≤ 1000000 := by omega
  have hbig := hr.below hB2
  by_cases hlt : r < n
  · obtain ⟨b, o, x, rfl, hbb, hx, d0, _, _⟩ := hbig.item (k := r) (by omega)
    rw [hasI_at hx]
    have hlti : (r : Int) < (n : Int) := by omega
    clear hS hr hn hR hf hB1 hbig hx
    cases hq : (x.key.toList == key.toList)
    all_goals
      go_enter Try.func69, Try.ntmps69
      go_wp2_with (go_at_call 122; refine HS.out.mono ?_; rintro e w1 ⟨rfl, b1⟩; have B1 := below_of b1 hB2 hB2.size; have k21 := cell_b b1 (K2.cell 0); have k31 := cell_b b1 (K3.cell 0); have d1 := cell_b b1 d0)
      go_quiet (fail)
      go_wp2
      go_ret2
      exact ⟨rfl, below_drewN B1 _⟩
  · obtain rfl : r = n := by omega
    rw [hasI_no (by omega)]
    clear hS hr hn hR hf hB1 hbig
    have hq : decide (r < r) = false := by simp
    go_enter Try.func69, Try.ntmps69
    go_wp2_with (go_at_call 122; refine HS.out.mono ?_; rintro e w1 ⟨rfl, b1⟩; have B1 := below_of b1 hB2 hB2.size; have k21 := cell_b b1 (K2.cell 0); have k31 := cell_b b1 (K3.cell 0))
    go_quiet (fail)
    go_wp2
    go_ret2
    exact ⟨rfl, below_drewN B1 _⟩
theorem findI_ex {ks : List Im} (hR : RightI ks) (key : ByteArray) : ∃ r, FindI ks key r := by
  obtain ⟨r, h1, h2, h3⟩ := boundary ks.length (fromK ks key) (fromK_mono hR key)
  exact ⟨r, findI_of h1 h2 h3⟩
end Go.Proofs.Ytldkhhipfoeckaa
