/-
  The two logs of the law HistJoins while they are joined: what the log's calls give. Conditions: those of the log.
-/
import Derived.Test.YtcmjijlegmdebaaHistJoin
import Derived.Test.YtcmjijlegmdebaaHistTrimsW
namespace Go.Proofs.Ytcmjijlegmdebaa
open Go Go.RowKit

/-- The two logs while they are joined. -/
structure Two (w wr : World) (g1 g2 : Nat) (xs ys : List Int) (va vb : Value) : Prop where
  a : LogAt wr w.heap.size g1 0 0 (mkE 0 xs) va
  b : LogAt wr w.heap.size g2 0 0 (mkE 0 ys) vb
  B : Below w.heap.size w wr
  s : Aside g1 va g2 vb
theorem Two.qt {w wr wr' : World} {g1 g2 : Nat} {xs ys : List Int} {va vb : Value} (h : Two w wr g1 g2 xs ys va vb) (q : Qt wr wr') : Two w wr' g1 g2 xs ys va vb := ⟨h.a.qt q, h.b.qt q, below_qt' h.B q, h.s⟩
theorem Two.below {w wr wr' : World} {g1 g2 : Nat} {xs ys : List Int} {va vb : Value} (h : Two w wr g1 g2 xs ys va vb) (q : Below wr.heap.size wr wr') : Two w wr' g1 g2 xs ys va vb := ⟨h.a.below q, h.b.below q, below_of q h.B h.B.size, h.s⟩
section
variable {w wr : World} {g1 g2 : Nat} {xs ys : List Int} {va vb : Value}
theorem Two.last1 (h : Two w wr g1 g2 xs ys va vb) (n : Int) (hn : (xs.length : Int) = n) : Calls Try.prog 21 #[.pointer (some ⟨g1, 0, none⟩)] wr fun e w' => e = .returned (.int .i64 n) ∧ Qt wr w' :=
  (last_any _ _ _ _ _ _ _ h.a).mono fun e w' ⟨h1, h2⟩ => ⟨by rw [h1, mkE_len, hn, Int.zero_add], h2⟩
theorem Two.last2 (h : Two w wr g1 g2 xs ys va vb) : Calls Try.prog 21 #[.pointer (some ⟨g2, 0, none⟩)] wr fun e w' => e = .returned (.int .i64 ys.length) ∧ Qt wr w' :=
  (last_any _ _ _ _ _ _ _ h.b).mono fun e w' ⟨h1, h2⟩ => ⟨by rw [h1, mkE_len, Int.zero_add], h2⟩
theorem Two.term1 (h : Two w wr g1 g2 xs ys va vb) (p : Nat) (hp : p ≤ xs.length) (t : Int) (ht : tmOf 0 xs p = t) : Calls Try.prog 29 #[.pointer (some ⟨g1, 0, none⟩), .int .i64 p] wr fun e w' => e = .returned (.tuple #[.int .i64 t, .bool true]) ∧ Qt wr w' := by
  have := term_any _ _ _ _ _ _ _ (p : Int) h.a
  rw [termE_mk, if_pos hp, ht] at this; exact this
theorem Two.term2 (h : Two w wr g1 g2 xs ys va vb) (p : Nat) (hp : p ≤ ys.length) (t : Int) (ht : tmOf 0 ys p = t) : Calls Try.prog 29 #[.pointer (some ⟨g2, 0, none⟩), .int .i64 p] wr fun e w' => e = .returned (.tuple #[.int .i64 t, .bool true]) ∧ Qt wr w' := by
  have := term_any _ _ _ _ _ _ _ (p : Int) h.b
  rw [termE_mk, if_pos hp, ht] at this; exact this
theorem Two.term1' (h : Two w wr g1 g2 xs ys va vb) (p : Nat) (i : Int) (hi : (p : Int) = i) (hp : p ≤ xs.length) (t : Int) (ht : tmOf 0 xs p = t) : Calls Try.prog 29 #[.pointer (some ⟨g1, 0, none⟩), .int .i64 i] wr fun e w' => e = .returned (.tuple #[.int .i64 t, .bool true]) ∧ Qt wr w' := by
  rw [← hi]; exact h.term1 p hp t ht
theorem Two.term2' (h : Two w wr g1 g2 xs ys va vb) (p : Nat) (i : Int) (hi : (p : Int) = i) (hp : p ≤ ys.length) (t : Int) (ht : tmOf 0 ys p = t) : Calls Try.prog 29 #[.pointer (some ⟨g2, 0, none⟩), .int .i64 i] wr fun e w' => e = .returned (.tuple #[.int .i64 t, .bool true]) ∧ Qt wr w' := by
  rw [← hi]; exact h.term2 p hp t ht
theorem Two.slice (h : Two w wr g1 g2 xs ys va vb) (p : Nat) (hp : p ≤ xs.length) (bt : Int) (n : Nat) (hn : ((xs.drop p).take bt.toNat).length = n) (h80 : xs.length ≤ 80) : Calls Try.prog 33 #[.pointer (some ⟨g1, 0, none⟩), .int .i64 (p + 1), .int .i64 bt] wr fun e w' =>
    ∃ A c, e = .returned (.slice A n c) ∧ n ≤ c ∧ w'.ownsRow wr.heap.size 74 5 (.slice A n c) n (flatE (mkE p ((xs.drop p).take n))) ∧ Below wr.heap.size wr w' := by
  refine (slice_any _ _ _ _ _ _ _ ((p : Int) + 1) bt h.a (mkE_nil _ _) (by rw [mkE_len]; omega) (by rw [mkE_len]; omega)).mono ?_
  rintro e w' ⟨A, m, c, rfl, hm, hmc, hown, hb⟩
  rw [sliceE_mk xs p bt hp] at hm hown
  rw [mkE_len, hn] at hm
  subst hm
  rw [take_len xs p bt.toNat m hn] at hown
  exact ⟨A, c, rfl, hmc, hown, hb⟩
theorem Two.back (h : Two w wr g1 g2 xs ys va vb) (p : Nat) (hp : 1 ≤ p) (m t : Int) (hm : min ((p : Int) - 1) ys.length = m) : Calls Try.prog 34 #[.pointer (some ⟨g2, 0, none⟩), .int .i64 m, .int .i64 t] wr fun e w' => (∃ q : Nat, e = .returned (.int .i64 q) ∧ q + 1 ≤ p) ∧ Qt wr w' :=
  (back_any _ _ _ _ _ _ _ m t h.b).mono fun e w' ⟨h1, h2⟩ => by
    obtain ⟨q, hq, hq2⟩ := backV_mk ys p hp t
    rw [hm] at hq
    exact ⟨⟨q, by rw [h1, hq], hq2⟩, h2⟩
theorem Two.no (h : Two w wr g1 g2 xs ys va vb) (p : Nat) (t : Int) (l : Value) (hno : ¬ (p ≤ ys.length ∧ tmOf 0 ys p = t)) : Calls Try.prog 35 #[.pointer (some ⟨g2, 0, none⟩), .int .i64 p, .int .i64 t, l] wr fun e w' => e = .returned (.tuple #[.int .i64 0, .slice none 0 0, .bool false]) ∧ Qt wr w' := by
  refine join_no _ _ _ _ _ _ _ h.b p t l ?_
  rw [hasB_mk, mkE_len]
  by_cases hp : p ≤ ys.length
  · exact .inr ⟨by omega, decide_eq_false hno⟩
  · exact .inl (by omega)
/-- What is none of the log's. -/
def Off (g : Nat) (v : Value) (u : Value) : Prop := ∀ r, u.ownBlock = some r → ¬ mine g v r
theorem off_turn {w w' : World} {g B : Nat} {v v' u : Value} {n : Nat} {zs : List Value} (hO : w.ownsRow B 74 5 u n zs) (hF : Off g v u) (hT : Turn g v w v' w') : w'.ownsRow B 74 5 u n zs ∧ Off g v' u :=
  ⟨own_frm hO hT.frm hF, fun r hr hm => by
    rcases hT.ofmine r hm with h | h
    · exact hF r hr h
    · have := (hO.lt r hr).2; omega⟩
/-- The entries that follow are appended. -/
theorem Two.app (h : Two w wr g1 g2 xs ys va vb) (hu : Up 0 xs) (q m : Nat) (hy : ys = xs.take q) (hl : ys.length = q) (hq : q + m ≤ xs.length) (hm : 1 ≤ m) (h80 : xs.length ≤ 80) (A : Option Addr) (c B : Nat) (hO : wr.ownsRow B 74 5 (.slice A m c) m (flatE (mkE q ((xs.drop q).take m)))) (hF : Off g2 vb (.slice A m c)) :
    Calls Try.prog 27 #[.pointer (some ⟨g2, 0, none⟩), .slice A m c] wr fun e w' => e = .returned (.int .i64 0) ∧ ∃ vb', Two w w' g1 g2 xs (ys ++ (xs.drop q).take m) va vb' := by
  obtain ⟨r, c', hf, hr1, hr2⟩ := hO.form (by omega)
  injection hf with hA _ hc
  subst hA hc
  have hb := (hO.lt r rfl).1
  obtain ⟨f1, f2, f3⟩ := rises_cut (m := m) hu (by omega) hy hl
  have hF' := hF r rfl
  refine (append_turn _ _ _ _ _ _ _ h.b r 0 m c (mkE q ((xs.drop q).take m)) (tmOf (tmOf 0 xs q) ((xs.drop q).take m)) (fun j x hx => ?_) (by rw [mkE_len, List.length_take, List.length_drop]; omega) f1 f2 hr2 (fun hk => hF' (.inl hk)) (fun hk => hF' (.inr hk)) (by rw [mkE_len]; omega)).mono ?_
  · obtain ⟨ad, had, hc⟩ := (Rd.of_own hO) j x hx
    injection had with had; subst had
    rw [add_flat] at hc; exact hc
  · rintro e w' ⟨h1, vb', h2, h3, h4⟩
    rw [f3] at h2
    have hx := h.a.turn h.s h4
    exact ⟨h1, vb', hx.1, h2, below_frm h.B h4.frm (Nat.le_refl _) fun k hk => (h.b.mine_lt k hk).1, hx.2⟩
theorem Two.app0 (h : Two w wr g1 g2 xs ys va vb) (A : Option Addr) (c : Nat) : Calls Try.prog 27 #[.pointer (some ⟨g2, 0, none⟩), .slice A 0 c] wr fun e w' => e = .returned (.int .i64 0) ∧ Qt wr w' := append_none _ _ _ _ _ _ _ h.b A c
theorem Two.cut (h : Two w wr g1 g2 xs ys va vb) (q : Nat) (hq : q < ys.length) (h80 : ys.length ≤ 80) (cut : Int) (hc : cut = q + 1) :
    Calls Try.prog 36 #[.pointer (some ⟨g2, 0, none⟩), .int .i64 cut] wr fun e w' => (∃ n : Int, e = .returned (.int .i64 n)) ∧ ∃ vb', Two w w' g1 g2 xs (ys.take q) va vb' ∧ Turn g2 vb wr vb' w' := by
  subst hc
  have := cut_yes _ _ _ _ _ _ _ q h.b (mkE_one _ _) (by rw [mkE_len]; exact hq) (by rw [mkE_len]; omega)
  rw [Int.zero_add] at this
  refine this.mono ?_
  rintro e w' ⟨h1, vb', h2, h3, h4⟩
  have hx := h.a.turn h.s h4
  rw [mkE_take] at h2
  exact ⟨⟨_, h1⟩, vb', ⟨hx.1, h2, below_frm h.B h4.frm (Nat.le_refl _) fun k hk => (h.b.mine_lt k hk).1, hx.2⟩, h4⟩
/-- What is to be done behind a join. -/
def ToDo (xs ss bs ys : List Int) (pn q m : Nat) (cut : Int) : Prop :=
  (m = 0 ∧ cut = 0 ∧ St xs ss bs ys pn) ∨
  (1 ≤ m ∧ q + m ≤ xs.length ∧ ∃ ys', ys'.length = q ∧ ys' = xs.take q ∧ St xs ss bs (ys' ++ (xs.drop q).take m) pn ∧ (cut = 0 ∧ ys' = ys ∨ cut = (q : Int) + 1 ∧ 0 < cut ∧ q < ys.length ∧ ys' = ys.take q))
theorem Two.join {ss as_ bs : List Int} (h : Two w wr g1 g2 xs ys va vb) (hu : Up 0 xs) (hx : xs = ss ++ as_) (hd : ∀ (i j : Nat) (a b : Int), as_[i]? = some a → bs[j]? = some b → a ≠ b) (p n : Nat) (hSt : St xs ss bs ys p) (hpn : p + n ≤ xs.length) (h80 : xs.length ≤ 80) (h81 : ys.length ≤ 80)
    (A : Option Addr) (c B : Nat) (hnc : n ≤ c) (hO : wr.ownsRow B 74 5 (.slice A n c) n (flatE (mkE p ((xs.drop p).take n)))) (t : Int) (ht : tmOf 0 xs p = t) :
    Calls Try.prog 35 #[.pointer (some ⟨g2, 0, none⟩), .int .i64 p, .int .i64 t, .slice A n c] wr fun e w' => ∃ (q m cc : Nat) (cut : Int) (C : Option Addr), e = .returned (.tuple #[.int .i64 cut, .slice C m cc, .bool true]) ∧
      w'.ownsRow wr.heap.size 74 5 (.slice C m cc) m (flatE (mkE q ((xs.drop q).take m))) ∧ Off g2 vb (.slice C m cc) ∧ Below wr.heap.size wr w' ∧ ToDo xs ss bs ys (p + n) q m cut := by
  have hl : ((xs.drop p).take n).length = n := by rw [List.length_take, List.length_drop]; omega
  obtain ⟨k1, k2⟩ := hSt.ok hx
  refine (join_yes _ _ _ 0 0 (mkE 0 ys) vb h.b p t A n c (mkE p ((xs.drop p).take n)) (tmOf t ((xs.drop p).take n)) (Rd.of_own hO) (by rw [mkE_len, hl]) hnc ?_ (tmOf_zero _ _).symm (by omega) (by rw [mkE_len]; omega) ?_ (by omega) (by rw [mkE_len]; omega)).mono ?_
  · rw [← ht]; exact rises_mk _ _ _ ((hu.drop p (by omega)).take n)
  · rw [hasB_mk]; exact decide_eq_true ⟨k1, k2.trans ht⟩
  · rintro e w' ⟨K, cut, C, m, cc, rfl, hK, hs, hc, hm, hmc, hown, hb⟩
    have hdr : (mkE p ((xs.drop p).take n)).drop K = mkE (p + K : Nat) ((xs.drop (p + K)).take m) := by
      rw [mkE_drop _ _ _ (by omega), List.drop_take, List.drop_drop, hm]; rfl
    rw [hdr] at hown
    refine ⟨p + K, m, cc, cut, C, rfl, hown, fun r hr hmm => ?_, hb, ?_⟩
    · have := (hown.lt r hr).1; have := (h.b.mine_lt r hmm).2; omega
    · rcases joined hx hd hSt hpn hK hs hc with ⟨a1, a2, a3⟩ | ⟨a1, ys', a2, a3, a4, a5⟩
      · exact .inl ⟨by omega, a2, a3⟩
      · refine .inr ⟨by omega, by omega, ys', a2, a3, by rw [hm]; exact a4, ?_⟩
        rcases a5 with ⟨b1, b2⟩ | ⟨b1, b2, b3⟩
        · exact .inl ⟨b1, b2⟩
        · exact .inr ⟨by omega, by omega, b2, b3⟩
end
end Go.Proofs.Ytcmjijlegmdebaa
