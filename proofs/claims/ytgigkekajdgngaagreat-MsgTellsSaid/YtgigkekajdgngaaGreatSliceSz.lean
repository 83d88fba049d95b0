/-
  'copy', 'clear', 'append' of zeros over rows whose elements have more cells than one; a row of the call's own known whole, and cells of it set one by one. Conditions: those of the builtins' laws; over any program.
-/
import Derived.Test.YtgigkekajdgngaaGreatOwn2
import Derived.Lib.AppendZeros
import Derived.Lib.Overlaps
import Derived.ArgAppend
namespace Go.Proofs.YtgigkekajdgngaaGreat
open Go Go.RowKit
section
variable {P : Program}

/-- All is read ahead of what is written. -/
theorem run_copy_sz (w : World) (dT sT ty elem : TypeId) (i : TypeInfo) (size : Nat) (b o dLen dCap : Nat) (a : Addr) (sLen sCap k : Nat) (cs : List Value)
    (hu : P.underlying dT = some (.slice elem)) (hi : P.info? elem = some i) (hs : i.size = size) (hk : Nat.min sLen dLen = k) (hn : cs.length = k * size)
    (hsrc : ∀ j v, cs[j]? = some v → w.cell? (a.add j) = some v) (hc : ∀ j, j < cs.length → (w.cell? ⟨b, o + j, none⟩).isSome = true) (hf : ∀ j, j < cs.length → w.frozen? ⟨b, o + j, none⟩ = false) (h1 : ∀ v ∈ cs, v.oneCell' = true) :
    (Builtin.copy_ #[dT, sT] ty #[.slice (some ⟨b, o, none⟩) dLen dCap, .slice (some a) sLen sCap]).run P w = .ok (goInt k) (w.setCells b o cs) := by
  have hl := run_loadCells_list (P := P) w a cs hsrc
  have hst := run_storeCells_cells (P := P) b o cs 0 w (by simpa using hc) (by simpa using hf) h1
  rw [hn] at hl
  have hk' : min sLen dLen = k := hk
  simp [Builtin.copy_, run_underlying hu, Builtin.lenOf, Builtin.firstCells, sizeOf, typeInfo, hi, hs, hk', hl, hst]
theorem run_clear_sz (w : World) (t e ty : TypeId) (z : Value) (ht : P.underlying t = some (.slice e)) (hv : (zeroValue e).run P w = .ok z w) (b o n c : Nat) (zs : List Value) (hzs : (Builtin.zeroCells z.cells n).toList = zs) (hn : 0 < n) (h1 : ∀ v ∈ zs, v.oneCell' = true)
    (hc : ∀ j, j < zs.length → (w.cell? ⟨b, o + j, none⟩).isSome = true) (hf : ∀ j, j < zs.length → w.frozen? ⟨b, o + j, none⟩ = false) :
    (Builtin.clear_ #[t] ty #[.slice (some ⟨b, o, none⟩) n c]).run P w = .ok (.tuple #[]) (w.setCells b o zs) := by
  have hst := run_storeCells_cells (P := P) b o zs 0 w (by simpa using hc) (by simpa using hf) h1
  obtain ⟨m, rfl⟩ : ∃ m, n = m + 1 := ⟨n - 1, by omega⟩
  simp [Builtin.clear_, run_underlying ht, hv, hzs, hst]
/-- 'append(s[:i], make(..)...)' where there is no room: a new row, zeros behind what was. -/
theorem run_append_zeros_grow (w : World) (t tn ty e : TypeId) (i : TypeInfo) (z : Value) (k kn : IntKind) (ht : P.underlying t = some (.slice e)) (htn : P.underlying tn = some (.int kn)) (hi : P.info? e = some i) (hz : i.zero = some z)
    (b : Addr) (sLen sCap m : Nat) (olds : List Value) (hlo : olds.length = sLen * i.size) (holds : ∀ j v, olds[j]? = some v → w.cell? (b.add j) = some v) (hm : 0 < m) (hsz : 0 < i.size) (hg : sCap < sLen + m)
    (h63 : ((sLen + m : Nat) : Int) ≤ 9223372036854775807) (h48 : (sLen + m) * i.bytes ≤ 140737488355328) :
    (Builtin.append_ #[t, tn] ty #[.slice (some b) sLen sCap, .int k m]).run P w =
      .ok (.slice (some ⟨w.heap.size, 0, none⟩) (sLen + m) (grownCap w (sLen + m) sCap e))
        (w.drew.alloc (.cells (olds.toArray ++ Builtin.zeroCells z.cells m ++ Builtin.zeroCells z.cells (grownCap w (sLen + m) sCap e - (sLen + m))) e)) := by
  have hn : ¬ (sLen + m ≤ sCap) := by omega
  have h63' : ¬ (9223372036854775807 < ((sLen : Int) + (m : Int))) := by omega
  have hfit := growslice_fits hg h48
  have h48' : ¬ (281474976710656 < Builtin.nextslicecap (sLen + m) sCap * i.bytes) := by omega
  have hw : IntKind.i64.wrap (m : Int) = m := by rw [IntKind.wrap_i64]; omega
  have hneg : ¬ ((m : Int) < 0) := by omega
  have hmb : m * i.bytes ≤ 140737488355328 := Nat.le_trans (Nat.mul_le_mul_right _ (by omega)) h48
  have h48i : ¬ (281474976710656 < (m : Int) * (i.bytes : Int)) := by
    rw [← Int.natCast_mul]
    omega
  have hm0 : m ≠ 0 := by omega
  have hns : ¬ (m * i.size = 0) := Nat.mul_ne_zero hm0 (by omega)
  have hfo := run_firstCells_some (P := P) w.drew i.size sLen b sLen sCap olds hlo (by simpa using holds)
  simp [Builtin.append_, run_underlying ht, run_underlying htn, sizeOf, typeInfo, zeroValue, hi, hz, asInt, asIntOf, hw, hneg, hns, h48i, hn, h63', h48', Question.forced, hfo, newRow, grownCap]
end

/-- Cells of a block that is known whole, set one behind the other. -/
theorem Blk.cells_ {g : Nat} {t : TypeId} : ∀ (vs : List Value) (o : Nat) (cur : Array Value) (w : World), Blk w g t cur → o + vs.length ≤ cur.size → Blk (w.setCells g o vs) g t (splice cur.toList o vs).toArray
  | [], o, cur, w, h, _ => by
    simp only [World.setCells, splice, List.nil_append, List.length_nil, Nat.add_zero, List.take_append_drop, Array.toArray_toList]; exact h
  | v :: vs, o, cur, w, h, hl => by
    rw [World.setCells]
    rw [List.length_cons] at hl
    have ih := Blk.cells_ (g := g) (t := t) vs (o + 1) (cur.setIfInBounds o v) (w.setCell ⟨g, o, none⟩ v) (h.set_ o v) (by simp; omega)
    have e : splice (cur.setIfInBounds o v).toList (o + 1) vs = splice cur.toList o (v :: vs) := by
      unfold splice
      rw [Array.toList_setIfInBounds, List.length_cons]
      have ho : o < cur.toList.length := by simp; omega
      rw [List.drop_set_of_lt (by omega), show o + 1 + vs.length = o + (vs.length + 1) by omega, List.take_add_one, List.take_set_of_le (Nat.le_refl _), List.getElem?_set_self ho]
      simp
    rwa [e] at ih
theorem Frm.cells_ {g : Nat} : ∀ (vs : List Value) (o : Nat) (w : World), Frm (at1 g) w (w.setCells g o vs)
  | [], _, w => Frm.refl _ _
  | v :: vs, o, w => by
    rw [World.setCells]
    exact ((Frm.refl (at1 g) w).setCell (p := ⟨g, o, none⟩) (fun _ => rfl) v).then_ (Frm.cells_ vs (o + 1) _)
theorem own_open {w : World} {base g n c size : Nat} {e : TypeId} {xs : List Value} (h : w.ownsRow base e size (.slice (some ⟨g, 0, none⟩) n c) n xs) : ∃ cur : Array Value, Blk w g e cur ∧ base ≤ g ∧ n ≤ c ∧ c ≤ maxLen ∧ cur.size = c * size ∧ cur.toList.take (n * size) = xs := by
  rcases h.2 with ⟨e1, _⟩ | ⟨g1, c1, cur, e1, hbg, hg, hnc, hcm, hcs, ht⟩
  · cases e1
  · have e4 : g = g1 := by injection e1 with e1; injection e1 with e1; injection e1
    have e5 : c = c1 := by injection e1
    subst e4 e5
    exact ⟨cur, hg, hbg, hnc, hcm, hcs, ht⟩
theorem own_close {w : World} {base g n c size : Nat} {e : TypeId} {xs : List Value} {cur : Array Value} (h : Blk w g e cur) (hb : base ≤ g) (hn : n ≤ c) (hc : c ≤ maxLen) (hs : cur.size = c * size) (ht : cur.toList.take (n * size) = xs) : w.ownsRow base e size (.slice (some ⟨g, 0, none⟩) n c) n xs := by
  refine ⟨?_, .inr ⟨g, c, cur, rfl, hb, h, hn, hc, hs, ht⟩⟩
  rw [← ht, List.length_take, Array.length_toList, hs]
  exact Nat.min_eq_left (Nat.mul_le_mul_right _ hn)
theorem splice_len {L cs : List Value} {o : Nat} (h : o + cs.length ≤ L.length) : (splice L o cs).length = L.length := length_splice L o cs h
end Go.Proofs.YtgigkekajdgngaaGreat
