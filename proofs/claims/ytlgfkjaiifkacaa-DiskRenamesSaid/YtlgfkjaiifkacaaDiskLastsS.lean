/-
  DiskLasts in plain words: all that its walk wants. No condition of its own.
-/
import Derived.Test.YtlgfkjaiifkacaaDiskLastsR
namespace Go.Proofs.Ytlgfkjaiifkacaa
open Go Go.RowKit

/-- How much is safe behind i writes. -/
def saN (sy i : Nat) : Nat := if sy ≤ i then sy else 0
theorem saN_le (sy i : Nat) : saN sy i ≤ i := by unfold saN; split <;> omega
theorem saN_same {sy i : Nat} (h : i + 1 ≠ sy) : saN sy (i + 1) = saN sy i := by
  unfold saN
  by_cases h1 : sy ≤ i
  · rw [if_pos h1, if_pos (by omega)]
  · rw [if_neg h1, if_neg (by omega)]
theorem saN_now (sy : Nat) : saN sy sy = sy := if_pos (Nat.le_refl _)
theorem saN_end {sy m : Nat} (h : sy ≤ m) : saN sy m = sy := if_pos h
theorem oneD_fine {nm : ByteArray} {X : List ByteArray} {sa i : Nat} (hs : sa ≤ i) (hi : i ≤ 4000) : (oneD nm X sa i).fine := by
  refine ⟨fun y hy => ?_, fun h => Bool.noConfusion h, ?_, (by show ([] : List Int).length ≤ 900000; simp)⟩
  · have hy' : y ∈ wrs X sa i := hy
    unfold wrs at hy'
    obtain ⟨k, hk, rfl⟩ := List.mem_map.1 hy'
    have h0 : i ≠ 0 := by
      intro e; subst e
      simp at hk
    refine ⟨(nm, ⟨0, X.take i, X.take sa, decide (0 < sa)⟩), ?_, rfl⟩
    show _ ∈ (if i = 0 then [] else _)
    rw [if_neg h0]; simp
  · show (wrs X sa i).length ≤ 900000
    rw [wrs_len]; omega
theorem lostN_succ (keep : List Int) (n : Nat) : lostN keep (n + 1) = lostN keep n + (if keptD keep n < 256 then 1 else 0) := by
  unfold lostN
  rw [List.range_succ, List.countP_append]
  simp [List.countP_cons]
theorem keptD_in {keep : List Int} {i : Nat} {x : Int} (h : keep[i]? = some x) : ((keptD keep i : Nat) : Int) = min (max x 0) 256 := by
  unfold keptD; rw [h]; simp only; omega
theorem keptD_out {keep : List Int} {i : Nat} (h : keep.length ≤ i) : keptD keep i = 0 := by
  unfold keptD; rw [List.getElem?_eq_none h]
/-- All that is told of the disk behind the crash. -/
structure LastsF (nm : ByteArray) (X : List ByteArray) (sy m : Nat) (keep : List Int) (d0 d1 : Ds) (sz e : Int) : Prop where
  crash : crashD (oneD nm X sy m) keep = (lostN keep (m - sy), d0)
  back : restoreD d0 = d1
  size : sizeD d1 nm = (sz, e)
  tells : (e = 0 ∧ (sy : Int) ≤ sz ∧ sz ≤ m) ∨ (e = 8 ∧ sy = 0 ∧ sz = 0)
  new : ∀ j x, sy ≤ j → X[j]? = some x → j < m → 0 < keptD keep (j - sy) → readD d1 nm j = (x.extract 0 (keptD keep (j - sy)) ++ zeros256.extract (keptD keep (j - sy)) 256, 0)
  old : ∀ j x, j < sy → X[j]? = some x → readD d1 nm j = (x, 0)
  clean : d1.ws.length = 0
theorem lasts_facts {nm : ByteArray} (hn : nameOk nm = true) {X : List ByteArray} {sy m : Nat} (hX : X.length = m) (hs : sy ≤ m) (keep : List Int) : ∃ d0 d1 sz e, LastsF nm X sy m keep d0 d1 sz e := by
  obtain ⟨d0, hc, hr⟩ := oneD_restore (nm := nm) (X := X) hs keep
  by_cases h : m = 0 ∨ anyN sy keep (m - sy) = false
  · have hsy : sy = 0 := by
      rcases h with h | h
      · omega
      · rcases Nat.eq_zero_or_pos sy with h0 | h0
        · exact h0
        · rw [anyN_sa h0] at h; cases h
    refine ⟨d0, _, 0, 8, hc, hr, aftD_nosize hn h, .inr ⟨rfl, hsy, rfl⟩, fun j x h1 hx h2 hk => ?_, fun j x h1 => by omega, ?_⟩
    · rcases h with h | h
      · omega
      · rw [anyN_kept keep (k := j - sy) (by omega) hk] at h; cases h
    · unfold aftD; split <;> rfl
  · have h0 : m ≠ 0 := fun e => h (.inl e)
    have ha : anyN sy keep (m - sy) = true := by
      cases hh : anyN sy keep (m - sy) with
      | true => rfl
      | false => exact absurd (.inr hh) h
    refine ⟨d0, _, _, 0, hc, hr, aftD_size hn h0 ha, .inl ⟨rfl, ?_, ?_⟩, fun j x h1 hx h2 hk => ?_, fun j x h1 hx => ?_, ?_⟩
    · have := safeN_ge (X := X) (sa := sy) (by omega) keep (m - sy); omega
    · have := safeN_len X sy keep (m - sy); omega
    · refine aftD_read hn h0 ha ?_
      rw [safeN_new keep (m - sy) h1 (by omega) hk, List.getD_eq_getElem?_getD, hx]; rfl
    · refine aftD_read hn h0 ha ?_
      rw [safeN_old keep (m - sy) h1 (by omega)]; exact hx
    · unfold aftD; split <;> rfl
/-- A byte's sector. -/
def oneB (z : Int) : ByteArray := bs [UInt8.ofInt z]
def fillX (z : List Int) : List ByteArray := z.map fun b => fillS (oneB b)
theorem fillX_len (z : List Int) : (fillX z).length = z.length := by simp [fillX]
theorem fillX_at {z : List Int} {i : Nat} {b : Int} (h : z[i]? = some b) : (fillX z)[i]? = some (fillS (oneB b)) := by simp [fillX, h]
/-- The parts of what is left of a sector. -/
theorem left_parts {x : ByteArray} {k : Nat} (hx : x.size = 256) (hk : k ≤ 256) : (x.extract 0 k ++ zeros256.extract k 256).size = 256 ∧ bts ((x.extract 0 k ++ zeros256.extract k 256).extract 0 k) = bts (x.extract 0 k) ∧ bts ((x.extract 0 k ++ zeros256.extract k 256).extract k 256) = List.replicate (256 - k) 0 := by
  have hl : (bts x).length = 256 := by rw [bts_len]; exact hx
  have hz : bts zeros256 = List.replicate 256 0 := rfl
  refine ⟨?_, ?_, ?_⟩
  · rw [ByteArray.size_append, extract_size, extract_size, hx, zeros_size]; omega
  · rw [bts_extract, bts_append, bts_extract, bts_extract, hz]
    simp only [List.drop_zero]
    rw [List.take_append_of_le_length (by rw [List.length_take]; omega), List.take_take, Nat.min_self]
  · rw [bts_extract, bts_append, bts_extract, bts_extract, hz]
    simp only [List.drop_zero]
    rw [List.take_of_length_le (by rw [List.length_append, List.length_take, List.length_drop, List.length_take, List.length_replicate]; omega), List.drop_append_of_le_length (by rw [List.length_take]; omega), List.drop_eq_nil_of_le (by rw [List.length_take]; omega), List.nil_append, List.take_replicate, Nat.min_self, List.drop_replicate]
end Go.Proofs.Ytlgfkjaiifkacaa
