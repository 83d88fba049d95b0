/-
  What a list of items in order is behind one more, and behind one less: plain Lean, no program. No condition of its own.
-/
import Derived.Test.YtldkhhipfoeckaaItemFind
import Derived.Test.YtldkhhipfoeckaaItemEdit
namespace Go.Proofs.Ytldkhhipfoeckaa
open Go Go.RowKit

theorem keyEq {s t : ByteArray} (h : (s.toList == t.toList) = true) : s = t := by rw [str_beq] at h; exact bts_inj (of_decide_eq_true h)
theorem eqKey (s : ByteArray) : (s.toList == s.toList) = true := by rw [str_beq]; simp
theorem ltB_ne {s t : ByteArray} (h : ltB s t = true) : s ≠ t := fun e => by subst e; rw [ltB_irrefl] at h; cases h
theorem hasI_ex {ks : List Im} {key : ByteArray} {r : Nat} (h : hasI ks key r = true) : ∃ x, ks[r]? = some x ∧ x.key = key := by
  have hl := hasI_lt h
  have e : ks[r]? = some ks[r] := List.getElem?_eq_getElem hl
  rw [hasI_at e] at h
  exact ⟨_, e, keyEq h⟩
/-- A key stands at one place at most, and there. -/
theorem find_at {ks : List Im} {key : ByteArray} {r : Nat} (hR : RightI ks) (hf : FindI ks key r) {z : Im} (hz : z ∈ ks) (hk : z.key = key) : ks[r]? = some z ∧ hasI ks key r = true := by
  obtain ⟨t, ht, e⟩ := List.mem_iff_getElem.1 hz
  have et : ks[t]? = some z := by rw [List.getElem?_eq_getElem ht, e]
  have h1 : ¬ t < r := fun h => ltB_ne (hf.lo t z h et) hk
  have h2 : ¬ r < t := fun h => by
    have er : ks[r]? = some ks[r] := List.getElem?_eq_getElem (by omega)
    have h3 := hR.lt er et h
    rw [hk, hf.hi r _ (Nat.le_refl _) er] at h3
    cases h3
  obtain rfl : t = r := by omega
  refine ⟨et, ?_⟩
  rw [hasI_at et, hk]
  exact eqKey key
theorem hasI_none {ks : List Im} {key : ByteArray} {r : Nat} (hR : RightI ks) (hf : FindI ks key r) (h : ∀ z ∈ ks, z.key ≠ key) : hasI ks key r = false := by
  cases hh : hasI ks key r
  · rfl
  · obtain ⟨x, hx, hk⟩ := hasI_ex hh
    exact absurd hk (h x (List.mem_of_getElem? hx))
theorem pairs_of {ks : List Im} (h : RightI ks) : ks.Pairwise (fun x y => ltB x.key y.key = true) := by
  rw [List.pairwise_iff_getElem]
  intro i j hi hj hij
  exact h.lt (List.getElem?_eq_getElem hi) (List.getElem?_eq_getElem hj) hij
theorem of_pairs {ks : List Im} (ho : ∀ x ∈ ks, okI x = true) (h : ks.Pairwise (fun x y => ltB x.key y.key = true)) : RightI ks := by
  refine ⟨fun i x hx => ho x (List.mem_of_getElem? hx), fun i x y hx hy => ?_⟩
  rw [List.pairwise_iff_getElem] at h
  obtain ⟨hi, e1⟩ := List.getElem?_eq_some_iff.1 hx
  obtain ⟨hj, e2⟩ := List.getElem?_eq_some_iff.1 hy
  have := h i (i + 1) hi hj (by omega)
  rwa [e1, e2] at this
/-- What stands behind the place of a key. -/
def backL (ks : List Im) (key : ByteArray) (s : Nat) : List Im := if hasI ks key s = true then ks.drop (s + 1) else ks.drop s
theorem putL_back (ks : List Im) (x : Im) (s : Nat) : putL ks x s = ks.take s ++ x :: backL ks x.key s := by
  unfold putL backL
  cases h : hasI ks x.key s
  · simp
  · have hl := hasI_lt h
    rw [if_pos rfl, if_pos rfl, List.set_eq_take_append_cons_drop, if_pos hl]
theorem dropL_back (ks : List Im) (key : ByteArray) (s : Nat) : dropL ks key s = ks.take s ++ backL ks key s := by
  unfold dropL backL
  cases h : hasI ks key s
  · rw [if_neg (by simp), if_neg (by simp), List.take_append_drop]
  · rw [if_pos rfl, if_pos rfl]
theorem front_lt {ks : List Im} {key : ByteArray} {r : Nat} (hf : FindI ks key r) {z : Im} (hz : z ∈ ks.take r) : ltB z.key key = true := by
  obtain ⟨t, ht, e⟩ := List.mem_iff_getElem.1 hz
  rw [List.length_take] at ht
  have et : ks[t]? = some z := by rw [List.getElem?_eq_getElem (by omega), ← e, List.getElem_take]
  exact hf.lo t z (by omega) et
theorem back_lt {ks : List Im} {key : ByteArray} {r : Nat} (hR : RightI ks) (hf : FindI ks key r) {z : Im} (hz : z ∈ backL ks key r) : ltB key z.key = true := by
  unfold backL at hz
  cases h : hasI ks key r
  · rw [if_neg (by rw [h]; simp)] at hz
    obtain ⟨t, ht, e⟩ := List.mem_iff_getElem.1 hz
    rw [List.length_drop] at ht
    have et : ks[r + t]? = some z := by rw [List.getElem?_eq_getElem (by omega), ← e, List.getElem_drop]
    have h1 := hf.hi (r + t) z (by omega) et
    cases h2 : ltB key z.key
    · have h3 := ltB_tri _ _ h1 h2
      have h4 := (find_at hR hf (List.mem_of_getElem? et) h3).2
      rw [h] at h4; cases h4
    · rfl
  · rw [if_pos h] at hz
    obtain ⟨y, hy, hk⟩ := hasI_ex h
    obtain ⟨t, ht, e⟩ := List.mem_iff_getElem.1 hz
    rw [List.length_drop] at ht
    have et : ks[r + 1 + t]? = some z := by rw [List.getElem?_eq_getElem (by omega), ← e, List.getElem_drop]
    rw [← hk]
    exact hR.lt hy et (by omega)
theorem back_sub {ks : List Im} {key : ByteArray} {r : Nat} {z : Im} (hz : z ∈ backL ks key r) : z ∈ ks := by
  unfold backL at hz
  split at hz <;> exact List.mem_of_mem_drop hz
theorem back_pairs {ks : List Im} {key : ByteArray} {r : Nat} (hR : RightI ks) : (backL ks key r).Pairwise (fun x y => ltB x.key y.key = true) := by
  unfold backL
  split <;> exact (pairs_of hR).sublist (List.drop_sublist _ _)
theorem mem_parts {ks : List Im} {key : ByteArray} {r : Nat} {z : Im} (hz : z ∈ ks) (hk : z.key ≠ key) : z ∈ ks.take r ∨ z ∈ backL ks key r := by
  unfold backL
  cases h : hasI ks key r
  · rw [if_neg (by simp)]
    rw [← List.take_append_drop r ks] at hz
    exact List.mem_append.1 hz
  · rw [if_pos rfl]
    obtain ⟨y, hy, hky⟩ := hasI_ex h
    have hl := hasI_lt h
    have e : ks.drop r = y :: ks.drop (r + 1) := by
      rw [List.drop_eq_getElem_cons hl]
      rw [List.getElem?_eq_getElem hl] at hy
      injection hy with hy
      rw [hy]
    rw [← List.take_append_drop r ks, e] at hz
    rcases List.mem_append.1 hz with h1 | h1
    · exact .inl h1
    · rcases List.mem_cons.1 h1 with h2 | h2
      · subst h2; exact absurd hky hk
      · exact .inr h2
theorem RightI.put {ks : List Im} {x : Im} {r : Nat} (hR : RightI ks) (hf : FindI ks x.key r) (hx : okI x = true) : RightI (putL ks x r) := by
  rw [putL_back]
  refine of_pairs (fun z hz => ?_) ?_
  · rcases List.mem_append.1 hz with h | h
    · obtain ⟨t, ht, e⟩ := List.mem_iff_getElem.1 (List.mem_of_mem_take h)
      exact hR.ok t z (by rw [List.getElem?_eq_getElem ht, e])
    · rcases List.mem_cons.1 h with h | h
      · rw [h]; exact hx
      · obtain ⟨t, ht, e⟩ := List.mem_iff_getElem.1 (back_sub h)
        exact hR.ok t z (by rw [List.getElem?_eq_getElem ht, e])
  · rw [List.pairwise_append]
    refine ⟨(pairs_of hR).sublist (List.take_sublist _ _), ?_, ?_⟩
    · rw [List.pairwise_cons]
      exact ⟨fun z hz => back_lt hR hf hz, back_pairs hR⟩
    · intro a ha b hb
      have h1 := front_lt hf ha
      rcases List.mem_cons.1 hb with h | h
      · rw [h]; exact h1
      · exact ltB_trans h1 (back_lt hR hf h)
theorem RightI.less {ks : List Im} {key : ByteArray} {r : Nat} (hR : RightI ks) (hf : FindI ks key r) : RightI (dropL ks key r) := by
  rw [dropL_back]
  refine of_pairs (fun z hz => ?_) ?_
  · have hz2 : z ∈ ks := by
      rcases List.mem_append.1 hz with h | h
      · exact List.mem_of_mem_take h
      · exact back_sub h
    obtain ⟨t, ht, e⟩ := List.mem_iff_getElem.1 hz2
    exact hR.ok t z (by rw [List.getElem?_eq_getElem ht, e])
  · rw [List.pairwise_append]
    exact ⟨(pairs_of hR).sublist (List.take_sublist _ _), back_pairs hR, fun a ha b hb => ltB_trans (front_lt hf ha) (back_lt hR hf hb)⟩
theorem mem_put {ks : List Im} {x : Im} {r : Nat} {z : Im} (hz : z ∈ ks) (hk : z.key ≠ x.key) : z ∈ putL ks x r := by
  rw [putL_back]
  rcases mem_parts (r := r) hz hk with h | h
  · exact List.mem_append.2 (.inl h)
  · exact List.mem_append.2 (.inr (List.mem_cons_of_mem _ h))
theorem mem_put_self (ks : List Im) (x : Im) (r : Nat) : x ∈ putL ks x r := by
  rw [putL_back]
  exact List.mem_append.2 (.inr (List.mem_cons_self ..))
theorem mem_drop {ks : List Im} {key : ByteArray} {r : Nat} {z : Im} (hz : z ∈ ks) (hk : z.key ≠ key) : z ∈ dropL ks key r := by
  rw [dropL_back]
  rcases mem_parts (r := r) hz hk with h | h
  · exact List.mem_append.2 (.inl h)
  · exact List.mem_append.2 (.inr h)
theorem of_drop {ks : List Im} {key : ByteArray} {r : Nat} {z : Im} (hR : RightI ks) (hf : FindI ks key r) (hz : z ∈ dropL ks key r) : z ∈ ks ∧ z.key ≠ key := by
  rw [dropL_back] at hz
  rcases List.mem_append.1 hz with h | h
  · exact ⟨List.mem_of_mem_take h, ltB_ne (front_lt hf h)⟩
  · exact ⟨back_sub h, fun e => ltB_ne (back_lt hR hf h) e.symm⟩
theorem put_len (ks : List Im) (x : Im) (r : Nat) : (putL ks x r).length ≤ ks.length + 1 := by
  unfold putL
  split
  · rw [List.length_set]; omega
  · rw [List.length_append, List.length_append, List.length_take, List.length_drop]; simp; omega
theorem drop_len (ks : List Im) (key : ByteArray) (r : Nat) : (dropL ks key r).length ≤ ks.length := by
  unfold dropL
  split
  · rw [List.length_append, List.length_take, List.length_drop]; omega
  · exact Nat.le_refl _

/-- The last one of its key up to e. -/
def LastI (ls : List Im) (j e : Nat) (key : ByteArray) : Prop := ∀ (t : Nat) u, j < t → t < e → ls[t]? = some u → okI u = true → u.key ≠ key
/-- What i puts have made. -/
structure PutsI (ls xs : List Im) (i : Nat) : Prop where
  R : RightI xs
  len : xs.length ≤ i
  has : ∀ (j : Nat) y, j < i → ls[j]? = some y → okI y = true → ∃ z, z ∈ xs ∧ z.key = y.key ∧ (LastI ls j i y.key → z = y)
theorem PutsI.nil (ls : List Im) : PutsI ls [] 0 := ⟨⟨fun i x h => by simp at h, fun i x y h => by simp at h⟩, Nat.le_refl _, fun j y h => by omega⟩
theorem PutsI.skip {ls xs : List Im} {i : Nat} (h : PutsI ls xs i) {x : Im} (hx : ls[i]? = some x) (ho : okI x = false) : PutsI ls xs (i + 1) := by
  refine ⟨h.R, by have := h.len; omega, fun j y hj hy hoy => ?_⟩
  have hne : j ≠ i := fun e => by subst e; rw [hx] at hy; injection hy with hy; subst hy; rw [ho] at hoy; cases hoy
  obtain ⟨z, h1, h2, h3⟩ := h.has j y (by omega) hy hoy
  exact ⟨z, h1, h2, fun hl => h3 fun t u ht1 ht2 => hl t u ht1 (by omega)⟩
theorem PutsI.put {ls xs : List Im} {i : Nat} (h : PutsI ls xs i) {x : Im} (hx : ls[i]? = some x) (ho : okI x = true) {r : Nat} (hf : FindI xs x.key r) : PutsI ls (putL xs x r) (i + 1) := by
  refine ⟨h.R.put hf ho, by have := h.len; have := put_len xs x r; omega, fun j y hj hy hoy => ?_⟩
  by_cases hji : j = i
  · subst hji
    rw [hx] at hy; injection hy with hy; subst hy
    exact ⟨x, mem_put_self _ _ _, rfl, fun _ => rfl⟩
  · obtain ⟨z, h1, h2, h3⟩ := h.has j y (by omega) hy hoy
    by_cases hk : z.key = x.key
    · refine ⟨x, mem_put_self _ _ _, by rw [← hk, h2], fun hl => ?_⟩
      exact absurd (by rw [← hk, h2]) (hl i x (by omega) (by omega) hx ho)
    · exact ⟨z, mem_put h1 hk, h2, fun hl => h3 fun t u ht1 ht2 => hl t u ht1 (by omega)⟩
/-- What d drops have left. -/
structure DropsI (ls : List Im) (ds : List ByteArray) (xs : List Im) (d : Nat) : Prop where
  R : RightI xs
  len : xs.length ≤ ls.length
  has : ∀ (j : Nat) y, ls[j]? = some y → okI y = true → (∀ (t : Nat) u, t < d → ds[t]? = some u → u ≠ y.key) → ∃ z, z ∈ xs ∧ z.key = y.key ∧ (LastI ls j ls.length y.key → z = y)
  no : ∀ (t : Nat) u, t < d → ds[t]? = some u → ∀ z ∈ xs, z.key ≠ u
theorem DropsI.start {ls xs : List Im} (ds : List ByteArray) (h : PutsI ls xs ls.length) : DropsI ls ds xs 0 :=
  ⟨h.R, h.len, fun j y hy ho _ => h.has j y (List.getElem?_eq_some_iff.1 hy).1 hy ho, fun t u ht => by omega⟩
theorem DropsI.next {ls xs : List Im} {ds : List ByteArray} {d : Nat} (h : DropsI ls ds xs d) {u : ByteArray} (hu : ds[d]? = some u) {r : Nat} (hf : FindI xs u r) : DropsI ls ds (dropL xs u r) (d + 1) := by
  refine ⟨h.R.less hf, by have := h.len; have := drop_len xs u r; omega, fun j y hy ho hn => ?_, fun t v ht hv z hz => ?_⟩
  · obtain ⟨z, h1, h2, h3⟩ := h.has j y hy ho fun t v ht => hn t v (by omega)
    exact ⟨z, mem_drop h1 (by rw [h2]; exact (hn d u (by omega) hu).symm), h2, h3⟩
  · obtain ⟨h1, h2⟩ := of_drop h.R hf hz
    by_cases htd : t = d
    · subst htd; rw [hu] at hv; injection hv with hv; subst hv; exact h2
    · exact h.no t v (by omega) hv z h1
/-- Is the key among the first d texts? -/
def goneB (ds : List ByteArray) (key : ByteArray) (d : Nat) : Bool := (ds.take d).any fun u => u.toList == key.toList
theorem goneB_next {ds : List ByteArray} {key u : ByteArray} {d : Nat} (hu : ds[d]? = some u) : goneB ds key (d + 1) = (goneB ds key d || (u.toList == key.toList)) := by
  unfold goneB; rw [List.take_add_one, hu]; simp
/-- Is it the last one of its key, as far as e? -/
def lastB (ls : List Im) (j e : Nat) (key : ByteArray) : Bool := (List.range e).all fun t => !decide (j < t) || (match ls[t]? with | some u => !(u.key.toList == key.toList) || !okI u | none => true)
theorem lastB_start (ls : List Im) (j : Nat) (key : ByteArray) : lastB ls j (j + 1) key = true := by
  unfold lastB
  rw [List.all_eq_true]
  intro t ht
  rw [List.mem_range] at ht
  rw [decide_eq_false (by omega)]; rfl
theorem lastB_next {ls : List Im} {j e : Nat} {key : ByteArray} (hj : j < e) {u : Im} (hu : ls[e]? = some u) : lastB ls j (e + 1) key = (lastB ls j e key && (!(u.key.toList == key.toList) || !okI u)) := by
  unfold lastB
  rw [List.range_succ, List.all_append]
  simp [hu, hj]
theorem lastB_last {ls : List Im} {j e : Nat} {key : ByteArray} (h : lastB ls j e key = true) : LastI ls j e key := by
  intro t u h1 h2 hu ho hk
  unfold lastB at h
  rw [List.all_eq_true] at h
  have := h t (List.mem_range.2 h2)
  rw [decide_eq_true h1, hu] at this
  subst hk
  dsimp only at this
  rw [eqKey, ho] at this
  cases this
/-- What is looked up behind all. -/
theorem DropsI.look {ls xs : List Im} {ds : List ByteArray} (h : DropsI ls ds xs ds.length) {j : Nat} {y : Im} (hy : ls[j]? = some y) (ho : okI y = true) {r : Nat} (hf : FindI xs y.key r) :
    hasI xs y.key r = !goneB ds y.key ds.length ∧ (hasI xs y.key r = true → r < xs.length ∧ ∃ z, xs[r]? = some z ∧ (lastB ls j ls.length y.key = true → z = y)) := by
  cases hg : goneB ds y.key ds.length
  · have hno : ∀ (t : Nat) u, t < ds.length → ds[t]? = some u → u ≠ y.key := fun t u ht hu e => by
      unfold goneB at hg
      rw [List.any_eq_false] at hg
      refine hg u (List.mem_of_getElem? (i := t) (by rw [List.getElem?_take_of_lt ht]; exact hu)) ?_
      rw [e]; exact eqKey _
    obtain ⟨z, h1, h2, h3⟩ := h.has j y hy ho hno
    obtain ⟨e1, e2⟩ := find_at h.R hf h1 h2
    exact ⟨by rw [e2]; rfl, fun _ => ⟨hasI_lt e2, z, e1, fun hl => h3 (lastB_last hl)⟩⟩
  · have hn : hasI xs y.key r = false := by
      refine hasI_none h.R hf ?_
      unfold goneB at hg
      rw [List.any_eq_true] at hg
      obtain ⟨u, hu, hk⟩ := hg
      obtain ⟨t, ht, e⟩ := List.mem_iff_getElem.1 (List.mem_of_mem_take hu)
      intro z hz
      have := h.no t u ht (by rw [List.getElem?_eq_getElem ht, e]) z hz
      rwa [keyEq hk] at this
    exact ⟨by rw [hn]; rfl, fun hh => by rw [hn] at hh; cases hh⟩
end Go.Proofs.Ytldkhhipfoeckaa
