/-
  'append' onto a row of the call's own leaves what lay in it; rows in blocks of their own. Conditions: those of the append's law.
-/
import Derived.Test.YtgigkekajdgngaaGreatMtOne
namespace Go.Proofs.YtgigkekajdgngaaGreat
open Go Go.RowKit

theorem append_keeps {P : Program} (w : World) (base : Nat) (t ty e : TypeId) (i : TypeInfo) (z : Value) (size bytes : Nat) (ht : P.underlying t = some (.slice e)) (hi : P.info? e = some i) (hz : i.zero = some z)
    (hsize : i.size = size) (hby : i.bytes = bytes)
    (v : Value) (n : Nat) (xs : List Value) (hown : w.ownsRow base e size v n xs)
    (a : Addr) (m c : Nat) (news : List Value) (hl : news.length = m * size) (hnews : ∀ j u, news[j]? = some u → w.cell? (a.add j) = some u) (h1 : ∀ u ∈ news, u.oneCell' = true)
    (h63 : n + m ≤ maxLen) (hbytes : (n + m) * bytes ≤ 140737488355328) {v' : Value} {w' : World} (hr : (Builtin.append_ #[t, t] ty #[v, .slice (some a) m c]).run P w = .ok v' w') :
    w'.ownsRow base e size v n xs := by
  subst hsize
  subst hby
  have hsmall : n + m ≤ 9223372036854775807 := by simp only [maxLen] at h63; omega
  rcases hown.2 with ⟨rfl, rfl⟩ | ⟨g, cap, cur, rfl, hbg, hg, hnc, hcm, hcs, htake⟩
  · exact ⟨hown.1, .inl ⟨rfl, rfl⟩⟩
  · by_cases hroom : n + m ≤ cap
    · have hfit : n * i.size + news.length ≤ cur.size := by rw [hl, hcs, ← Nat.add_mul]; exact Nat.mul_le_mul_right _ hroom
      have hr2 := run_append_room (P := P) w t ty e i ht hi g n cap cur hg a m c news hl hnews h1 hroom hfit
      rw [hr2] at hr
      injection hr with _ hw
      subst hw
      refine ⟨hown.1, .inr ⟨g, cap, _, rfl, hbg, setRow_heap w g cur _ e _ hg, hnc, hcm, ?_, ?_⟩⟩
      · simp only [List.size_toArray, List.length_append, List.length_take, List.length_drop, Array.length_toList]
        omega
      · rw [htake, ← hown.1, List.append_assoc]
        exact List.take_left
    · have holds : ∀ j u, xs[j]? = some u → w.cell? ((⟨g, 0, none⟩ : Addr).add j) = some u := hown.cells (g := g) rfl
      have hr2 := run_append_grow (P := P) w t ty e i z ht hi hz ⟨g, 0, none⟩ n cap xs hown.1 holds a m c news hl hnews (by omega) (by omega) (growslice_fits (by omega) hbytes)
      rw [hr2] at hr
      injection hr with _ hw
      subst hw
      exact World.ownsRow.alloc (show w.drew.ownsRow base e i.size _ n xs from hown) _
section
variable {P : Program}
/-- As wpList_app; and what lay in the old row still lies there. -/
theorem wpList_app2 {w : World} {ops : Array Oper} {rest : List Oper} {o : Oper} {a : Act} {Q : Exit → Act → World → Prop} (hgd : o.guard = none) (s x : Operand) (t : TypeId)
    (ho : o.op = .call { callee := .builtin .append, args := #[s, x], argTypes := #[t, t] })
    (base : Nat) (e : TypeId) (i : TypeInfo) (z : Value) (size bytes : Nat) (ht : P.underlying t = some (.slice e)) (hi : P.info? e = some i) (hz : i.zero = some z)
    (hsize : i.size = size) (hby : i.bytes = bytes) (hzs : z.cells.size = size) (hsz : 0 < size)
    (v : Value) (n : Nat) (xs : List Value) (hs : a.eval s = v) (hown : w.ownsRow base e size v n xs)
    (ad : Addr) (m c : Nat) (news : List Value) (hx : a.eval x = .slice (some ad) m c) (hr : Rd w (some ad) news) (hl : news.length = m * size) (h1 : ∀ u ∈ news, u.oneCell' = true)
    (h63 : n + m ≤ maxLen) (hbytes : (n + m) * bytes ≤ 140737488355328) (hbase : base ≤ w.heap.size)
    (h : ∀ v' w', w'.ownsRow base e size v' (n + m) (xs ++ news) → w.grownBy w' v.ownBlock → Below base w w' → (v'.ownBlock = v.ownBlock ∨ v'.ownBlock = some w.heap.size) → w'.ownsRow base e size v n xs → wpList P ops Q rest (a.put o.dst v') w') : wpList P ops Q (o :: rest) a w := by
  have hnews : ∀ j u, news[j]? = some u → w.cell? (ad.add j) = some u := fun j u hu => by
    obtain ⟨ad', e, hc⟩ := hr j u hu
    injection e with e
    subst e; exact hc
  refine wpList_plain hgd fun K hK => ?_
  obtain ⟨v', w', hr', h2, h3, _, h5⟩ := run_append_own_at (P := P) w base t o.type e i z size bytes ht hi hz hsize hby hzs hsz v n xs hown ad m c news hl hnews h1 h63 hbytes hbase
  have hk := append_keeps (P := P) w base t o.type e i z size bytes ht hi hz hsize hby v n xs hown ad m c news hl hnews h1 h63 hbytes hr'
  unfold Oper.wp execOp
  simp only [ho, resolve, invoke, builtin, Sem.run_bind, Sem.run_pure, Result.andThen_ok, List.map_toArray, List.map_cons, List.map_nil, hs, hx, hr']
  exact hK _ _ (h v' w' h2 h3 ((Below.refl base w).grown h3 hbase fun k hk => (hown.lt k hk).1) h5 hk)
end
section
variable {w w' : World} {base base' : Nat} {e e' : TypeId} {s s' : Nat} {u v : Value} {n N : Nat} {xs ys : List Value}
/-- A shorter row in the same block. -/
theorem own_shorter (h : w.ownsRow base e s v N ys) (h' : w'.ownsRow base e s v N ys) (hu : w.ownsRow base' e s u n xs) (hn : n ≤ N) (hb : u.ownBlock = v.ownBlock) : w'.ownsRow base' e s u n xs := by
  refine ⟨hu.1, ?_⟩
  rcases hu.2 with hz | ⟨g, c, cur, rfl, hbg, hg, hnc, hcm, hcs, ht⟩
  · exact .inl hz
  · rcases h.2 with ⟨rfl, _⟩ | ⟨g2, c2, cur2, rfl, _, hg2, _, _, hcs2, ht2⟩
    · simp [Value.ownBlock] at hb
    · have e1 : g = g2 := by simpa [Value.ownBlock] using hb
      subst e1
      rw [hg] at hg2
      injection hg2 with e2
      injection e2 with e2
      subst e2
      rcases h'.2 with ⟨e3, _⟩ | ⟨g3, c3, cur3, e3, _, hg3, _, _, hcs3, ht3⟩
      · cases e3
      · have e4 : g = g3 := by injection e3 with e3; injection e3 with e3; injection e3
        have e5 : c2 = c3 := by injection e3
        subst e4 e5
        refine .inr ⟨g, c, cur3, rfl, hbg, hg3, hnc, hcm, by omega, ?_⟩
        rw [← ht]
        have hle : n * s ≤ N * s := Nat.mul_le_mul_right _ hn
        have a1 : cur3.toList.take (n * s) = (cur3.toList.take (N * s)).take (n * s) := by rw [List.take_take, Nat.min_eq_left hle]
        have a2 : cur.toList.take (n * s) = (cur.toList.take (N * s)).take (n * s) := by rw [List.take_take, Nat.min_eq_left hle]
        rw [a1, a2, ht3, ht2]
/-- What an append onto v leaves of another row. -/
theorem own_thru (hg : w.grownBy w' v.ownBlock) (h : w.ownsRow base e s v N ys) (h' : w'.ownsRow base e s v N ys) (hu : w.ownsRow base' e s u n xs) (hn : u.ownBlock = v.ownBlock → n ≤ N) : w'.ownsRow base' e s u n xs := by
  by_cases hb : u.ownBlock = v.ownBlock
  · exact own_shorter h h' hu (hn hb) hb
  · exact hu.kept hg (.inr hb)
/-- Rows of other elements lie in other blocks. -/
theorem own_own (h : w.ownsRow base e s v N ys) (hu : w.ownsRow base' e' s' u n xs) (hne : e ≠ e') {k : Nat} (hk : v.ownBlock = some k) : u.ownBlock ≠ some k := by
  intro hk2
  rcases h.2 with ⟨rfl, _⟩ | ⟨g, _, _, rfl, _, hg, _⟩
  · simp [Value.ownBlock] at hk
  · rcases hu.2 with ⟨rfl, _⟩ | ⟨g2, _, _, rfl, _, hg2, _⟩
    · simp [Value.ownBlock] at hk2
    · simp [Value.ownBlock] at hk hk2
      subst hk hk2
      rw [hg] at hg2
      injection hg2 with e2
      injection e2 with _ e3
      exact hne e3
/-- A cell of a row is set. -/
theorem own_put {g c p : Nat} {x : Value} (h : w.ownsRow base e s (.slice (some ⟨g, 0, none⟩) n c) n xs) (_ : p < n * s) : (w.setCell ⟨g, p, none⟩ x).ownsRow base e s (.slice (some ⟨g, 0, none⟩) n c) n (xs.set p x) := by
  refine ⟨by rw [List.length_set]; exact h.1, ?_⟩
  rcases h.2 with ⟨e1, _⟩ | ⟨g1, c1, cur, e1, hbg, hg, hnc, hcm, hcs, ht⟩
  · cases e1
  · have e4 : g = g1 := by injection e1 with e1; injection e1 with e1; injection e1
    have e5 : c = c1 := by injection e1
    subst e4 e5
    refine .inr ⟨g, c, cur.setIfInBounds p x, rfl, hbg, heap_setCell_same w g p cur e x hg, hnc, hcm, by simpa using hcs, ?_⟩
    rw [← ht, Array.toList_setIfInBounds, List.take_set]
end
end Go.Proofs.YtgigkekajdgngaaGreat
