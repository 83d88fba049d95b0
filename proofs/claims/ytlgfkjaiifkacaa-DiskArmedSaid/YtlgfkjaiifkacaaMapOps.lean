/-
  A map of the call's own, from names to pointers: look-ups, stores, deletions, and the range at the operation. Condition: names that a string may be.
-/
import Derived.Test.YtlgfkjaiifkacaaMapAt
namespace Go.Proofs.Ytlgfkjaiifkacaa
open Go Go.RowKit Go.Maps Go.ChangeMaps
theorem zeroPtr (w : World) : (zeroValue 48).run Try.prog w = .ok (.pointer none) w := by kernel_rfl
section
variable {w : World} {ops : Array Oper} {rest : List Oper} {o : Oper} {a : Act} {Q : Exit → Act → World → Prop} {bm : Nat} {D : DataW Unit} {g : Names} {s : ByteArray}
theorem wpList_look_yes (hg : o.guard = none) (m x : Operand) (hop : o.op = Op.lookup 43 m x true) (hm : a.eval m = .map (some bm)) (hx : a.eval x = .string s) (h : MapAt w bm D g) (hs : s.size ≤ maxLen) {b : Nat} (hb : (s, b) ∈ g)
    (hK : wpList Try.prog ops Q rest (a.put o.dst (.tuple #[.pointer (some ⟨b, 0, none⟩), .bool true])) w) : wpList Try.prog ops Q (o :: rest) a w :=
  wpList_lookup_own_ok w hg m x _ hop 9 48 strKeyed Try.underlying43 ptrR (zeroPtr w) .nil [] rfl bm _ D hm h.own _ (kS s) hx (strKey hs) fun v ps hv => by
    rw [h.at_ s b hb .nil] at hv
    obtain ⟨c, rfl, e⟩ := ptrR_inv hv
    injection e with e1 _
    cases c with
    | none => cases e1
    | some c =>
      injection e1 with e1
      injection e1 with _ e1
      obtain rfl : b = c := by omega
      rw [(h.has s).2 ⟨b, hb⟩]
      exact hK
theorem wpList_look_no (hg : o.guard = none) (m x : Operand) (hop : o.op = Op.lookup 43 m x true) (hm : a.eval m = .map (some bm)) (hx : a.eval x = .string s) (h : MapAt w bm D g) (hs : s.size ≤ maxLen) (hn : ∀ b, (s, b) ∉ g)
    (hK : wpList Try.prog ops Q rest (a.put o.dst (.tuple #[.pointer none, .bool false])) w) : wpList Try.prog ops Q (o :: rest) a w :=
  wpList_lookup_own_ok w hg m x _ hop 9 48 strKeyed Try.underlying43 ptrR (zeroPtr w) .nil [] rfl bm _ D hm h.own _ (kS s) hx (strKey hs) fun v ps hv => by
    have hh : Maps.has D (kS s) = false := by
      cases e : Maps.has D (kS s)
      · rfl
      · obtain ⟨b, hb⟩ := (h.has s).1 e; exact absurd hb (hn b)
    rw [Maps.atKey_of_not_has hh] at hv
    obtain ⟨c, rfl, e⟩ := ptrR_inv hv
    injection e with e1 _
    cases c with
    | none => rw [hh]; exact hK
    | some c => cases e1
theorem wpList_store (hg : o.guard = none) (m x v : Operand) (hop : o.op = Op.mapUpdate 43 m x v) (hm : a.eval m = .map (some bm)) (hx : a.eval x = .string s) {b : Nat} (hv : a.eval v = .pointer (some ⟨b, 0, none⟩)) (h : MapAt w bm D g) (hs : s.size ≤ maxLen) (hn : g.length < 1000)
    (hK : ∀ w' D', MapAt w' bm D' ((s, b) :: g.filter fun p => !decide (p.1 = s)) → w.grownBy w' (some bm) → wpList Try.prog ops Q rest (a.put o.dst undef) w') : wpList Try.prog ops Q (o :: rest) a w :=
  wpList_mapUpdate_own w hg m x v _ hop 9 48 strKeyed Try.underlying43 ptrR bm _ D hm h.own (by rw [h.size]; unfold maxLen; omega) _ _ (kS s) hx hv (strKey hs) (.lit (.int .i64 b)) [] rfl fun w' h1 h2 =>
    hK w' _ (h.put ⟨_, h1⟩) h2
theorem mapTurned_grown {w w' : World} {b : Nat} (h : w.mapTurned w' b) : w.grownBy w' (some b) := h.grown
theorem wpList_del (hg : o.guard = none) (m x : Operand) (hop : o.op = Op.call { callee := Callee.builtin Builtin.delete, args := #[m, x], argTypes := #[43, 9] }) (hm : a.eval m = .map (some bm)) (hx : a.eval x = .string s) (h : MapAt w bm D g) (hs : s.size ≤ maxLen)
    (hK : ∀ w' D', MapAt w' bm D' (g.filter fun p => !decide (p.1 = s)) → w.grownBy w' (some bm) → wpList Try.prog ops Q rest (a.put o.dst (.tuple #[])) w') : wpList Try.prog ops Q (o :: rest) a w :=
  wpList_delete_own w hg m x _ _ hop 48 strKeyed Try.underlying43 ptrR bm _ D hm h.own _ (kS s) hx (strKey hs) fun w' h1 h2 =>
    hK w' _ (h.del ⟨_, h1⟩) h2.grown
theorem wpList_maplen (hg : o.guard = none) (m : Operand) (hop : o.op = Op.call { callee := Callee.builtin Builtin.len, args := #[m], argTypes := #[43] }) (hm : a.eval m = .map (some bm)) (h : MapAt w bm D g)
    (hK : wpList Try.prog ops Q rest (a.put o.dst (.int .i64 (g.length : Nat))) w) : wpList Try.prog ops Q (o :: rest) a w :=
  wpList_len_own w hg m _ hop 9 48 Try.underlying43 ptrR bm _ D hm h.own (by rw [h.size]; exact hK)
/-- Which names are still to come. -/
def leftG (left : Lit → Bool) (g : Names) : Names := g.filter fun p => left (kS p.1)
theorem wpList_rangeF (hg : o.guard = none) (m : Operand) (hop : o.op = Op.range 43 m) (hm : a.eval m = .map (some bm)) (h : MapAt w bm D g)
    (hK : ∀ w', w'.ranges Try.prog 9 ptrR bm w.heap.size (Maps.size D) D (Maps.has D) (Maps.size D) → w.grownBy w' none → w'.heap.size = w.heap.size + 1 → wpList Try.prog ops Q rest (a.put o.dst (.pointer (some ⟨w.heap.size, 0, none⟩))) w') : wpList Try.prog ops Q (o :: rest) a w :=
  wpList_range_own w hg m _ hop 9 48 strKeyed Try.underlying43 ptrR bm _ D hm h.own hK
theorem wpList_nextF (hg : o.guard = none) (it : Operand) (hop : o.op = Op.next it false) {r n cnt : Nat} {left : Lit → Bool} (hit : a.eval it = .pointer (some ⟨r, 0, none⟩)) (h : MapAt w bm D g) (hr : w.ranges Try.prog 9 ptrR bm r n D left cnt) (hle : ∀ k, left k = true → Maps.has D k = true)
    (hDone : (∀ k, left k = false) → wpList Try.prog ops Q rest (a.put o.dst (.tuple #[.bool false])) w)
    (hMore : ∀ (s : ByteArray) (b : Nat) (w' : World) (cnt' : Nat), (s, b) ∈ g → left (kS s) = true → w'.ranges Try.prog 9 ptrR bm r n D (fun z => left z && !z.sameKey (kS s)) cnt' → cnt' < cnt → w.grownBy w' (some r) → w'.heap.size = w.heap.size →
      (Instr.entry (.pointer (some ⟨r, 0, none⟩))).run Try.prog w' = .ok (.tuple #[.string s, .pointer (some ⟨b, 0, none⟩)]) w' → wpList Try.prog ops Q rest (a.put o.dst (.tuple #[.bool true, .string s, .pointer (some ⟨b, 0, none⟩)])) w') : wpList Try.prog ops Q (o :: rest) a w :=
  wpList_next_ranges w hg it hop 9 strKeyed ptrR Value.string ptrV (fun key kl hk => by obtain ⟨s, e, _⟩ := WideMaps.string_of_keyOf Try.underlying9 hk; exact ⟨s, e⟩)
    (fun v y hv => by obtain ⟨c, e, _⟩ := ptrR_inv hv; exact ⟨c, e⟩) bm r n D left cnt hit hr (fun _ h0 => hDone h0) fun s c kl y w' cnt' hk hl hv hat hrg hlt hgr hsz hen => by
      have hs : kl = kS s := by
        obtain ⟨s', e, h1, _⟩ := WideMaps.string_of_keyOf Try.underlying9 hk
        have e2 : s = s' := Value.string.inj e
        rw [e2]; exact h1
      subst hs
      obtain ⟨b, hb⟩ := (h.has s).1 (hle _ hl)
      have e1 := hat .nil
      rw [h.at_ s b hb .nil] at e1
      obtain ⟨c', e2, e3⟩ := ptrR_inv hv
      rw [e3] at e1
      cases c' with
      | none => cases e1
      | some c' =>
        simp only at e1
        injection e1 with e1
        injection e1 with _ e1
        obtain rfl : b = c' := by omega
        cases c with
        | none => simp [ptrV] at e2
        | some c =>
          have : c = b := by simpa [ptrV] using e2
          subst this
          exact hMore s c w' cnt' hb hl hrg hlt hgr hsz hen
end
end Go.Proofs.Ytlgfkjaiifkacaa
