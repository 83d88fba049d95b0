/-
  The walk of the law LeafFits: for every input it returns true and changes nothing that was there. No condition but those of the arguments' form.
-/
import Derived.Test.YtldkhhipfoeckaaLeafAlive
import Derived.Test.YtldkhhipfoeckaaItemCut
namespace Go.Proofs.Ytldkhhipfoeckaa
open Go Go.RowKit
attribute [local go_sem] cell_set_if

theorem getD_some {α : Type} {l : List α} {i : Nat} {x : α} (h : l[i]? = some x) (d : α) : l.getD i d = x := by rw [List.getD_eq_getElem?_getD, h]; rfl
theorem flatlen_take (ps : List (List Im)) (i : Nat) (p : List Im) (h : ps[i]? = some p) : (ps.take (i + 1)).flatten.length = (ps.take i).flatten.length + p.length := by
  rw [List.take_add_one, h]; simp
theorem parts_count (ps : List (List Im)) (h : ∀ (i : Nat) p, ps[i]? = some p → p ≠ []) : ps.length ≤ ps.flatten.length := by
  induction ps with
  | nil => exact Nat.le_refl _
  | cons p ps ih =>
    have h1 := List.length_pos_iff.2 (h 0 p rfl)
    have h2 := ih fun i q hq => h (i + 1) q (by rwa [List.getElem?_cons_succ])
    rw [List.flatten_cons, List.length_append, List.length_cons]; omega
theorem sumI_head {p : List Im} {x : Im} (h : p[0]? = some x) : 5 + x.key.size + x.val.size ≤ sumI p := by
  cases p with
  | nil => simp at h
  | cons y p =>
    rw [List.getElem?_cons_zero] at h
    injection h with h; subst h
    rw [sumI_cons]; omega
theorem flatlen_le (ps : List (List Im)) (i : Nat) : (ps.take i).flatten.length ≤ ps.flatten.length := by
  conv => rhs; rw [← List.take_append_drop i ps]
  rw [List.flatten_append, List.length_append]; omega

/-- 'append' in a region that draws its order, guarded or not: the step's form. -/
theorem step_app_g {P : Program} {w : World} {ops : Array Oper} {o : Oper} {a : Act} {K : Act → World → Prop} {Q : Exit → Act → World → Prop} {E : Prop} (hw : Region.wanted o (yielded ops a.tmps) = true) (s x : Operand) (t : TypeId)
    (ho : o.op = .call { callee := .builtin .append, args := #[s, x], argTypes := #[t, t] })
    (base : Nat) (e : TypeId) (i : TypeInfo) (z : Value) (size bytes : Nat) (ht : P.underlying t = some (.slice e)) (hi : P.info? e = some i) (hz : i.zero = some z)
    (hsize : i.size = size) (hby : i.bytes = bytes) (hzs : z.cells.size = size) (hsz : 0 < size)
    (v : Value) (n : Nat) (xs : List Value) (hs : a.eval s = v) (hown : w.ownsRow base e size v n xs)
    (A : Option Addr) (m c : Nat) (news : List Value) (hx : a.eval x = .slice A m c) (hr : Rd w A news) (hl : news.length = m * size) (h1 : ∀ u ∈ news, u.oneCell' = true)
    (h63 : n + m ≤ maxLen) (hbytes : (n + m) * bytes ≤ 140737488355328) (hbase : base ≤ w.heap.size)
    (h : ∀ v' w', w'.ownsRow base e size v' (n + m) (xs ++ news) → w.grownBy w' v.ownBlock → Below base w w' → (v'.ownBlock = v.ownBlock ∨ v'.ownBlock = some w.heap.size) → K (a.put o.dst v') w') :
    if Region.wanted o (yielded ops a.tmps) = true then Oper.wp P o a w K Q else E := by
  have hs := step_app (P := P) (w := w) (ops := ops) (o := { o with guard := none }) (a := a) (K := K) (Q := Q) (E := E) rfl s x t ho base e i z size bytes ht hi hz hsize hby hzs hsz v n xs hs hown A m c news hx hr hl h1 h63 hbytes hbase h
  rw [if_pos (by simp [Region.wanted])] at hs
  rw [if_pos hw]
  exact hs
set_option maxRecDepth 100000 in
set_option maxHeartbeats 4000000 in
theorem fits_any (A : Option Addr) (n c : Nat) (ks : List Im) (w : World) (hr : Rd w A (flatI ks)) (hn : ks.length = n) (hc : n ≤ c) :
    Calls Try.prog 7 #[.slice A n c] w fun e w' => e = .returned (.bool true) ∧ Below w.heap.size w w' := by
  have HR := Lib.hid hr
  have HN := Lib.hid hn
  have HC := Lib.hid hc
  have hLt := Lib.hid (light9_any A n c ks w hr hn)
  have hRt := Lib.hid fun hm w hr => riright_any A n c ks w hr hn hm
  clear hr hn hc
  go_enter Try.func7, Try.ntmps7
  go_wp2_with fail
  refine hLt.out.mono ?_
  rintro e w1 ⟨⟨bl, rfl, hbl⟩, b1⟩
  cases bl
  · go_wp2_with (go_at_call 55; refine (alive9_any _).mono ?_; rintro e w2 ⟨rfl, b2⟩)
    go_ret
    exact ⟨rfl, below_of b2 b1 b1.size⟩
  obtain ⟨h300, hsum⟩ := hbl rfl
  have HSum := Lib.hid hsum
  have hm : n ≤ 1000000 := by omega
  have hnn : (n : Int) ≤ 1000000 := by omega
  have R1 := HR.out.below b1
  clear hbl hsum
  go_wp2_with fail
  refine (hRt.out hm _ R1).mono ?_
  rintro e w2 ⟨⟨br, rfl, hbr⟩, b2⟩
  have B2 := below_of b2 b1 b1.size
  cases br
  · go_wp2_with (go_at_call 55; refine (alive9_any _).mono ?_; rintro e w2 ⟨rfl, b2⟩)
    go_ret
    exact ⟨rfl, below_of b2 B2 B2.size⟩
  have hR := hbr.1 rfl
  have HSM := Lib.hid (Small.right hR)
  have hsum6 : sumI ks ≤ 1099511627776 := by have := HSum.out; omega
  have hCut := Lib.hid fun w hr => icut_any A n c ks w hr HN.out HC.out hm hsum6 hR
  have hSize := Lib.hid fun w hr => isize_any A n c ks w hr HN.out hsum6
  have h300i : (n : Int) ≤ 300 := by omega
  clear hbr hR hsum6 hm
  go_wp2_with (first
    | (go_at_call 55; refine (alive9_any _).mono ?_; rintro e w3 ⟨rfl, b3⟩; have B3 := below_of b3 B2 B2.size)
    | (go_at_call 57; refine (hCut.out _ (HR.out.below B3)).mono ?_; rintro e w4 ⟨⟨A4, N, d4, V, rfl, P4⟩, b4⟩; have B4 := below_of b4 B3 B3.size))
  have hPS := P4.len
  have hflat := cutS_flat ks HSM.out
  have hNn : N ≤ n := by
    have h1 := parts_count (cutS ks) fun i p hp => (cutS_parts ks HSM.out i p hp).1
    rw [hflat, HN.out, hPS] at h1
    exact h1
  have HFL := Lib.hid hflat
  have HLN := Lib.hid hPS
  have hNi : (N : Int) ≤ 300 := by omega
  clear hflat hPS
  go_loopw [5, 6] (fun u5 u6 wr => ∃ k : Nat, k ≤ N ∧ u6 = .int .i64 k ∧ u5 = .int .i64 (((cutS ks).take k).flatten.length : Nat) ∧ Below w4.heap.size w4 wr) (fun _ u6 _ => N - (intOf u6).toNat)
  case atStart => exact ⟨0, by omega, rfl, rfl, Below.refl _ _⟩
  case round =>
    obtain ⟨k, hk, rfl, rfl, hB⟩ := hrel
    by_cases hlt : k < N
    · obtain ⟨p, hp⟩ : ∃ p, (cutS ks)[k]? = some p := ⟨(cutS ks)[k]'(by have := HLN.out; omega), List.getElem?_eq_getElem _⟩
      obtain ⟨hpne, hpfit, hpfull⟩ := cutS_parts ks HSM.out k p hp
      have P5 := P4.below hB
      obtain ⟨Ai, ci, hVi, hOi⟩ := P5.rows.at_ k hlt
      rw [getD_some hp] at hVi hOi
      obtain ⟨b0, o0, hA0, hb0, hcs⟩ := (Rd.of_own P4.own).flat (by rw [P4.rows.len]; omega)
      subst hA0
      have c0 := cell_bb hB hb0 (hcs k _ hVi)
      have hcsA := hcs
      have hl1' : 0 < p.length := List.length_pos_iff.2 (cutS_parts ks HSM.out k p hp).1
      have RI := Rd.of_own hOi
      have hst := flatlen_take (cutS ks) k p hp
      have hfl := flatlen_le (cutS ks) k
      have hfl2 := flatlen_le (cutS ks) (k + 1)
      rw [HFL.out, HN.out] at hfl hfl2
      have hl1 : 0 < p.length := List.length_pos_iff.2 hpne
      have HST := Lib.hid hst
      have hkN : (k : Int) < (N : Int) := by omega
      obtain ⟨L, hL⟩ : ∃ L, L = p.length := ⟨_, rfl⟩
      obtain ⟨z, hz⟩ : ∃ z, z = sumI p := ⟨_, rfl⟩
      have hSz : ∀ w, Rd w Ai (flatI p) → Calls Try.prog 64 #[.slice Ai L ci] w fun e w' => e = .returned (.int .i64 (1 + z)) ∧ Below w.heap.size w w' := fun w hr => by
        rw [hz]; exact isize_any _ _ _ p w hr hL.symm (by omega)
      rw [← hL] at c0 hl1 hVi hOi
      rw [hst, ← hL] at hfl2
      have hzi : (1 : Int) + (z : Int) ≤ 232 := by omega
      have hLi : (0 : Int) < (L : Int) := by omega
      have hLi2 : ((L : Int) == 0) = false := by simp; omega
      obtain ⟨q, hq⟩ : ∃ q, q = ((cutS ks).take k).flatten.length := ⟨_, rfl⟩
      rw [← hq] at hfl hfl2
      have hqi : (q : Int) + (L : Int) ≤ 1000000 := by omega
      have HQ := Lib.hid hq
      have HL := Lib.hid hL
      have HSz := Lib.hid hSz
      have HZ := Lib.hid hz
      have HP := Lib.hid hp
      have HFULL := Lib.hid hpfull
      have HRI := Lib.hid RI
      have HCS := Lib.hid hcsA
      rw [← hq]
      clear hst hcsA hL hz hSz hpne hpfit hVi hOi hcs hp hpfull RI hq
      go_wp2_with (go_at_call 64; refine (HSz.out _ HRI.out).mono ?_; rintro e w6 ⟨rfl, b6⟩; have c06 := cell_b b6 c0; have B6 := below_of b6 hB hB.size)
      go_upto_region 13 with fail
      go_cut [73] from 54 to 73 (fun u wx => u = .bool false ∧ Below w4.heap.size w4 wx)
      case first =>
        by_cases hk0 : k = 0
        · have hz : decide (0 < k) = false := by simp; omega
          have hz2 : decide ((0 : Int) < (k : Int)) = false := by simp; omega
          clear hk0
          go_quiet (fail)
          go_wp2
          go_meet
          exact ⟨rfl, below_drewN B6 _⟩
        · obtain ⟨j, hj⟩ : ∃ j, k = j + 1 := ⟨k - 1, by omega⟩
          obtain ⟨r, hr2⟩ : ∃ r, (cutS ks)[j]? = some r := ⟨(cutS ks)[j]'(by have := HLN.out; omega), List.getElem?_eq_getElem _⟩
          obtain ⟨hrne, hrfit, hrfull⟩ := cutS_parts ks HSM.out j r hr2
          have P6 := P4.below (below_of b6 hB hB.size)
          obtain ⟨Aj, cj, hVj, hOj⟩ := P6.rows.at_ j (by omega)
          rw [getD_some hr2] at hVj hOj
          have d0 := cell_bb (below_of b6 hB hB.size) hb0 (HCS.out j _ hVj)
          have RJ := Rd.of_own hOj
          have RI := HRI.out.below b6
          obtain ⟨bi, oi, x, rfl, hbi, hx, e0, e1, e2⟩ := RI.item (k := 0) hl1'
          have hfull := hrfull p x (by rw [← hj]; exact HP.out) hx
          have hfit2 : (232 : Int) < 1 + ((sumI (r ++ [x]) : Nat) : Int) := by rw [sumI_app, sumI_cons, sumI_nil]; omega
          have hk0i : (0 : Int) < (k : Int) := by omega
          have hk0n : 0 < k := by omega
          have hz : decide (0 < k) = true := by simp; omega
          have hwp : IntKind.i64.wrap ((k : Int) - 1) = (j : Int) := by rw [hj, show (((j + 1 : Nat) : Int) - 1) = (j : Int) by omega]; exact IntWalk.i64_in _ (by omega)
          have hjN : (j : Int) < (N : Int) := by omega
          obtain ⟨M, hM⟩ : ∃ M, M = r.length := ⟨_, rfl⟩
          rw [← hM] at d0
          have e0' : w6.cell? ⟨bi, oi, none⟩ = some (.string x.key) := by simpa using e0
          have e1' : w6.cell? ⟨bi, oi + 1, none⟩ = some (.string x.val) := by simpa using e1
          have e2' : w6.cell? ⟨bi, oi + 2, none⟩ = some (.int .i64 x.kind) := by simpa using e2
          have hb06 : b0 < w6.heap.size := Nat.lt_of_lt_of_le hb0 (below_of b6 hB hB.size).size
          have hF5 : ∀ W, Below w6.heap.size w6 W → W.cell? ⟨b0, o0 + j, none⟩ = some (.slice Aj M cj) ∧ W.cell? ⟨b0, o0 + k, none⟩ = some (.slice (some ⟨bi, oi, none⟩) L ci) ∧ W.cell? ⟨bi, oi, none⟩ = some (.string x.key) ∧ W.cell? ⟨bi, oi + 1, none⟩ = some (.string x.val) ∧ W.cell? ⟨bi, oi + 2, none⟩ = some (.int .i64 x.kind) :=
            fun W hW => ⟨cell_b hW d0, cell_b hW c06, cell_b hW e0', cell_b hW e1', cell_b hW e2'⟩
          obtain ⟨y, hy⟩ : ∃ y, y = sumI (r ++ [x]) := ⟨_, rfl⟩
          rw [← hy] at hfit2
          have hSz2 : ∀ w A' c', Rd w A' (flatI (r ++ [x])) → Calls Try.prog 64 #[.slice A' (M + 1) c'] w fun e w' => e = .returned (.int .i64 (1 + y)) ∧ Below w.heap.size w w' := fun w A' c' hr => by
            rw [hy]
            refine isize_any A' (M + 1) c' (r ++ [x]) w hr (by rw [List.length_append, hM]; rfl) ?_
            rw [sumI_app, sumI_cons, sumI_nil]
            have h1 := sumI_head hx
            have h2 := HZ.out
            omega
          have hXX : flatI r ++ [.string x.key, .string x.val, .int .i64 x.kind] = flatI (r ++ [x]) := by rw [flatI_app]; rfl
          have HXX := Lib.hid hXX
          have HSz2 := Lib.hid hSz2
          have HF5 := Lib.hid hF5
          have hF5c := hF5
          have A0a := hF5 _ (((Below.refl _ w6).drew).alloc (Nat.le_refl _) (.cells #[.string x.key, .string x.val, .int .i64 x.kind] 108))
          have HRJ := Lib.hid RJ
          have hfl3 := flatI_len r
          rw [← hM] at hfl3
          have HFL3 := Lib.hid hfl3
          have HFO := Lib.hid (flatI_one r)
          have hM3 : M ≤ 300 := by have := sumI_len r; rw [← hM] at this; omega
          have HJ := Lib.hid hj
          obtain ⟨i0, hi0, hz0, hz1, hz2⟩ := info_parts iteminfo
          clear hXX hSz2 hF5 RJ hfl3 hy hM hrfull hrfit hrne hr2 hVj hOj e0 e1 e2 hx hj RI hfull
          have A0 := hF5c _ ((Below.refl _ w6).drew)
          clear hF5c
          go_region_held3 (fun W => W.cell? ⟨b0, o0 + j, none⟩ = some (.slice Aj M cj) ∧ W.cell? ⟨b0, o0 + k, none⟩ = some (.slice (some ⟨bi, oi, none⟩) L ci) ∧ W.cell? ⟨bi, oi, none⟩ = some (.string x.key) ∧ W.cell? ⟨bi, oi + 1, none⟩ = some (.string x.val) ∧ W.cell? ⟨bi, oi + 2, none⟩ = some (.int .i64 x.kind))
            (first | exact A0 | exact Q9 | exact Q8 | exact Q7 | with_reducible assumption | exact Q7a | exact A0a)
            (first
            | (refine step_app_g (by rfl) (.const (.slice none 0 0)) (.tmp 61) 96 rfl _ 108 i0 _ 3 40 Try.underlying96 hi0 hz0 hz1 hz2 rfl (by omega) (.slice none 0 0) 0 [] rfl (World.ownsRow_nil _ _ _ _) Aj M cj (flatI r) rfl (by first | exact HRJ.out.drew | exact HRJ.out.drew.alloc _) HFL3.out HFO.out (by unfold maxLen; omega) (by omega) (Nat.le_refl _) ?_
               intro v7 w7 ho7 hg7 hb7 hat7
               rw [Nat.zero_add, List.nil_append] at ho7
               obtain ⟨A7, c7, rfl, hc7⟩ := own_form ho7
               have b7 : Below w6.heap.size w6 w7 := by first | exact below_of hb7 ((Below.refl _ w6).drew) (Nat.le_refl _) | exact below_of hb7 (((Below.refl _ w6).drew).alloc (Nat.le_refl _) _) (by simp)
               have Q7 := HF5.out _ b7
               have Q7a := HF5.out _ (b7.alloc b7.size (.cells #[.string x.key, .string x.val, .int .i64 x.kind] 108))
               try (have RN := (Rd.new w6.drew #[.string x.key, .string x.val, .int .i64 x.kind] 108).below hb7))
            | (refine step_app_g (by rfl) (.tmp 62) (.tmp 69) 96 rfl _ 108 i0 _ 3 40 Try.underlying96 hi0 hz0 hz1 hz2 rfl (by omega) (.slice A7 M c7) M (flatI r) rfl (by first | exact ho7 | exact ho7.alloc _) _ 1 1 [.string x.key, .string x.val, .int .i64 x.kind] rfl (by first | exact RN | exact Rd.new _ _ _) rfl (by simp [Value.oneCell']) (by unfold maxLen; omega) (by omega) (by have := hb7.size; simp at this ⊢; omega) ?_
               intro v8 w8 ho8 hg8 hb8 hat8
               obtain ⟨A8, c8, rfl, hc8⟩ := own_form ho8
               have RF := Rd.of_own ho8
               rw [HXX.out] at RF
               have B8 : Below w6.heap.size w6 w8 := by first | exact below_of hb8 b7 (by simp) | exact below_of hb8 (b7.alloc b7.size _) (by simp)
               have Q8 := HF5.out _ B8)
            | (go_at_call 64; with_reducible refine (HSz2.out _ _ _ RF).mono ?_; rintro e w9 ⟨rfl, b9⟩; have B9 := below_of b9 B8 B8.size; have Q9 := HF5.out _ B9))
          all_goals
            go_wp2
            go_meet
            exact ⟨by rw [decide_eq_false (by omega)], below_of B9 B6 B6.size⟩
      case rest =>
      obtain ⟨rfl, B7⟩ := hcut
      go_wp2
      go_roundw
      case rel => exact ⟨k + 1, by omega, by go_num, by rw [HST.out, ← HL.out, ← HQ.out]; go_num, B7⟩
      case measure => simp [intOf]; omega
    · obtain rfl : k = N := by omega
      have htk : (cutS ks).take k = cutS ks := List.take_of_length_le (by have := HLN.out; omega)
      have hq : ((cutS ks).take k).flatten.length = n := by rw [htk, HFL.out, HN.out]
      rw [hq]
      have hfew := cutS_few ks HSM.out
      rw [HLN.out] at hfew
      have hSz := fun w hr => hSize.out w hr
      have BB := below_of hB B4 B4.size
      have RB := HR.out.below BB
      have hnq : ((n : Int) == (n : Int)) = true := by simp
      obtain ⟨z, hz⟩ : ∃ z, z = sumI ks := ⟨_, rfl⟩
      rw [← hz] at hfew hSz
      have HSz := Lib.hid hSz
      by_cases h1 : 1 + z ≤ 232
      · have h2 : (k : Int) ≤ 1 := by have := hfew.2 (.inl h1); omega
        have h1i : (1 : Int) + (z : Int) ≤ 232 := by omega
        clear hSz hz hfew htk hq
        go_wp2_with (go_at_call 64; refine (HSz.out _ RB).mono ?_; rintro e w6 ⟨rfl, b6⟩; have B6 := below_of b6 BB BB.size)
        go_ret
        exact ⟨ret_bool (by first | rfl | (rw [decide_eq_true h2, decide_eq_true h1i]; rfl)), B6⟩
      · have hne : ¬ ks = [] := fun h => by rw [h, sumI_nil] at hz; omega
        have h2 : (1 : Int) < (k : Int) := by
          rcases Nat.lt_or_ge 1 k with h | h
          · omega
          · rcases hfew.1 h with h | h
            · exact absurd h h1
            · exact absurd h hne
        have h1i : (232 : Int) < (1 : Int) + (z : Int) := by omega
        have hn0 : 0 < n := by rw [← HN.out]; exact List.length_pos_iff.2 hne
        have hn0i : ((n : Int) == 0) = false := by simp; omega
        clear hSz hz hfew htk hq hne
        go_wp2_with (go_at_call 64; refine (HSz.out _ RB).mono ?_; rintro e w6 ⟨rfl, b6⟩; have B6 := below_of b6 BB BB.size)
        go_ret
        exact ⟨ret_bool (by first | rfl | (rw [decide_eq_false (by omega), decide_eq_false (by omega)]; rfl)), B6⟩
end Go.Proofs.Ytldkhhipfoeckaa
