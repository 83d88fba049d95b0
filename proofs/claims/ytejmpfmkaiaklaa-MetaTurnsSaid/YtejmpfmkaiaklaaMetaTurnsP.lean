/-
  Plain facts for the law MetaTurns: a meta's sector torn over an older one, or over zeros. No program in them.
-/
import Derived.Test.YtejmpfmkaiaklaaMetaLaws
import Derived.Test.YtejmpfmkaiaklaaMetaChoose
namespace Go.Proofs.Ytejmpfmkaiaklaa
open Go Go.RowKit

theorem numL_zeros (l : List UInt8) (h : ∀ b ∈ l, b = 0) : numL l = 0 := by
  induction l with
  | nil => rfl
  | cons b l ih =>
    have hb : b = 0 := h b (by simp)
    subst hb
    have := ih fun c hc => h c (by simp [hc])
    unfold numL
    rw [this]; rfl
/-- Torn over zeros: whole, or no meta. -/
theorem torn_zero {m : Mt} (hm : okM m) (ht : m.tx < 4294967296) {cut : Nat} (hc : cut ≤ 256) (h : errM ((layM m).take cut ++ (zerosL 256).drop cut) = 0) :
    (layM m).take cut ++ (zerosL 256).drop cut = layM m := by
  have hp := pgM_ok hm
  obtain ⟨hok, hl⟩ := errM_ok h
  have lp : (layM m).length = 256 := layM_len hm
  have lz : (zerosL 256).length = 256 := List.length_replicate
  generalize hs : (layM m).take cut ++ (zerosL 256).drop cut = s at hok hl h ⊢
  have hx := pgM_ok hok
  have ls : s.length = 256 := by rw [← hl]; exact layM_len hok
  have h4 : (s.drop 4).take 4 = s.drop 252 := by rw [← hl]; unfold layM; rw [lay_low hx, layL_tail hx]
  have p4 : ((layM m).drop 4).take 4 = (layM m).drop 252 := by unfold layM; rw [lay_low hp, layL_tail hp]
  have sa : ∀ j, j < cut → s[j]? = (layM m)[j]? := fun j hj => by
    rw [← hs, List.getElem?_append_left (by rw [List.length_take]; omega), List.getElem?_take, if_pos hj]
  have sb : ∀ j, cut ≤ j → s[j]? = (zerosL 256)[j]? := fun j hj => by
    rw [← hs, List.getElem?_append_right (by rw [List.length_take]; omega), List.length_take, List.getElem?_drop]
    congr 1; omega
  have z0 : ∀ j, j < 256 → (zerosL 256)[j]? = some 0 := fun j hj => by unfold zerosL; rw [List.getElem?_replicate, if_pos hj]
  have at4 : ∀ j, j < 4 → s[4 + j]? = s[252 + j]? := fun j hj => by
    have := congrArg (·[j]?) h4
    simpa [List.getElem?_take, List.getElem?_drop, hj] using this
  have pt4 : ∀ j, j < 4 → (layM m)[4 + j]? = (layM m)[252 + j]? := fun j hj => by
    have := congrArg (·[j]?) p4
    simpa [List.getElem?_take, List.getElem?_drop, hj] using this
  by_cases hc1 : 252 < cut
  · apply List.ext_getElem?
    intro j
    by_cases hj : j < cut
    · exact sa j hj
    · by_cases hj2 : j < 256
      · obtain ⟨i, rfl⟩ : ∃ i, j = 252 + i := ⟨j - 252, by omega⟩
        rw [← at4 i (by omega), sa (4 + i) (by omega), pt4 i (by omega)]
      · rw [List.getElem?_eq_none (by omega), List.getElem?_eq_none (by omega)]
  · exfalso
    by_cases hc2 : 8 ≤ cut
    · have hz : (layM m).drop 252 = zerosL 4 := by
        rw [← p4]
        apply List.ext_getElem?
        intro j
        rw [List.getElem?_take]
        by_cases hj : j < 4
        · rw [if_pos hj, List.getElem?_drop, ← sa (4 + j) (by omega), at4 j hj, sb (252 + j) (by omega), z0 _ (by omega)]
          unfold zerosL; rw [List.getElem?_replicate, if_pos hj]
        · rw [if_neg hj, List.getElem?_eq_none (by rw [show (zerosL 4).length = 4 from rfl]; omega)]
      have ht2 : (layM m).drop 252 = lowB ((pgM m).t % 4294967296) 4 := layL_tail hp
      rw [hz] at ht2
      have e := congrArg numL ht2
      have ez : numL (zerosL 4) = 0 := numL_zeros _ fun b hb => List.eq_of_mem_replicate hb
      rw [ez, num_lowB_lt (by omega)] at e
      have h1 := hm.1
      have : (pgM m).t = m.tx.toNat := rfl
      omega
    · have h1 := hok.1
      have hb : ∀ b ∈ bodyB s, b = 0 := fun b hb => by
        obtain ⟨j, hj⟩ := List.getElem?_of_mem hb
        unfold bodyB at hj
        rw [List.getElem?_take] at hj
        split at hj
        · rw [List.getElem?_drop] at hj
          have hjl := (List.getElem?_eq_some_iff.1 hj).1
          rw [sb _ (by omega), z0 _ (by omega)] at hj
          injection hj with hj; exact hj.symm
        · cases hj
      have e : (mB s).tx = sgn (numL ((bodyB s).take 8)) := rfl
      rw [numL_zeros _ fun b hb2 => hb b (List.mem_of_mem_take hb2)] at e
      have : sgn 0 = 0 := sgn_ok (by omega)
      omega
/-- Torn over an older one. -/
theorem torn_meta {m o : Mt} (hm : okM m) (ho : okM o) (hne : m.tx ≠ o.tx) (ht : m.tx < 4294967296) (hu : o.tx < 4294967296) {cut : Nat} (hc : cut ≤ 256) (h : errM ((layM m).take cut ++ (layM o).drop cut) = 0) :
    (layM m).take cut ++ (layM o).drop cut = layM m ∨ (layM m).take cut ++ (layM o).drop cut = layM o := by
  have hp := pgM_ok hm
  have hq := pgM_ok ho
  have hE : errB ((layM m).take cut ++ (layM o).drop cut) = 0 := by
    unfold errM at h
    split at h
    · omega
    · split at h
      · rename_i h2; exact absurd h h2
      · rename_i h2; simpa using h2
  refine torn hp hq ?_ hc hE
  have e1 : (pgM m).t = m.tx.toNat := rfl
  have e2 : (pgM o).t = o.tx.toNat := rfl
  have := hm.1; have := ho.1
  rw [e1, e2]; omega
/-- What counts of two texts. -/
def chS (a b : List UInt8) : Mt × Int := if (chM (mReadM a) (errM a) (mReadM b) (errM b)).tx = 0 then (noM, 25) else (chM (mReadM a) (errM a) (mReadM b) (errM b), 0)
theorem choose_str (a b : ByteArray) (ha : a.size ≤ 1000) (hb : b.size ≤ 1000) (x : Mt) (f : Int) (h : chS (bts a) (bts b) = (x, f)) (w : World) :
    Calls Try.prog 44 #[.string a, .string b] w fun e w' => e = .returned (.tuple #[metaV x, .int .i64 f]) ∧ Below w.heap.size w w' := by
  refine (choose_any a b _ _ _ _ (fun w => mread_any a w (by omega)) (fun w => mread_any b w (by omega)) w).mono ?_
  rintro e w' ⟨he, hb⟩
  refine ⟨?_, hb⟩
  unfold chS at h
  by_cases hc : (chM (mReadM (bts a)) (errM (bts a)) (mReadM (bts b)) (errM (bts b))).tx = 0
  · rw [if_pos hc] at h
    rw [if_pos hc, if_pos hc] at he
    injection h with h1 h2; subst h1 h2; exact he
  · rw [if_neg hc] at h
    rw [if_neg hc, if_neg hc] at he
    injection h with h1 h2; subst h1 h2; exact he
theorem errM_nil : errM [] = 5 := rfl
theorem mReadM_lay {m : Mt} (h : okM m) : mReadM (layM m) = m := by unfold mReadM; rw [errM_lay h, if_pos rfl, mB_lay h]
theorem chS_of {a b : List UInt8} {m : Mt} (h : chM (mReadM a) (errM a) (mReadM b) (errM b) = m) (ht : 1 ≤ m.tx) : chS a b = (m, 0) := by
  unfold chS; rw [h, if_neg (by omega)]
theorem chS_no {a b : List UInt8} (h : chM (mReadM a) (errM a) (mReadM b) (errM b) = noM) : chS a b = (noM, 25) := by
  unfold chS; rw [h]; exact if_pos rfl
theorem ch1_bad {m : Mt} {e : Nat} (h : e ≠ 0) : ch1 m e = noM := by unfold ch1; rw [if_neg (fun x => h x.1)]
theorem ch1_tx (m : Mt) (e : Nat) (t : Int) (h0 : 0 < t) (h : e ≠ 0 ∨ m.tx < t) : (ch1 m e).tx < t := by
  unfold ch1
  split
  · rename_i hc; rcases h with h | h
    · exact absurd hc.1 h
    · exact h
  · exact h0
/-- The new one stands in slot 0. -/
theorem chS_new0 {m : Mt} (hm : okM m) (h0 : m.tx % 2 = 0) (O : List UInt8) (hO : errM O ≠ 0 ∨ (mReadM O).tx < m.tx) : chS (layM m) O = (m, 0) := by
  refine chS_of ?_ hm.1
  have h1 := hm.1
  rw [mReadM_lay hm, errM_lay hm]
  have e : ch1 m 0 = m := by unfold ch1; rw [if_pos ⟨rfl, h0, by omega⟩]
  unfold chM ch2; rw [e, if_neg]
  rintro ⟨a, b, c⟩
  rcases hO with h | h
  · exact h a
  · omega
theorem chS_new1 {m : Mt} (hm : okM m) (h0 : m.tx % 2 = 1) (O : List UInt8) (hO : errM O ≠ 0 ∨ (mReadM O).tx < m.tx) : chS O (layM m) = (m, 0) := by
  refine chS_of ?_ hm.1
  have h1 := hm.1
  rw [mReadM_lay hm, errM_lay hm]
  unfold chM ch2; rw [if_pos ⟨rfl, h0, ch1_tx _ _ _ (by omega) hO⟩]
theorem chS_old0 {m : Mt} (hm : okM m) (h0 : m.tx % 2 = 1) (T : List UInt8) (hT : errM T ≠ 0 ∨ (mReadM T).tx < m.tx) : chS T (layM m) = (m, 0) := chS_new1 hm h0 T hT
theorem chS_old1 {m : Mt} (hm : okM m) (h0 : m.tx % 2 = 0) (T : List UInt8) (hT : errM T ≠ 0 ∨ (mReadM T).tx < m.tx) : chS (layM m) T = (m, 0) := chS_new0 hm h0 T hT
theorem chS_none (a b : List UInt8) (ha : errM a ≠ 0) (hb : errM b ≠ 0) : chS a b = (noM, 25) := by
  refine chS_no ?_
  unfold chM ch2; rw [ch1_bad ha, if_neg (fun x => hb x.1)]
/-- What stands in the slots behind tx metas. -/
def SlotsOk (tx : Nat) (s : Nat → List UInt8) : Prop :=
  (tx = 0 ∧ s 0 = [] ∧ s 1 = []) ∨ (1 ≤ tx ∧ ∃ ml, okM ml ∧ ml.tx = (tx : Int) ∧ s (tx % 2) = layM ml ∧ ((tx = 1 ∧ s ((tx + 1) % 2) = []) ∨ (2 ≤ tx ∧ ∃ mp, okM mp ∧ mp.tx = (tx : Int) - 1 ∧ s ((tx + 1) % 2) = layM mp)))
/-- What an empty slot counts as when it is torn over. -/
def oldL (l : List UInt8) : List UInt8 := if l = [] then zerosL 256 else l
theorem layM_ne {m : Mt} (h : okM m) : layM m ≠ [] := fun e => by have := layM_len h; rw [e] at this; cases this
/-- One meta more is laid, torn at a place: what counts then, and behind it. -/
theorem turn_plain {tx : Nat} {s : Nat → List UInt8} (h : SlotsOk tx s) {m : Mt} (hm : okM m) (ht : m.tx = (tx : Int) + 1) (htx : tx ≤ 1000) {cut : Nat} (hc : cut ≤ 256) :
    (s ((tx + 1) % 2) = [] ∨ (s ((tx + 1) % 2)).length = 256) ∧ (s (tx % 2) = [] ∨ (s (tx % 2)).length = 256) ∧
    ∃ (x : Mt) (f : Int), (((tx + 1) % 2 = 0 ∧ chS ((layM m).take cut ++ (oldL (s 0)).drop cut) (s 1) = (x, f) ∧ chS (layM m) (s 1) = (m, 0)) ∨ ((tx + 1) % 2 = 1 ∧ chS (s 0) ((layM m).take cut ++ (oldL (s 1)).drop cut) = (x, f) ∧ chS (s 0) (layM m) = (m, 0))) ∧
      ((layM m).take cut ++ (oldL (s ((tx + 1) % 2))).drop cut = layM m ∧ f = 0 ∧ x = m ∨ (layM m).take cut ++ (oldL (s ((tx + 1) % 2))).drop cut ≠ layM m ∧ (tx = 0 ∧ f = 25 ∨ 1 ≤ tx ∧ f = 0 ∧ x.tx = (tx : Int))) := by
  have hmt := hm.2.1
  rcases h with ⟨rfl, h0, h1⟩ | ⟨h1, ml, hl1, hl2, hl3, hrest⟩
  · -- the first one
    have e1 : (0 + 1) % 2 = 1 := rfl
    rw [e1]
    refine ⟨.inl h1, .inl h0, ?_⟩
    have en : errM (s 0) ≠ 0 := by rw [h0]; decide
    have hodd : m.tx % 2 = 1 := by rw [ht]; rfl
    have hnew := chS_new1 hm hodd (s 0) (.inl en)
    rw [h1, show oldL [] = zerosL 256 from rfl]
    by_cases hT : (layM m).take cut ++ (zerosL 256).drop cut = layM m
    · exact ⟨m, 0, .inr ⟨rfl, by rw [hT]; exact hnew, hnew⟩, .inl ⟨hT, rfl, rfl⟩⟩
    · have hE : errM ((layM m).take cut ++ (zerosL 256).drop cut) ≠ 0 := fun e => hT (torn_zero hm (by omega) hc e)
      exact ⟨noM, 25, .inr ⟨rfl, chS_none _ _ en hE, hnew⟩, .inr ⟨hT, .inl ⟨rfl, rfl⟩⟩⟩
  · have hol : s (tx % 2) = [] ∨ (s (tx % 2)).length = 256 := .inr (by rw [hl3]; exact layM_len hl1)
    have hlr : mReadM (layM ml) = ml := mReadM_lay hl1
    have hlt : errM (s (tx % 2)) ≠ 0 ∨ (mReadM (s (tx % 2))).tx < m.tx := .inr (by rw [hl3, hlr]; omega)
    -- the torn one: whole, or none that counts
    have hT : (s ((tx + 1) % 2) = [] ∨ (s ((tx + 1) % 2)).length = 256) ∧ ((layM m).take cut ++ (oldL (s ((tx + 1) % 2))).drop cut = layM m ∨ ((layM m).take cut ++ (oldL (s ((tx + 1) % 2))).drop cut ≠ layM m ∧ (errM ((layM m).take cut ++ (oldL (s ((tx + 1) % 2))).drop cut) ≠ 0 ∨ (mReadM ((layM m).take cut ++ (oldL (s ((tx + 1) % 2))).drop cut)).tx < ml.tx))) := by
      rcases hrest with ⟨_, hr⟩ | ⟨h2, mp, hp1, hp2, hr⟩
      · rw [hr, show oldL [] = zerosL 256 from rfl]
        refine ⟨.inl rfl, ?_⟩
        by_cases hT : (layM m).take cut ++ (zerosL 256).drop cut = layM m
        · exact .inl hT
        · exact .inr ⟨hT, .inl fun e => hT (torn_zero hm (by omega) hc e)⟩
      · have ho : oldL (s ((tx + 1) % 2)) = layM mp := by rw [hr]; exact if_neg (layM_ne hp1)
        rw [ho]
        refine ⟨.inr (by rw [hr]; exact layM_len hp1), ?_⟩
        by_cases hT : (layM m).take cut ++ (layM mp).drop cut = layM m
        · exact .inl hT
        · refine .inr ⟨hT, ?_⟩
          by_cases hE : errM ((layM m).take cut ++ (layM mp).drop cut) = 0
          · right
            have := (torn_meta hm hp1 (by omega) (by omega) (by omega) hc hE).resolve_left hT
            rw [this, mReadM_lay hp1]; omega
          · exact .inl hE
    refine ⟨hT.1, hol, ?_⟩
    have hpar : tx % 2 = 0 ∧ (tx + 1) % 2 = 1 ∨ tx % 2 = 1 ∧ (tx + 1) % 2 = 0 := by omega
    have hT2 := hT.2
    rcases hpar with ⟨p0, p1⟩ | ⟨p0, p1⟩
    · rw [p0] at hl3 hlt
      rw [p1] at hT2 ⊢
      have hodd : m.tx % 2 = 1 := by omega
      have heven : ml.tx % 2 = 0 := by omega
      have hnew := chS_new1 hm hodd (s 0) hlt
      rcases hT2 with hT2 | ⟨hT2, hE⟩
      · exact ⟨m, 0, .inr ⟨rfl, by rw [hT2]; exact hnew, hnew⟩, .inl ⟨hT2, rfl, rfl⟩⟩
      · exact ⟨ml, 0, .inr ⟨rfl, by rw [hl3]; exact chS_old1 hl1 heven _ hE, hnew⟩, .inr ⟨hT2, .inr ⟨h1, rfl, hl2⟩⟩⟩
    · rw [p0] at hl3 hlt
      rw [p1] at hT2 ⊢
      have heven : m.tx % 2 = 0 := by omega
      have hodd : ml.tx % 2 = 1 := by omega
      have hnew := chS_new0 hm heven (s 1) hlt
      rcases hT2 with hT2 | ⟨hT2, hE⟩
      · exact ⟨m, 0, .inl ⟨rfl, by rw [hT2]; exact hnew, hnew⟩, .inl ⟨hT2, rfl, rfl⟩⟩
      · exact ⟨ml, 0, .inl ⟨rfl, by rw [hl3]; exact chS_old0 hl1 hodd _ hE, hnew⟩, .inr ⟨hT2, .inr ⟨h1, rfl, hl2⟩⟩⟩
/-- The slots behind one more. -/
theorem slots_next {tx : Nat} {s s' : Nat → List UInt8} (h : SlotsOk tx s) {m : Mt} (hm : okM m) (ht : m.tx = (tx : Int) + 1) (h1 : s' ((tx + 1) % 2) = layM m) (h2 : s' (tx % 2) = s (tx % 2)) : SlotsOk (tx + 1) s' := by
  have e : (tx + 1 + 1) % 2 = tx % 2 := by omega
  refine .inr ⟨by omega, m, hm, by omega, h1, ?_⟩
  rw [e, h2]
  rcases h with ⟨rfl, h0, _⟩ | ⟨h1, ml, hl1, hl2, hl3, _⟩
  · exact .inl ⟨rfl, h0⟩
  · exact .inr ⟨by omega, ml, hl1, by omega, hl3⟩
end Go.Proofs.Ytejmpfmkaiaklaa
