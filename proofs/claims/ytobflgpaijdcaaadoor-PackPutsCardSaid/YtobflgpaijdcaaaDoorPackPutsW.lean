/-
  The walk of the law PackPuts. Condition: the library's table of powers of ten is as its text lays it.
-/
import Derived.Test.YtobflgpaijdcaaaDoorPackOps
import Derived.Test.YtobflgpaijdcaaaDoorPackSizesW
import Derived.Lib.Builder
namespace Go.Proofs.YtobflgpaijdcaaaDoor
open Go Go.RowKit
attribute [local go_sem] cell_set_if

/-- Does what an act puts fit? -/
def fitsP (o : OpV) : Bool :=
  if o.kind = 1 then decide (0 ≤ o.num ∧ o.num < (256 : Int) ^ 1) else if o.kind = 2 then decide (0 ≤ o.num ∧ o.num < (256 : Int) ^ 2) else if o.kind = 3 then decide (0 ≤ o.num ∧ o.num < (256 : Int) ^ 4)
  else if o.kind = 4 then true else if o.kind = 5 then decide (o.txt.size ≤ 65535) else true
/-- Its bytes. -/
def bytesP (o : OpV) : List UInt8 :=
  if o.kind = 1 then lowB o.num.toNat 1 else if o.kind = 2 then lowB o.num.toNat 2 else if o.kind = 3 then lowB o.num.toNat 4
  else if o.kind = 4 then lowB (Go.Proofs.YtobflgpaijdcaaaDoor.u64 o.num) 8 else if o.kind = 5 then lowB o.txt.size 2 ++ bts o.txt else bts o.txt
/-- Its error. -/
def errP (o : OpV) : Int := if o.kind = 5 then 2 else 1
/-- What a Put bears behind an act. -/
def stepP (o : OpV) (s : PS) : PS := if s.2 = 0 then (if fitsP o = true then (s.1 ++ bytesP o, 0) else (s.1, errP o)) else s
theorem stepP_len (o : OpV) (s : PS) : (stepP o s).1.length ≤ s.1.length + (8 + o.txt.size) := by
  unfold stepP
  split
  · split
    · simp only [List.length_append]
      have : (bytesP o).length ≤ 8 + o.txt.size := by
        unfold bytesP
        repeat' split
        all_goals (try simp only [lowB_len, List.length_append, bts_len]); try omega
      omega
    · dsimp only; omega
  · omega
theorem stepP_small (o : OpV) (n : Nat) (s : PS) (hok : fitsP o = decide (0 ≤ o.num ∧ o.num < (256 : Int) ^ n)) (hb : bytesP o = lowB o.num.toNat n) (he : errP o = 1) : putSmall n o.num s = stepP o s := by
  unfold putSmall stepP
  rw [hok, hb, he]
  by_cases h0 : s.2 = 0
  · rw [if_pos h0, if_pos h0]
    by_cases h1 : o.num < 0 ∨ (256 : Int) ^ n ≤ o.num
    · rw [if_pos h1, if_neg (by simp; omega)]
    · rw [if_neg h1, if_pos (by simp; omega)]
  · rw [if_neg h0, if_neg h0]
theorem pk_as {f : FuncId} {args : Array Value} {w : World} {base g : Nat} {r : Ending} {s s' : PS} (h : Calls Tryd.prog f args w fun e w' => e = r ∧ PutS base w' g s ∧ BK base w w') (e : s = s') :
    Calls Tryd.prog f args w fun e w' => e = r ∧ PutS base w' g s' ∧ BK base w w' := e ▸ h
theorem fit_all (o : OpV) (n : Nat) (hn : n = 1 ∨ n = 2 ∨ n = 4) (hok : fitsP o = decide (0 ≤ o.num ∧ o.num < (256 : Int) ^ n)) (hb : bytesP o = lowB o.num.toNat n) (hw : o.num ≤ 9223372036854775807) :
    ∃ T : ByteArray, (fitsP o = true → bts T = bytesP o) ∧ ∀ w, Calls Tryd.prog 35 #[.int .i64 o.num, .int .i64 n] w fun e w' => e = .returned (.tuple #[.string T, .bool (fitsP o)]) ∧ Below w.heap.size w w' := by
  by_cases h : 0 ≤ o.num ∧ o.num < (256 : Int) ^ n
  · have hk : fitsP o = true := by rw [hok]; simp; exact h
    refine ⟨bs (bytesP o), fun _ => rfl, fun w => ?_⟩
    rw [hk]
    exact fit_yes o.num n w _ hn h.1 h.2 (by rw [← hb]; rfl)
  · have hk : fitsP o = false := by rw [hok]; simp; omega
    refine ⟨⟨#[]⟩, (fun h => by rw [hk] at h; cases h), fun w => ?_⟩
    rw [hk]
    exact fit_no o.num n w hn hw (by omega)

set_option maxRecDepth 100000 in
set_option maxHeartbeats 8000000 in
theorem puts_good (A : Option Addr) (n c : Nat) (os : List OpV) (w : World) (ht : PowIs w) (hr : Rd w A (flatO os)) (hn : os.length = n) (hm : n ≤ maxLen) (hs : ∀ o ∈ os, o.txt.size ≤ maxLen ∧ o.num ≤ 9223372036854775807) (hl : lightO os = true) :
    Calls Tryd.prog 6 #[.slice A n c] w fun e w' => e = .returned (.bool true) ∧ Below w.heap.size w w' := by
  have h60 : n ≤ 60 ∧ sumO os ≤ 20000 := by
    unfold lightO at hl
    simp at hl
    have e : os.take 100 = os := List.take_of_length_le (by omega)
    rw [e] at hl; omega
  obtain ⟨h60, hsum⟩ := h60
  have hnn : (n : Int) ≤ 60 := by omega
  obtain ⟨jj, hjj⟩ := Option.isSome_iff_exists.1 (show (Tryd.prog.info? 42).isSome = true by kernel_rfl)
  have hpp := fun (w : World) (a : Addr) => Lib.run_neq_ptr_same (P := Tryd.prog) (w := w) (tp := 39) (te := 42) (j := jj) a Tryd.underlying39 hjj
  have hlight := light_any A n c os w hr hn hm fun o ho => (hs o ho).1
  rw [hl] at hlight
  have HLI := Lib.hid hlight
  have HT := Lib.hid ht
  have HR := Lib.hid hr
  have HN := Lib.hid hn
  have HS := Lib.hid hs
  have HSUM := Lib.hid hsum
  clear hl hlight ht hr hn hs hjj hm
  go_enter Tryd.func6, Tryd.ntmps6
  go_wp2_with (first
    | (go_at_call 12; refine HLI.out.mono ?_; rintro e w0 ⟨rfl, hw0⟩; subst hw0)
    | (go_at_call 13; refine (alive1_any _ HT.out).mono ?_; rintro e wa ⟨rfl, ba⟩; have P0 := new_put wa; have B0 : Below w0.heap.size w0 (wa.alloc (.cells #[.slice none 0 0, .int .i64 0] 42)) := ba.alloc ba.size _))
  have hg : w0.heap.size ≤ wa.heap.size := ba.size
  generalize wa.heap.size = g at *
  go_loopw [4, 5, 6] (fun u4 u5 u6 wr => ∃ (k : Nat) (S : PS) (W : ByteArray), k ≤ n ∧ u6 = .int .i64 k ∧ u4 = .string W ∧ u5 = .int .i64 S.2 ∧ bts W = S.1 ∧ S.1.length ≤ 8 * k + sumO (os.take k) ∧ PutS g wr g S ∧ Below w0.heap.size w0 wr) (fun _ _ u6 _ => n - (intOf u6).toNat)
  case atStart => exact ⟨0, ([], 0), ⟨#[]⟩, by omega, rfl, rfl, rfl, rfl, by simp, P0, B0⟩
  case round =>
    obtain ⟨k, S, W, hk, rfl, rfl, rfl, hWS, hlen, hP, hB⟩ := hrel
    clear P0 B0
    by_cases hlt : k < n
    · obtain ⟨o, ho⟩ : ∃ o, os[k]? = some o := ⟨os[k]'(by have := HN.out; omega), List.getElem?_eq_getElem _⟩
      obtain ⟨bb, off, rfl, hbl, hcs⟩ := HR.out.flat (by rw [flatO_len]; have := HN.out; omega)
      have d0 : wr.cell? ⟨bb, off + k * 3, none⟩ = some (.int .i64 o.kind) := by rw [(below_cells hB).1 bb _ hbl]; exact hcs _ _ (flatO_at os k o ho 0 _ rfl)
      have d1 : wr.cell? ⟨bb, off + k * 3 + 1, none⟩ = some (.int .i64 o.num) := by rw [(below_cells hB).1 bb _ hbl, Nat.add_assoc]; exact hcs _ _ (flatO_at os k o ho 1 _ rfl)
      have d2 : wr.cell? ⟨bb, off + k * 3 + 2, none⟩ = some (.string o.txt) := by rw [(below_cells hB).1 bb _ hbl, Nat.add_assoc]; exact hcs _ _ (flatO_at os k o ho 2 _ rfl)
      have hmem : o ∈ os := List.mem_of_getElem? ho
      obtain ⟨hos, hon⟩ := HS.out o hmem
      have hT := sumO_take os k o ho
      have hT2 := sumO_mono os (k + 1)
      have hT3 := HSUM.out
      have hlen2 := stepP_len o S
      have hLA : Hid (S.1.length + o.txt.size ≤ 30000) := by unfold Hid; omega
      have hLB : Hid ((stepP o S).1.length ≤ 8 * (k + 1) + sumO (os.take (k + 1))) := by unfold Hid; omega
      have hLC : Hid ((stepP o S).1.length ≤ 30000) := by unfold Hid; omega
      have hts : o.txt.size ≤ 20000 := by omega
      clear hcs hT hT2 hT3 hlen2 hos hmem ho hlen
      -- what an act does
      have hcase : ∀ T : ByteArray, (fitsP o = true → bts T = bytesP o) → T.size ≤ 30000 → (S.2 = 0 ∧ fitsP o = true ∧ bts (W ++ T) = (stepP o S).1 ∧ (stepP o S).2 = 0) ∨ (S.2 = 0 ∧ fitsP o = false ∧ bts W = (stepP o S).1 ∧ (stepP o S).2 = errP o) ∨ (S.2 ≠ 0 ∧ stepP o S = S) := by
        intro T hT _
        by_cases h0 : S.2 = 0
        · cases hk : fitsP o
          · right; left
            refine ⟨h0, rfl, ?_, ?_⟩ <;> simp [stepP, h0, hk, hWS]
          · left
            refine ⟨h0, rfl, ?_, ?_⟩
            · rw [bts_append, hT hk]; simp [stepP, h0, hk, hWS]
            · simp [stepP, h0, hk]
        · right; right
          exact ⟨h0, by simp [stepP, h0]⟩
      have HC := Lib.hid hcase
      have HWS := Lib.hid hWS
      clear hcase hWS
      have P1 := hP.below ((Below.refl _ _).alloc (Nat.le_refl _) (.cells #[.int .i64 o.kind, .int .i64 o.num, .string o.txt] 32))
      have B1 := hB.alloc hB.size (.cells #[.int .i64 o.kind, .int .i64 o.num, .string o.txt] 32)
      have OB : Blk (wr.alloc (.cells #[.int .i64 o.kind, .int .i64 o.num, .string o.txt] 32)) wr.heap.size 32 #[.int .i64 o.kind, .int .i64 o.num, .string o.txt] := Blk.new _ _ _
      have hkinds : o.kind = 1 ∨ o.kind = 2 ∨ o.kind = 3 ∨ o.kind = 4 ∨ o.kind = 5 ∨ (o.kind ≠ 1 ∧ o.kind ≠ 2 ∧ o.kind ≠ 3 ∧ o.kind ≠ 4 ∧ o.kind ≠ 5) := by omega
      rcases hkinds with hkd | hkd | hkd | hkd | hkd | ⟨hk1, hk2, hk3, hk4, hk5⟩
      · -- kind 1
        have ek : fitsP o = decide (0 ≤ o.num ∧ o.num < (256 : Int) ^ 1) := by simp [fitsP, hkd]
        have eb : bytesP o = lowB o.num.toNat 1 := by simp [bytesP, hkd]
        have HST := Lib.hid (stepP_small o 1 S ek eb (by simp [errP, hkd]))
        obtain ⟨T, hT, hdoc⟩ := fit_all o 1 (by omega) ek eb hon
        have hTs : T.size ≤ 30000 ∨ fitsP o = false := by
          cases hq : fitsP o
          · exact .inr rfl
          · left; rw [← bts_len, hT hq, eb, lowB_len]; omega
        have er : errP o = 1 := by simp [errP, hkd]
        clear ek eb
        have HDOC := Lib.hid hdoc
        have hcs : (S.2 = 0 ∧ fitsP o = true ∧ bts (W ++ T) = (stepP o S).1 ∧ (stepP o S).2 = 0 ∧ T.size ≤ 30000) ∨ (S.2 = 0 ∧ fitsP o = false ∧ bts W = (stepP o S).1 ∧ (stepP o S).2 = errP o) ∨ (S.2 ≠ 0 ∧ stepP o S = S) := by
          rcases hTs with h | h
          · rcases HC.out T hT h with ⟨h1, h2, h3, h4⟩ | h1 | h1
            · exact .inl ⟨h1, h2, h3, h4, h⟩
            · exact .inr (.inl h1)
            · exact .inr (.inr h1)
          · by_cases h0 : S.2 = 0
            · exact .inr (.inl ⟨h0, h, by simp [stepP, h0, h, HWS.out], by simp [stepP, h0, h]⟩)
            · exact .inr (.inr ⟨h0, by simp [stepP, h0]⟩)
        have hW1 : W.size ≤ 30000 := by rw [← bts_len, HWS.out]; have := hLA.out; omega
        clear hdoc
        clear hT hTs HC
        generalize hS' : stepP o S = S' at *
        clear hS'
        generalize fitsP o = ok at *
        rw [er] at hcs
        clear er
        have hkk := hkd
        generalize o.kind = kd at *
        subst hkk
        clear hkd
        rcases hcs with ⟨h0, h1, h2, h3, h4⟩ | ⟨h0, h1, h2, h3⟩ | ⟨h0, h1⟩
        · have HE : Hid (endP S' = (bts (W ++ T), 0)) := by unfold Hid endP; rw [if_pos h3, ← h2]
          have HW2 : Hid (bts (W ++ T) = S'.1) := h2
          have HB2 : Hid ((0 : Int) = S'.2) := h3.symm
          have HLN : Hid ((S'.1.length : Int) = ((W ++ T).size : Int)) := by unfold Hid; rw [← h2, bts_len]
          have hmax : ¬ (9223372036854775807 < W.size + T.size) := by omega
          have hb0 : (S.2 == 0) = true := by simpa using h0
          subst h1
          rw [h0] at hb0
          rw [h0]
          clear h0 h2 h3 
          go_wp2_with (first
            | (go_at_call 29; refine (pk_as (pbyte_k _ _ _ _ _ P1 (by have := hLA.out; omega)) HST.out).mono ?_; rintro e w3 ⟨rfl, P2, d3⟩; have B2 := B1.trans (d3.1.mono hg); have O2 := d3.2 _ _ _ OB (by decide) (by decide); have oc := O2.cell)
            | (go_at_call 35; refine (HDOC.out _).mono ?_; rintro e w4 ⟨rfl, d4⟩; have P2 := P2.below d4; have B2 := below_of d4 B2 B2.size)
            | (go_at_call 32; refine (end_as (pend_s _ _ _ _ P2) HE.out).mono ?_; rintro e w6 ⟨rfl, n6, h6⟩; have P3 : PutS g w6 g S' := h6 ▸ (P2.below (below_drewN (Below.refl _ _) n6)); have B3 : Below w0.heap.size w0 w6 := h6 ▸ below_drewN B2 n6; clear h6)
            | (go_at_call 39; refine (plen_as P3 HLN.out).mono ?_; rintro e w7 ⟨rfl, hw7⟩; subst hw7))
          go_roundw
          case rel => exact ⟨k + 1, S', W ++ T, by omega, by go_num, rfl, int_eq HB2.out, HW2.out, hLB.out, P3, B3⟩
          case measure => simp [intOf]; omega
        · have HE : Hid (endP S' = (bts ⟨#[]⟩, 1)) := by unfold Hid endP; rw [if_neg (by rw [h3]; decide), h3]; rfl
          have HW2 : Hid (bts W = S'.1) := h2
          have HB2 : Hid ((1 : Int) = S'.2) := h3.symm
          have HLN : Hid (True) := trivial
          subst h1
          rw [h0]
          clear h0 h2 h3
          go_wp2_with (first
            | (go_at_call 29; refine (pk_as (pbyte_k _ _ _ _ _ P1 (by have := hLA.out; omega)) HST.out).mono ?_; rintro e w3 ⟨rfl, P2, d3⟩; have B2 := B1.trans (d3.1.mono hg); have O2 := d3.2 _ _ _ OB (by decide) (by decide); have oc := O2.cell)
            | (go_at_call 35; refine (HDOC.out _).mono ?_; rintro e w4 ⟨rfl, d4⟩; have P2 := P2.below d4; have B2 := below_of d4 B2 B2.size)
            | (go_at_call 32; refine (end_as (pend_s _ _ _ _ P2) HE.out).mono ?_; rintro e w6 ⟨rfl, n6, h6⟩; have P3 : PutS g w6 g S' := h6 ▸ (P2.below (below_drewN (Below.refl _ _) n6)); have B3 : Below w0.heap.size w0 w6 := h6 ▸ below_drewN B2 n6; clear h6)
            | fail)
          go_roundw
          case rel => exact ⟨k + 1, S', W, by omega, by go_num, rfl, int_eq HB2.out, HW2.out, hLB.out, P3, B3⟩
          case measure => simp [intOf]; omega
        · subst h1
          have HE : Hid (endP S' = (bts ⟨#[]⟩, S'.2)) := by unfold Hid endP; rw [if_neg h0]; rfl
          have HW2 : Hid (bts W = S'.1) := HWS
          have HB2 : Hid (S'.2 = S'.2) := rfl
          have hb0 : (S'.2 == 0) = false := by simpa using h0
          have hb1 : (S'.2 != 0) = true := by simpa using h0
          obtain ⟨er, her⟩ : ∃ er, er = S'.2 := ⟨_, rfl⟩
          rw [← her] at HE HB2 hb0 hb1 ⊢
          replace HB2 : Hid (er = S'.2) := her
          clear h0 her
          go_wp2_with (first
            | (go_at_call 29; refine (pk_as (pbyte_k _ _ _ _ _ P1 (by have := hLA.out; omega)) HST.out).mono ?_; rintro e w3 ⟨rfl, P2, d3⟩; have B2 := B1.trans (d3.1.mono hg); have O2 := d3.2 _ _ _ OB (by decide) (by decide); have oc := O2.cell)
            | (go_at_call 35; refine (HDOC.out _).mono ?_; rintro e w4 ⟨rfl, d4⟩; have P2 := P2.below d4; have B2 := below_of d4 B2 B2.size)
            | (go_at_call 32; refine (end_as (pend_s _ _ _ _ P2) HE.out).mono ?_; rintro e w6 ⟨rfl, n6, h6⟩; have P3 : PutS g w6 g S' := h6 ▸ (P2.below (below_drewN (Below.refl _ _) n6)); have B3 : Below w0.heap.size w0 w6 := h6 ▸ below_drewN B2 n6; clear h6)
            | fail)
          go_roundw
          case rel => exact ⟨k + 1, S', W, by omega, by go_num, rfl, int_eq HB2.out, HW2.out, hLB.out, P3, B3⟩
          case measure => simp [intOf]; omega
      · -- kind 2
        have ek : fitsP o = decide (0 ≤ o.num ∧ o.num < (256 : Int) ^ 2) := by simp [fitsP, hkd]
        have eb : bytesP o = lowB o.num.toNat 2 := by simp [bytesP, hkd]
        have HST := Lib.hid (stepP_small o 2 S ek eb (by simp [errP, hkd]))
        obtain ⟨T, hT, hdoc⟩ := fit_all o 2 (by omega) ek eb hon
        have hTs : T.size ≤ 30000 ∨ fitsP o = false := by
          cases hq : fitsP o
          · exact .inr rfl
          · left; rw [← bts_len, hT hq, eb, lowB_len]; omega
        have er : errP o = 1 := by simp [errP, hkd]
        clear ek eb
        have HDOC := Lib.hid hdoc
        have hcs : (S.2 = 0 ∧ fitsP o = true ∧ bts (W ++ T) = (stepP o S).1 ∧ (stepP o S).2 = 0 ∧ T.size ≤ 30000) ∨ (S.2 = 0 ∧ fitsP o = false ∧ bts W = (stepP o S).1 ∧ (stepP o S).2 = errP o) ∨ (S.2 ≠ 0 ∧ stepP o S = S) := by
          rcases hTs with h | h
          · rcases HC.out T hT h with ⟨h1, h2, h3, h4⟩ | h1 | h1
            · exact .inl ⟨h1, h2, h3, h4, h⟩
            · exact .inr (.inl h1)
            · exact .inr (.inr h1)
          · by_cases h0 : S.2 = 0
            · exact .inr (.inl ⟨h0, h, by simp [stepP, h0, h, HWS.out], by simp [stepP, h0, h]⟩)
            · exact .inr (.inr ⟨h0, by simp [stepP, h0]⟩)
        have hW1 : W.size ≤ 30000 := by rw [← bts_len, HWS.out]; have := hLA.out; omega
        clear hdoc
        clear hT hTs HC
        generalize hS' : stepP o S = S' at *
        clear hS'
        generalize fitsP o = ok at *
        rw [er] at hcs
        clear er
        have hkk := hkd
        generalize o.kind = kd at *
        subst hkk
        clear hkd
        rcases hcs with ⟨h0, h1, h2, h3, h4⟩ | ⟨h0, h1, h2, h3⟩ | ⟨h0, h1⟩
        · have HE : Hid (endP S' = (bts (W ++ T), 0)) := by unfold Hid endP; rw [if_pos h3, ← h2]
          have HW2 : Hid (bts (W ++ T) = S'.1) := h2
          have HB2 : Hid ((0 : Int) = S'.2) := h3.symm
          have HLN : Hid ((S'.1.length : Int) = ((W ++ T).size : Int)) := by unfold Hid; rw [← h2, bts_len]
          have hmax : ¬ (9223372036854775807 < W.size + T.size) := by omega
          have hb0 : (S.2 == 0) = true := by simpa using h0
          subst h1
          rw [h0] at hb0
          rw [h0]
          clear h0 h2 h3 
          go_wp2_with (first
            | (go_at_call 36; refine (pk_as (phalf_k _ _ _ _ _ P1 (by have := hLA.out; omega)) HST.out).mono ?_; rintro e w3 ⟨rfl, P2, d3⟩; have B2 := B1.trans (d3.1.mono hg); have O2 := d3.2 _ _ _ OB (by decide) (by decide); have oc := O2.cell)
            | (go_at_call 35; refine (HDOC.out _).mono ?_; rintro e w4 ⟨rfl, d4⟩; have P2 := P2.below d4; have B2 := below_of d4 B2 B2.size)
            | (go_at_call 32; refine (end_as (pend_s _ _ _ _ P2) HE.out).mono ?_; rintro e w6 ⟨rfl, n6, h6⟩; have P3 : PutS g w6 g S' := h6 ▸ (P2.below (below_drewN (Below.refl _ _) n6)); have B3 : Below w0.heap.size w0 w6 := h6 ▸ below_drewN B2 n6; clear h6)
            | (go_at_call 39; refine (plen_as P3 HLN.out).mono ?_; rintro e w7 ⟨rfl, hw7⟩; subst hw7))
          go_roundw
          case rel => exact ⟨k + 1, S', W ++ T, by omega, by go_num, rfl, int_eq HB2.out, HW2.out, hLB.out, P3, B3⟩
          case measure => simp [intOf]; omega
        · have HE : Hid (endP S' = (bts ⟨#[]⟩, 1)) := by unfold Hid endP; rw [if_neg (by rw [h3]; decide), h3]; rfl
          have HW2 : Hid (bts W = S'.1) := h2
          have HB2 : Hid ((1 : Int) = S'.2) := h3.symm
          have HLN : Hid (True) := trivial
          subst h1
          rw [h0]
          clear h0 h2 h3
          go_wp2_with (first
            | (go_at_call 36; refine (pk_as (phalf_k _ _ _ _ _ P1 (by have := hLA.out; omega)) HST.out).mono ?_; rintro e w3 ⟨rfl, P2, d3⟩; have B2 := B1.trans (d3.1.mono hg); have O2 := d3.2 _ _ _ OB (by decide) (by decide); have oc := O2.cell)
            | (go_at_call 35; refine (HDOC.out _).mono ?_; rintro e w4 ⟨rfl, d4⟩; have P2 := P2.below d4; have B2 := below_of d4 B2 B2.size)
            | (go_at_call 32; refine (end_as (pend_s _ _ _ _ P2) HE.out).mono ?_; rintro e w6 ⟨rfl, n6, h6⟩; have P3 : PutS g w6 g S' := h6 ▸ (P2.below (below_drewN (Below.refl _ _) n6)); have B3 : Below w0.heap.size w0 w6 := h6 ▸ below_drewN B2 n6; clear h6)
            | fail)
          go_roundw
          case rel => exact ⟨k + 1, S', W, by omega, by go_num, rfl, int_eq HB2.out, HW2.out, hLB.out, P3, B3⟩
          case measure => simp [intOf]; omega
        · subst h1
          have HE : Hid (endP S' = (bts ⟨#[]⟩, S'.2)) := by unfold Hid endP; rw [if_neg h0]; rfl
          have HW2 : Hid (bts W = S'.1) := HWS
          have HB2 : Hid (S'.2 = S'.2) := rfl
          have hb0 : (S'.2 == 0) = false := by simpa using h0
          have hb1 : (S'.2 != 0) = true := by simpa using h0
          obtain ⟨er, her⟩ : ∃ er, er = S'.2 := ⟨_, rfl⟩
          rw [← her] at HE HB2 hb0 hb1 ⊢
          replace HB2 : Hid (er = S'.2) := her
          clear h0 her
          go_wp2_with (first
            | (go_at_call 36; refine (pk_as (phalf_k _ _ _ _ _ P1 (by have := hLA.out; omega)) HST.out).mono ?_; rintro e w3 ⟨rfl, P2, d3⟩; have B2 := B1.trans (d3.1.mono hg); have O2 := d3.2 _ _ _ OB (by decide) (by decide); have oc := O2.cell)
            | (go_at_call 35; refine (HDOC.out _).mono ?_; rintro e w4 ⟨rfl, d4⟩; have P2 := P2.below d4; have B2 := below_of d4 B2 B2.size)
            | (go_at_call 32; refine (end_as (pend_s _ _ _ _ P2) HE.out).mono ?_; rintro e w6 ⟨rfl, n6, h6⟩; have P3 : PutS g w6 g S' := h6 ▸ (P2.below (below_drewN (Below.refl _ _) n6)); have B3 : Below w0.heap.size w0 w6 := h6 ▸ below_drewN B2 n6; clear h6)
            | fail)
          go_roundw
          case rel => exact ⟨k + 1, S', W, by omega, by go_num, rfl, int_eq HB2.out, HW2.out, hLB.out, P3, B3⟩
          case measure => simp [intOf]; omega
      · -- kind 3
        have ek : fitsP o = decide (0 ≤ o.num ∧ o.num < (256 : Int) ^ 4) := by simp [fitsP, hkd]
        have eb : bytesP o = lowB o.num.toNat 4 := by simp [bytesP, hkd]
        have HST := Lib.hid (stepP_small o 4 S ek eb (by simp [errP, hkd]))
        obtain ⟨T, hT, hdoc⟩ := fit_all o 4 (by omega) ek eb hon
        have hTs : T.size ≤ 30000 ∨ fitsP o = false := by
          cases hq : fitsP o
          · exact .inr rfl
          · left; rw [← bts_len, hT hq, eb, lowB_len]; omega
        have er : errP o = 1 := by simp [errP, hkd]
        clear ek eb
        have HDOC := Lib.hid hdoc
        have hcs : (S.2 = 0 ∧ fitsP o = true ∧ bts (W ++ T) = (stepP o S).1 ∧ (stepP o S).2 = 0 ∧ T.size ≤ 30000) ∨ (S.2 = 0 ∧ fitsP o = false ∧ bts W = (stepP o S).1 ∧ (stepP o S).2 = errP o) ∨ (S.2 ≠ 0 ∧ stepP o S = S) := by
          rcases hTs with h | h
          · rcases HC.out T hT h with ⟨h1, h2, h3, h4⟩ | h1 | h1
            · exact .inl ⟨h1, h2, h3, h4, h⟩
            · exact .inr (.inl h1)
            · exact .inr (.inr h1)
          · by_cases h0 : S.2 = 0
            · exact .inr (.inl ⟨h0, h, by simp [stepP, h0, h, HWS.out], by simp [stepP, h0, h]⟩)
            · exact .inr (.inr ⟨h0, by simp [stepP, h0]⟩)
        have hW1 : W.size ≤ 30000 := by rw [← bts_len, HWS.out]; have := hLA.out; omega
        clear hdoc
        clear hT hTs HC
        generalize hS' : stepP o S = S' at *
        clear hS'
        generalize fitsP o = ok at *
        rw [er] at hcs
        clear er
        have hkk := hkd
        generalize o.kind = kd at *
        subst hkk
        clear hkd
        rcases hcs with ⟨h0, h1, h2, h3, h4⟩ | ⟨h0, h1, h2, h3⟩ | ⟨h0, h1⟩
        · have HE : Hid (endP S' = (bts (W ++ T), 0)) := by unfold Hid endP; rw [if_pos h3, ← h2]
          have HW2 : Hid (bts (W ++ T) = S'.1) := h2
          have HB2 : Hid ((0 : Int) = S'.2) := h3.symm
          have HLN : Hid ((S'.1.length : Int) = ((W ++ T).size : Int)) := by unfold Hid; rw [← h2, bts_len]
          have hmax : ¬ (9223372036854775807 < W.size + T.size) := by omega
          have hb0 : (S.2 == 0) = true := by simpa using h0
          subst h1
          rw [h0] at hb0
          rw [h0]
          clear h0 h2 h3 
          go_wp2_with (first
            | (go_at_call 33; refine (pk_as (pword_k _ _ _ _ _ P1 (by have := hLA.out; omega)) HST.out).mono ?_; rintro e w3 ⟨rfl, P2, d3⟩; have B2 := B1.trans (d3.1.mono hg); have O2 := d3.2 _ _ _ OB (by decide) (by decide); have oc := O2.cell)
            | (go_at_call 35; refine (HDOC.out _).mono ?_; rintro e w4 ⟨rfl, d4⟩; have P2 := P2.below d4; have B2 := below_of d4 B2 B2.size)
            | (go_at_call 32; refine (end_as (pend_s _ _ _ _ P2) HE.out).mono ?_; rintro e w6 ⟨rfl, n6, h6⟩; have P3 : PutS g w6 g S' := h6 ▸ (P2.below (below_drewN (Below.refl _ _) n6)); have B3 : Below w0.heap.size w0 w6 := h6 ▸ below_drewN B2 n6; clear h6)
            | (go_at_call 39; refine (plen_as P3 HLN.out).mono ?_; rintro e w7 ⟨rfl, hw7⟩; subst hw7))
          go_roundw
          case rel => exact ⟨k + 1, S', W ++ T, by omega, by go_num, rfl, int_eq HB2.out, HW2.out, hLB.out, P3, B3⟩
          case measure => simp [intOf]; omega
        · have HE : Hid (endP S' = (bts ⟨#[]⟩, 1)) := by unfold Hid endP; rw [if_neg (by rw [h3]; decide), h3]; rfl
          have HW2 : Hid (bts W = S'.1) := h2
          have HB2 : Hid ((1 : Int) = S'.2) := h3.symm
          have HLN : Hid (True) := trivial
          subst h1
          rw [h0]
          clear h0 h2 h3
          go_wp2_with (first
            | (go_at_call 33; refine (pk_as (pword_k _ _ _ _ _ P1 (by have := hLA.out; omega)) HST.out).mono ?_; rintro e w3 ⟨rfl, P2, d3⟩; have B2 := B1.trans (d3.1.mono hg); have O2 := d3.2 _ _ _ OB (by decide) (by decide); have oc := O2.cell)
            | (go_at_call 35; refine (HDOC.out _).mono ?_; rintro e w4 ⟨rfl, d4⟩; have P2 := P2.below d4; have B2 := below_of d4 B2 B2.size)
            | (go_at_call 32; refine (end_as (pend_s _ _ _ _ P2) HE.out).mono ?_; rintro e w6 ⟨rfl, n6, h6⟩; have P3 : PutS g w6 g S' := h6 ▸ (P2.below (below_drewN (Below.refl _ _) n6)); have B3 : Below w0.heap.size w0 w6 := h6 ▸ below_drewN B2 n6; clear h6)
            | fail)
          go_roundw
          case rel => exact ⟨k + 1, S', W, by omega, by go_num, rfl, int_eq HB2.out, HW2.out, hLB.out, P3, B3⟩
          case measure => simp [intOf]; omega
        · subst h1
          have HE : Hid (endP S' = (bts ⟨#[]⟩, S'.2)) := by unfold Hid endP; rw [if_neg h0]; rfl
          have HW2 : Hid (bts W = S'.1) := HWS
          have HB2 : Hid (S'.2 = S'.2) := rfl
          have hb0 : (S'.2 == 0) = false := by simpa using h0
          have hb1 : (S'.2 != 0) = true := by simpa using h0
          obtain ⟨er, her⟩ : ∃ er, er = S'.2 := ⟨_, rfl⟩
          rw [← her] at HE HB2 hb0 hb1 ⊢
          replace HB2 : Hid (er = S'.2) := her
          clear h0 her
          go_wp2_with (first
            | (go_at_call 33; refine (pk_as (pword_k _ _ _ _ _ P1 (by have := hLA.out; omega)) HST.out).mono ?_; rintro e w3 ⟨rfl, P2, d3⟩; have B2 := B1.trans (d3.1.mono hg); have O2 := d3.2 _ _ _ OB (by decide) (by decide); have oc := O2.cell)
            | (go_at_call 35; refine (HDOC.out _).mono ?_; rintro e w4 ⟨rfl, d4⟩; have P2 := P2.below d4; have B2 := below_of d4 B2 B2.size)
            | (go_at_call 32; refine (end_as (pend_s _ _ _ _ P2) HE.out).mono ?_; rintro e w6 ⟨rfl, n6, h6⟩; have P3 : PutS g w6 g S' := h6 ▸ (P2.below (below_drewN (Below.refl _ _) n6)); have B3 : Below w0.heap.size w0 w6 := h6 ▸ below_drewN B2 n6; clear h6)
            | fail)
          go_roundw
          case rel => exact ⟨k + 1, S', W, by omega, by go_num, rfl, int_eq HB2.out, HW2.out, hLB.out, P3, B3⟩
          case measure => simp [intOf]; omega
      · -- kind 4
        have eb : bytesP o = lowB (Go.Proofs.YtobflgpaijdcaaaDoor.u64 o.num) 8 := by simp [bytesP, hkd]
        have hokt : fitsP o = true := by simp [fitsP, hkd]
        have HST : Hid (putInt o.num S = stepP o S) := by unfold Hid putInt stepP; rw [hokt, eb]; simp only [if_true]
        obtain ⟨T, hT⟩ : ∃ T : ByteArray, bts T = bytesP o := ⟨bs (bytesP o), rfl⟩
        have hdoc : ∀ w, Calls Tryd.prog 37 #[.int .u64 (Go.Proofs.YtobflgpaijdcaaaDoor.u64 o.num), .int .i64 8] w fun e w' => e = .returned (.string T) ∧ Below w.heap.size w w' := fun w => low_as (w := w) (v := Go.Proofs.YtobflgpaijdcaaaDoor.u64 o.num) (n := 8) (u64_lt _) (by decide) (by rw [hT, eb])
        have hTs : T.size ≤ 30000 ∨ fitsP o = false := by left; rw [← bts_len, hT, eb, lowB_len]; omega
        replace hT : fitsP o = true → bts T = bytesP o := fun _ => hT
        have hu64 := u64_wrap o.num
        have er : errP o = 1 := by simp [errP, hkd]
        clear eb
        have HDOC := Lib.hid hdoc
        have hcs : (S.2 = 0 ∧ fitsP o = true ∧ bts (W ++ T) = (stepP o S).1 ∧ (stepP o S).2 = 0 ∧ T.size ≤ 30000) ∨ (S.2 = 0 ∧ fitsP o = false ∧ bts W = (stepP o S).1 ∧ (stepP o S).2 = errP o) ∨ (S.2 ≠ 0 ∧ stepP o S = S) := by
          rcases hTs with h | h
          · rcases HC.out T hT h with ⟨h1, h2, h3, h4⟩ | h1 | h1
            · exact .inl ⟨h1, h2, h3, h4, h⟩
            · exact .inr (.inl h1)
            · exact .inr (.inr h1)
          · by_cases h0 : S.2 = 0
            · exact .inr (.inl ⟨h0, h, by simp [stepP, h0, h, HWS.out], by simp [stepP, h0, h]⟩)
            · exact .inr (.inr ⟨h0, by simp [stepP, h0]⟩)
        have hW1 : W.size ≤ 30000 := by rw [← bts_len, HWS.out]; have := hLA.out; omega
        clear hdoc
        clear hT hTs HC
        generalize hS' : stepP o S = S' at *
        clear hS'
        rw [hokt] at hcs
        clear hokt
        rw [er] at hcs
        clear er
        have hkk := hkd
        generalize o.kind = kd at *
        subst hkk
        clear hkd
        rcases hcs with ⟨h0, h1, h2, h3, h4⟩ | ⟨h0, h1, h2, h3⟩ | ⟨h0, h1⟩
        · have HE : Hid (endP S' = (bts (W ++ T), 0)) := by unfold Hid endP; rw [if_pos h3, ← h2]
          have HW2 : Hid (bts (W ++ T) = S'.1) := h2
          have HB2 : Hid ((0 : Int) = S'.2) := h3.symm
          have HLN : Hid ((S'.1.length : Int) = ((W ++ T).size : Int)) := by unfold Hid; rw [← h2, bts_len]
          have hmax : ¬ (9223372036854775807 < W.size + T.size) := by omega
          have hb0 : (S.2 == 0) = true := by simpa using h0
          rw [h0] at hb0
          rw [h0]
          clear h0 h2 h3 h1
          go_wp2_with (first
            | (go_at_call 31; refine (pk_as (pint_k _ _ _ _ _ P1 (by have := hLA.out; omega)) HST.out).mono ?_; rintro e w3 ⟨rfl, P2, d3⟩; have B2 := B1.trans (d3.1.mono hg); have O2 := d3.2 _ _ _ OB (by decide) (by decide); have oc := O2.cell)
            | (go_at_call 37; refine (HDOC.out _).mono ?_; rintro e w4 ⟨rfl, d4⟩; have P2 := P2.below d4; have B2 := below_of d4 B2 B2.size)
            | (go_at_call 32; refine (end_as (pend_s _ _ _ _ P2) HE.out).mono ?_; rintro e w6 ⟨rfl, n6, h6⟩; have P3 : PutS g w6 g S' := h6 ▸ (P2.below (below_drewN (Below.refl _ _) n6)); have B3 : Below w0.heap.size w0 w6 := h6 ▸ below_drewN B2 n6; clear h6)
            | (go_at_call 39; refine (plen_as P3 HLN.out).mono ?_; rintro e w7 ⟨rfl, hw7⟩; subst hw7))
          go_roundw
          case rel => exact ⟨k + 1, S', W ++ T, by omega, by go_num, rfl, int_eq HB2.out, HW2.out, hLB.out, P3, B3⟩
          case measure => simp [intOf]; omega
        · cases h1
        · subst h1
          have HE : Hid (endP S' = (bts ⟨#[]⟩, S'.2)) := by unfold Hid endP; rw [if_neg h0]; rfl
          have HW2 : Hid (bts W = S'.1) := HWS
          have HB2 : Hid (S'.2 = S'.2) := rfl
          have hb0 : (S'.2 == 0) = false := by simpa using h0
          have hb1 : (S'.2 != 0) = true := by simpa using h0
          obtain ⟨er, her⟩ : ∃ er, er = S'.2 := ⟨_, rfl⟩
          rw [← her] at HE HB2 hb0 hb1 ⊢
          replace HB2 : Hid (er = S'.2) := her
          clear h0 her
          go_wp2_with (first
            | (go_at_call 31; refine (pk_as (pint_k _ _ _ _ _ P1 (by have := hLA.out; omega)) HST.out).mono ?_; rintro e w3 ⟨rfl, P2, d3⟩; have B2 := B1.trans (d3.1.mono hg); have O2 := d3.2 _ _ _ OB (by decide) (by decide); have oc := O2.cell)
            | (go_at_call 37; refine (HDOC.out _).mono ?_; rintro e w4 ⟨rfl, d4⟩; have P2 := P2.below d4; have B2 := below_of d4 B2 B2.size)
            | (go_at_call 32; refine (end_as (pend_s _ _ _ _ P2) HE.out).mono ?_; rintro e w6 ⟨rfl, n6, h6⟩; have P3 : PutS g w6 g S' := h6 ▸ (P2.below (below_drewN (Below.refl _ _) n6)); have B3 : Below w0.heap.size w0 w6 := h6 ▸ below_drewN B2 n6; clear h6)
            | fail)
          go_roundw
          case rel => exact ⟨k + 1, S', W, by omega, by go_num, rfl, int_eq HB2.out, HW2.out, hLB.out, P3, B3⟩
          case measure => simp [intOf]; omega
      · -- kind 5
        have eb : bytesP o = lowB o.txt.size 2 ++ bts o.txt := by simp [bytesP, hkd]
        have hokt : fitsP o = true := by simp [fitsP, hkd]; omega
        have HST : Hid (putText (bts o.txt) S = stepP o S) := by
          unfold Hid putText stepP
          rw [hokt, eb, bts_len]
          by_cases h0 : S.2 = 0
          · rw [if_pos h0, if_pos h0, if_neg (by omega), if_pos rfl, List.append_assoc]
          · rw [if_neg h0, if_neg h0]
        obtain ⟨T, hT⟩ : ∃ T : ByteArray, bts T = bytesP o := ⟨bs (bytesP o), rfl⟩
        have hdoc : ∀ w, Calls Tryd.prog 38 #[.string o.txt] w fun e w' => e = .returned (.tuple #[.string T, .bool true]) ∧ Below w.heap.size w w' := fun w => (rtext_yes o.txt w (by omega)).mono fun e w' ⟨⟨T2, h1, h2⟩, h3⟩ => ⟨by rw [h2, show T2 = T from bts_inj (by rw [h1, hT, eb])], h3⟩
        have hTs : T.size ≤ 30000 ∨ fitsP o = false := by left; rw [← bts_len, hT, eb, List.length_append, lowB_len, bts_len]; omega
        replace hT : fitsP o = true → bts T = bytesP o := fun _ => hT
        have er : errP o = 2 := by simp [errP, hkd]
        clear eb
        have HDOC := Lib.hid hdoc
        have hcs : (S.2 = 0 ∧ fitsP o = true ∧ bts (W ++ T) = (stepP o S).1 ∧ (stepP o S).2 = 0 ∧ T.size ≤ 30000) ∨ (S.2 = 0 ∧ fitsP o = false ∧ bts W = (stepP o S).1 ∧ (stepP o S).2 = errP o) ∨ (S.2 ≠ 0 ∧ stepP o S = S) := by
          rcases hTs with h | h
          · rcases HC.out T hT h with ⟨h1, h2, h3, h4⟩ | h1 | h1
            · exact .inl ⟨h1, h2, h3, h4, h⟩
            · exact .inr (.inl h1)
            · exact .inr (.inr h1)
          · by_cases h0 : S.2 = 0
            · exact .inr (.inl ⟨h0, h, by simp [stepP, h0, h, HWS.out], by simp [stepP, h0, h]⟩)
            · exact .inr (.inr ⟨h0, by simp [stepP, h0]⟩)
        have hW1 : W.size ≤ 30000 := by rw [← bts_len, HWS.out]; have := hLA.out; omega
        clear hdoc
        clear hT hTs HC
        generalize hS' : stepP o S = S' at *
        clear hS'
        rw [hokt] at hcs
        clear hokt
        rw [er] at hcs
        clear er
        have hkk := hkd
        generalize o.kind = kd at *
        subst hkk
        clear hkd
        rcases hcs with ⟨h0, h1, h2, h3, h4⟩ | ⟨h0, h1, h2, h3⟩ | ⟨h0, h1⟩
        · have HE : Hid (endP S' = (bts (W ++ T), 0)) := by unfold Hid endP; rw [if_pos h3, ← h2]
          have HW2 : Hid (bts (W ++ T) = S'.1) := h2
          have HB2 : Hid ((0 : Int) = S'.2) := h3.symm
          have HLN : Hid ((S'.1.length : Int) = ((W ++ T).size : Int)) := by unfold Hid; rw [← h2, bts_len]
          have hmax : ¬ (9223372036854775807 < W.size + T.size) := by omega
          have hb0 : (S.2 == 0) = true := by simpa using h0
          rw [h0] at hb0
          rw [h0]
          clear h0 h2 h3 h1
          go_wp2_with (first
            | (go_at_call 30; refine (pk_as (ptext_k _ _ _ _ _ P1 (by have := hLA.out; omega)) HST.out).mono ?_; rintro e w3 ⟨rfl, P2, d3⟩; have B2 := B1.trans (d3.1.mono hg); have O2 := d3.2 _ _ _ OB (by decide) (by decide); have oc := O2.cell)
            | (go_at_call 38; refine (HDOC.out _).mono ?_; rintro e w4 ⟨rfl, d4⟩; have P2 := P2.below d4; have B2 := below_of d4 B2 B2.size)
            | (go_at_call 32; refine (end_as (pend_s _ _ _ _ P2) HE.out).mono ?_; rintro e w6 ⟨rfl, n6, h6⟩; have P3 : PutS g w6 g S' := h6 ▸ (P2.below (below_drewN (Below.refl _ _) n6)); have B3 : Below w0.heap.size w0 w6 := h6 ▸ below_drewN B2 n6; clear h6)
            | (go_at_call 39; refine (plen_as P3 HLN.out).mono ?_; rintro e w7 ⟨rfl, hw7⟩; subst hw7))
          go_roundw
          case rel => exact ⟨k + 1, S', W ++ T, by omega, by go_num, rfl, int_eq HB2.out, HW2.out, hLB.out, P3, B3⟩
          case measure => simp [intOf]; omega
        · cases h1
        · subst h1
          have HE : Hid (endP S' = (bts ⟨#[]⟩, S'.2)) := by unfold Hid endP; rw [if_neg h0]; rfl
          have HW2 : Hid (bts W = S'.1) := HWS
          have HB2 : Hid (S'.2 = S'.2) := rfl
          have hb0 : (S'.2 == 0) = false := by simpa using h0
          have hb1 : (S'.2 != 0) = true := by simpa using h0
          obtain ⟨er, her⟩ : ∃ er, er = S'.2 := ⟨_, rfl⟩
          rw [← her] at HE HB2 hb0 hb1 ⊢
          replace HB2 : Hid (er = S'.2) := her
          clear h0 her
          go_wp2_with (first
            | (go_at_call 30; refine (pk_as (ptext_k _ _ _ _ _ P1 (by have := hLA.out; omega)) HST.out).mono ?_; rintro e w3 ⟨rfl, P2, d3⟩; have B2 := B1.trans (d3.1.mono hg); have O2 := d3.2 _ _ _ OB (by decide) (by decide); have oc := O2.cell)
            | (go_at_call 38; refine (HDOC.out _).mono ?_; rintro e w4 ⟨rfl, d4⟩; have P2 := P2.below d4; have B2 := below_of d4 B2 B2.size)
            | (go_at_call 32; refine (end_as (pend_s _ _ _ _ P2) HE.out).mono ?_; rintro e w6 ⟨rfl, n6, h6⟩; have P3 : PutS g w6 g S' := h6 ▸ (P2.below (below_drewN (Below.refl _ _) n6)); have B3 : Below w0.heap.size w0 w6 := h6 ▸ below_drewN B2 n6; clear h6)
            | fail)
          go_roundw
          case rel => exact ⟨k + 1, S', W, by omega, by go_num, rfl, int_eq HB2.out, HW2.out, hLB.out, P3, B3⟩
          case measure => simp [intOf]; omega
      · -- kind 6
        have eb : bytesP o = bts o.txt := by simp [bytesP, hk1, hk2, hk3, hk4, hk5]
        have hokt : fitsP o = true := by simp [fitsP, hk1, hk2, hk3, hk4, hk5]
        have HST : Hid (putRaw (bts o.txt) S = stepP o S) := by unfold Hid putRaw stepP; rw [hokt, eb]; simp only [if_true]
        obtain ⟨T, hTt⟩ : ∃ T : ByteArray, T = o.txt := ⟨_, rfl⟩
        have hT : fitsP o = true → bts T = bytesP o := fun _ => by rw [hTt, eb]
        have hTs : T.size ≤ 30000 ∨ fitsP o = false := by left; rw [hTt]; omega
        have er : errP o = 1 := by simp [errP, hk5]
        have b1 : (o.kind == 1) = false := by simpa using hk1
        have b2 : (o.kind == 2) = false := by simpa using hk2
        have b3 : (o.kind == 3) = false := by simpa using hk3
        have b4 : (o.kind == 4) = false := by simpa using hk4
        have b5 : (o.kind == 5) = false := by simpa using hk5
        clear eb hk1 hk2 hk3 hk4 hk5
        rw [← hTt] at d2 hts P1 B1 OB HST hLA
        have hcs : (S.2 = 0 ∧ fitsP o = true ∧ bts (W ++ T) = (stepP o S).1 ∧ (stepP o S).2 = 0 ∧ T.size ≤ 30000) ∨ (S.2 = 0 ∧ fitsP o = false ∧ bts W = (stepP o S).1 ∧ (stepP o S).2 = errP o) ∨ (S.2 ≠ 0 ∧ stepP o S = S) := by
          rcases hTs with h | h
          · rcases HC.out T hT h with ⟨h1, h2, h3, h4⟩ | h1 | h1
            · exact .inl ⟨h1, h2, h3, h4, h⟩
            · exact .inr (.inl h1)
            · exact .inr (.inr h1)
          · by_cases h0 : S.2 = 0
            · exact .inr (.inl ⟨h0, h, by simp [stepP, h0, h, HWS.out], by simp [stepP, h0, h]⟩)
            · exact .inr (.inr ⟨h0, by simp [stepP, h0]⟩)
        have hW1 : W.size ≤ 30000 := by rw [← bts_len, HWS.out]; have := hLA.out; omega
        clear hT hTs HC
        generalize hS' : stepP o S = S' at *
        clear hS'
        rw [hokt] at hcs
        clear hokt
        rw [er] at hcs
        clear er
        clear hTt
        rcases hcs with ⟨h0, h1, h2, h3, h4⟩ | ⟨h0, h1, h2, h3⟩ | ⟨h0, h1⟩
        · have HE : Hid (endP S' = (bts (W ++ T), 0)) := by unfold Hid endP; rw [if_pos h3, ← h2]
          have HW2 : Hid (bts (W ++ T) = S'.1) := h2
          have HB2 : Hid ((0 : Int) = S'.2) := h3.symm
          have HLN : Hid ((S'.1.length : Int) = ((W ++ T).size : Int)) := by unfold Hid; rw [← h2, bts_len]
          have hmax : ¬ (9223372036854775807 < W.size + T.size) := by omega
          have hb0 : (S.2 == 0) = true := by simpa using h0
          rw [h0] at hb0
          rw [h0]
          clear h0 h2 h3 h1
          go_wp2_with (first
            | (go_at_call 34; refine (pk_as (praw_k _ _ _ _ _ P1 (by have := hLA.out; omega)) HST.out).mono ?_; rintro e w3 ⟨rfl, P2, d3⟩; have B2 := B1.trans (d3.1.mono hg); have O2 := d3.2 _ _ _ OB (by decide) (by decide); have oc := O2.cell)
            | (go_at_call 32; refine (end_as (pend_s _ _ _ _ P2) HE.out).mono ?_; rintro e w6 ⟨rfl, n6, h6⟩; have P3 : PutS g w6 g S' := h6 ▸ (P2.below (below_drewN (Below.refl _ _) n6)); have B3 : Below w0.heap.size w0 w6 := h6 ▸ below_drewN B2 n6; clear h6)
            | (go_at_call 39; refine (plen_as P3 HLN.out).mono ?_; rintro e w7 ⟨rfl, hw7⟩; subst hw7))
          go_roundw
          case rel => exact ⟨k + 1, S', W ++ T, by omega, by go_num, rfl, int_eq HB2.out, HW2.out, hLB.out, P3, B3⟩
          case measure => simp [intOf]; omega
        · cases h1
        · subst h1
          have HE : Hid (endP S' = (bts ⟨#[]⟩, S'.2)) := by unfold Hid endP; rw [if_neg h0]; rfl
          have HW2 : Hid (bts W = S'.1) := HWS
          have HB2 : Hid (S'.2 = S'.2) := rfl
          have hb0 : (S'.2 == 0) = false := by simpa using h0
          have hb1 : (S'.2 != 0) = true := by simpa using h0
          obtain ⟨er, her⟩ : ∃ er, er = S'.2 := ⟨_, rfl⟩
          rw [← her] at HE HB2 hb0 hb1 ⊢
          replace HB2 : Hid (er = S'.2) := her
          clear h0 her
          go_wp2_with (first
            | (go_at_call 34; refine (pk_as (praw_k _ _ _ _ _ P1 (by have := hLA.out; omega)) HST.out).mono ?_; rintro e w3 ⟨rfl, P2, d3⟩; have B2 := B1.trans (d3.1.mono hg); have O2 := d3.2 _ _ _ OB (by decide) (by decide); have oc := O2.cell)
            | (go_at_call 32; refine (end_as (pend_s _ _ _ _ P2) HE.out).mono ?_; rintro e w6 ⟨rfl, n6, h6⟩; have P3 : PutS g w6 g S' := h6 ▸ (P2.below (below_drewN (Below.refl _ _) n6)); have B3 : Below w0.heap.size w0 w6 := h6 ▸ below_drewN B2 n6; clear h6)
            | fail)
          go_roundw
          case rel => exact ⟨k + 1, S', W, by omega, by go_num, rfl, int_eq HB2.out, HW2.out, hLB.out, P3, B3⟩
          case measure => simp [intOf]; omega
    · obtain rfl : k = n := by omega
      go_wp2
      go_ret
      exact ⟨rfl, hB⟩

theorem packputs_walk (A : Option Addr) (n c : Nat) (os : List OpV) (w : World) (ht : PowIs w) (hr : Rd w A (flatO os)) (hn : os.length = n) (hm : n ≤ maxLen) (hs : ∀ o ∈ os, o.txt.size ≤ maxLen ∧ o.num ≤ 9223372036854775807) :
    Calls Tryd.prog 6 #[.slice A n c] w fun e w' => e = .returned (.bool true) ∧ Below w.heap.size w w' := by
  cases hl : lightO os
  · have hlight := light_any A n c os w hr hn hm fun o ho => (hs o ho).1
    rw [hl] at hlight
    have HLI := Lib.hid hlight
    clear hlight hl hr hn hs hm
    go_enter Tryd.func6, Tryd.ntmps6
    go_wp2_with (first
      | (go_at_call 12; refine HLI.out.mono ?_; rintro e w0 ⟨rfl, hw0⟩; subst hw0)
      | (go_at_call 13; refine (alive1_any _ ht).mono ?_; rintro e wa ⟨rfl, ba⟩))
    go_ret
    exact ⟨rfl, ba⟩
  · exact puts_good A n c os w ht hr hn hm hs hl
end Go.Proofs.YtobflgpaijdcaaaDoor
