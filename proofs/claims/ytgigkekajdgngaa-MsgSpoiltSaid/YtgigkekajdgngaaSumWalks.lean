/-
  What sum.half, sum.Of, sum.lay and the document's Sum and Low give, for texts of any length below 2^63. No other condition.
-/
import Derived.Test.YtgigkekajdgngaaRows
import Derived.Test.YtgigkekajdgngaaSumPlain
namespace Go.Proofs.Ytgigkekajdgngaa
open Go Go.RowKit

set_option maxHeartbeats 400000 in
theorem half_any (w : World) :
    Calls Try.prog 52 #[] w fun e w' => e = .returned (.agg (tabV 16)) ∧ Below w.heap.size w w' := by
  go_enter Try.func52, Try.ntmps52
  go_wp2
  go_loopw [2, 3, 5] (fun u2 u3 u5 wr => ∃ k : Nat, k ≤ 16 ∧ u5 = .int .i64 k ∧ wr = (w.alloc (.cells zer16 95)).alloc (.cells (tabV k) 95)) (fun _ _ u5 _ => 16 - (intOf u5).toNat)
  case atStart => exact ⟨0, by omega, rfl, rfl⟩
  case round =>
    obtain ⟨k, hk, rfl, rfl⟩ := hrel
    by_cases hlt : k < 16
    · go_wp2
      go_loop [3, 10] (fun u3 u10 => ∃ j : Nat, j ≤ 4 ∧ u10 = .int .i64 j ∧ u3 = .int .u32 (shN j k)) (fun _ u10 => 4 - (intOf u10).toNat)
      case atStart => exact ⟨0, by omega, rfl, rfl⟩
      case round =>
        obtain ⟨j, hj, rfl, rfl⟩ := hrel
        have hn := shN_lt j (n := k) (by omega)
        by_cases hj4 : j < 4
        · have e1 := bitsand1 _ hn
          by_cases ho : shN j k % 2 = 1
          · have e3 : (bits BinOp.and IntKind.u32 (shN j k : Int) 1 == 1) = true := by rw [e1]; simp; omega
            have e2 := Lib.hid (bitsxor (shN j k / 2) 2197175160 (by omega) (by omega))
            clear e1
            go_wp2
            go_round
            case rel => exact ⟨j + 1, by omega, by go_num, by show _ = Value.int _ ((sh1 (shN j k) : Nat) : Int); unfold sh1; rw [if_pos ho, ← e2.out]; rfl⟩
            case measure => simp [intOf]; omega
          · have e3 : (bits BinOp.and IntKind.u32 (shN j k : Int) 1 == 1) = false := by rw [e1]; simp; omega
            clear e1
            go_wp2
            go_round
            case rel => exact ⟨j + 1, by omega, by go_num, by show _ = Value.int _ ((sh1 (shN j k) : Nat) : Int); unfold sh1; rw [if_neg ho]; rfl⟩
            case measure => simp [intOf]; omega
        · obtain rfl : j = 4 := by omega
          have hc := tabV_at k k hlt
          simp at hc
          have hts := Lib.hid (tabV_set k hlt)
          go_wp2
          go_roundw
          case rel => exact ⟨k + 1, by omega, by go_num, by rw [← hts.out]⟩
          case measure => simp [intOf]; omega
    · obtain rfl : k = 16 := by omega
      have Hb := Lib.hid (p := ((w.alloc (.cells zer16 95)).alloc (.cells (tabV 16) 95)).heap[w.heap.size + 1]? = some (.cells (tabV 16) 95 (0, 0))) (heap_alloc2_new _ _ _)
      have Ha := Lib.hid (p := ((w.alloc (.cells zer16 95)).alloc (.cells (tabV 16) 95)).heap[w.heap.size]? = some (.cells zer16 95 (0, 0))) (heap_alloc2_old _ _ _)
      go_wp2_with (first
        | (refine wpList_load_row rfl 95 (.tmp 1) rfl (w.heap.size + 1) rfl 95 (tabV 16) (0, 0) _ Hb.out Try.underlying95 rfl (by rw [tabV_size]; kernel_rfl) ?_)
        | (refine wpList_store_row rfl 95 (.tmp 0) (.tmp 25) rfl (w.heap.size) (tabV 16) rfl rfl 95 zer16 Ha.out (by rw [tabV_size]; kernel_rfl) (by rw [tabV_size]; rfl) (tabV_one 16) ?_))
      have hr := setRow_heap _ _ _ (tabV 16) _ _ Ha.out
      exact bodyPost_ret (results_cell_row rfl _ _ _ 95 (tabV 16) (0, 0) _ rfl hr Try.underlying95 rfl (by rw [tabV_size]; kernel_rfl)) rfl ⟨rfl, below_setRow (((Below.refl _ _).alloc (Nat.le_refl _) _).alloc (by simp) _) (Nat.le_refl _) _⟩

/-- The bytes of the first k texts. -/
def catN (ss : List ByteArray) (k : Nat) : List UInt8 := (ss.take k).flatMap bts
theorem catN_succ (ss : List ByteArray) (k : Nat) (s : ByteArray) (h : ss[k]? = some s) : catN ss (k + 1) = catN ss k ++ bts s := by
  unfold catN
  rw [List.take_add_one, h]; simp

theorem one_byte (x : Nat) (b : UInt8) (l : List UInt8) :
    (shN 4 (shN 4 (crcL x l ^^^ b.toNat))) = crcL x (l ++ [b]) := by
  rw [crcL_snoc, ← shN_add]

set_option maxRecDepth 100000 in
set_option maxHeartbeats 1000000 in
theorem of_any (A : Option Addr) (n c : Nat) (ss : List ByteArray) (w : World) (hr : Rd w A (ss.map .string)) (hn : ss.length = n) (hl : n ≤ maxLen)
    (hs : ∀ s ∈ ss, s.size ≤ maxLen) :
    Calls Try.prog 39 #[.slice A n c] w fun e w' => e = .returned (.int .u32 (crc (ss.flatMap bts))) ∧ Below w.heap.size w w' := by
  unfold maxLen at hl
  go_enter Try.func39, Try.ntmps39
  go_wp2_with (first
    | (go_at_call 52; refine (half_any _).mono ?_; rintro e w1 ⟨rfl, hb1⟩)
    | (refine wpList_store_row rfl 95 (.tmp 4) (.tmp 8) rfl (w1.heap.size) (tabV 16) rfl rfl 95 zer16 (heap_alloc_last _ _) (by rw [tabV_size]; kernel_rfl) (by rw [tabV_size]; rfl) (tabV_one 16) ?_; simp only [World.setRow_alloc_new]))

  have hb2 : Below w.heap.size w (w1.alloc (.cells (tabV 16) 95)) := hb1.alloc hb1.size _
  have hT : ∀ j, j < 16 → (w1.alloc (.cells (tabV 16) 95)).cell? ⟨w1.heap.size, j, none⟩ = some (.int .u32 (shN 4 j : Int)) := fun j hj => by
    rw [World.cell?_alloc_new]; exact tabV_16 j hj
  have hr2 := hr.below hb2
  generalize w1.alloc (.cells (tabV 16) 95) = W at hb2 hT hr2 ⊢
  have HT := Lib.hid hT
  have HR := Lib.hid hr2
  clear hT hr2 hb1 hr
  go_loop [3, 11] (fun u3 u11 => ∃ k : Nat, k ≤ n ∧ u11 = .int .i64 k ∧ u3 = .int .u32 (crcL 4294967295 (catN ss k))) (fun _ u11 => n - (intOf u11).toNat)
  case atStart => exact ⟨0, by omega, rfl, rfl⟩
  case round =>
    obtain ⟨k, hk, rfl, rfl⟩ := hrel
    by_cases hlt : k < n
    · obtain ⟨s, hsk⟩ : ∃ s, ss[k]? = some s := ⟨ss[k]'(by omega), List.getElem?_eq_getElem _⟩
      have hsz : s.size ≤ 9223372036854775807 := hs s (List.mem_of_getElem? hsk)
      obtain ⟨ad, rfl, hcell⟩ := HR.out.at_ (k := k) (x := .string s) (by simp [hsk])
      have HC := Lib.hid (catN_succ ss k s hsk)
      clear hs
      have hx0 := crcL_lt (x := 4294967295) (by omega) (catN ss k)
      generalize hX : crcL 4294967295 (catN ss k) = X at hx0 ⊢
      have HX := Lib.hid hX
      have HSK := Lib.hid hsk
      clear hX hsk
      go_wp2
      go_loop [3, 17] (fun u3 u17 => ∃ i : Nat, i ≤ s.size ∧ u17 = .int .i64 i ∧ u3 = .int .u32 (crcL X (s.data.toList.take i))) (fun _ u17 => s.size - (intOf u17).toNat)
      case atStart => exact ⟨0, by omega, rfl, rfl⟩
      case round =>
        obtain ⟨i, hi, rfl, rfl⟩ := hrel
        have hx1 := crcL_lt hx0 (s.data.toList.take i)
        by_cases hlt2 : i < s.size
        · have HE := Lib.hid (one_byte X s[i] (s.data.toList.take i))
          have HTS := Lib.hid (take_snoc s i hlt2)
          generalize crcL X (s.data.toList.take i) = Y at hx1 HE ⊢
          have hby : (s[i].toNat : Int) < 256 := by have := s[i].toNat_lt; omega
          have hy1 := xor_byte_lt hx1 s[i]
          have e1 := bitsxor Y s[i].toNat hx1 (by have := s[i].toNat_lt; omega)
          generalize Y ^^^ s[i].toNat = Y1 at hy1 e1 HE
          have e2 := bitsand15 Y1 hy1
          have e3 : bits BinOp.xor IntKind.u32 ((Y1 : Int) / 16) ((shN 4 (Y1 % 16) : Nat) : Int) = ((shN 4 Y1 : Nat) : Int) := by
            rw [← shN4 Y1]; exact bitsxor (Y1 / 16) (shN 4 (Y1 % 16)) (by omega) (shN_lt 4 (by omega))
          have t1 := HT.out (Y1 % 16) (by omega)
          have hy2 := shN_lt 4 hy1
          have e4 := bitsand15 _ hy2
          have e5 : bits BinOp.xor IntKind.u32 ((shN 4 Y1 : Int) / 16) ((shN 4 (shN 4 Y1 % 16) : Nat) : Int) = ((shN 4 (shN 4 Y1) : Nat) : Int) := by
            rw [← shN4 (shN 4 Y1)]; exact bitsxor (shN 4 Y1 / 16) (shN 4 (shN 4 Y1 % 16)) (by omega) (shN_lt 4 (by omega))
          have t2 := HT.out (shN 4 Y1 % 16) (by omega)
          generalize shN 4 Y1 = Y2 at *
          go_wp2
          go_round
          case rel => exact ⟨i + 1, by omega, by go_num, by rw [HTS.out, ← HE.out]⟩
          case measure => simp [intOf]; omega
        · obtain rfl : i = s.size := by omega
          go_wp2
          go_round
          case rel => exact ⟨k + 1, by omega, by go_num, by rw [HC.out, crcL_append, HX.out, take_all]; rfl⟩
          case measure => simp [intOf]; omega
    · obtain rfl : k = n := by omega
      have e1 := bitsxor (crcL 4294967295 (catN ss k)) 4294967295 (crcL_lt (by omega) _) (by omega)
      have E1 := Lib.hid e1
      clear e1 hs
      go_wp2
      go_ret
      refine ⟨ret_int ?_, hb2⟩
      have : catN ss k = ss.flatMap bts := by unfold catN; rw [List.take_of_length_le (by omega)]
      rw [← this]
      exact E1.out

end Go.Proofs.Ytgigkekajdgngaa
