/-
  The walk of big.Read over the law's closure. Condition: as in BigRead.
-/
import Derived.Test.YtejmpfmkaiaklaaBigRead
import Derived.Test.YtejmpfmkaiaklaaBigAlive
namespace Go.Proofs.Ytejmpfmkaiaklaa
open Go Go.RowKit
attribute [local go_sem] cell_set_if

theorem closure_not_nil (cs : Array Value) (w' : World) : Sem.run Try.prog (Go.binOp .eql 39 (Value.func (Fn.func 23) #[] cs) Value.nilFunc) w' = Result.ok (Value.bool false) w' := by kernel_rfl
/-- The k-th page is there, and as long as it must be. -/
def goodP (v : ByteArray) (N : Nat) (lost : Int) (m k : Nat) : Prop := k < N ∧ (k : Int) ≠ lost ∧ ((partB v k).size : Int) = min ((m : Int) - k * 232) 232

/-- What Read tells: all pages are good, or one of them is not. -/
def ReadS (v : ByteArray) (N M : Nat) (lost : Int) (m : Nat) (w : World) (e : Ending) (w' : World) : Prop :=
  (((∀ k, k < M → goodP v N lost m k) ∧ e = .returned (.tuple #[.string (upB v M), .int .i64 0])) ∨ ((∃ k, k < M ∧ ¬ goodP v N lost m k) ∧ e = .returned (.tuple #[.string ⟨#[]⟩, .int .i64 25]))) ∧ Below w.heap.size w w'

set_option maxRecDepth 100000 in
set_option maxHeartbeats 2000000 in
theorem bread_any (w : World) (gl gk b o c : Nat) (first tx lost : Int) (v S : ByteArray) (m : Nat) (hS : S.size ≤ 100000) (hU : unrefE (bts S) = (first, (m : Int), 0)) (h0 : 0 ≤ first) (h1 : first ≤ 5000) (hm : m ≤ 2000) (hv : v.size ≤ 2000)
    (hG : GetW w gl gk b o c (needN v.size) first tx lost v) :
    Calls Try.prog 24 #[.string S, .func (.func 23) #[] #[.pointer (some ⟨gl, 0, none⟩), .pointer (some ⟨gk, 0, none⟩)]] w (ReadS v (needN v.size) (needN m) lost m w) := by
  have hun : ∀ w, Calls Try.prog 17 #[.string S] w fun e w' => e = .returned (.tuple #[.int .i64 first, .int .i64 m, .int .i64 0]) ∧ Below w.heap.size w w' := fun w => by
    have := unref_any S w hS
    rw [hU] at this; exact this
  have HU := Lib.hid hun
  have HN := Lib.hid (fun w => need_nat m w (by omega))
  have hle := needN_le v.size hv
  have hle2 := needN_le m hm
  have HUS := Lib.hid (fun k (h : k < needN v.size) => upB_succ v k (needN_lt v.size k h))
  have HG := Lib.hid hG
  have hm' : (m : Int) ≤ 2000 := by omega
  clear hun hU hG
  generalize needN v.size = N at *
  generalize needN m = M at *
  obtain ⟨i0, hi0, hz0, hz1, hz2⟩ := info_parts u8info
  go_enter Try.func24, Try.ntmps24
  go_wp2_with (first
    | (go_at_call 17; refine (HU.out _).mono ?_; rintro e w1 ⟨rfl, b1⟩)
    | (go_at_call 14; refine (HN.out _).mono ?_; rintro e w2 ⟨rfl, hw2⟩; subst hw2)
    | (rw [closure_not_nil]; go_simp))
  have hB0 := b1
  go_loopw [9, 28] (fun u9 u28 wr => ∃ k : Nat, k ≤ M ∧ u28 = .int .i64 k ∧ (∀ j, j < k → goodP v N lost m j) ∧ wr.ownsRow w.heap.size 5 1 u9 (upB v k).size (u8s (bts (upB v k))) ∧ Below w.heap.size w wr) (fun _ u28 _ => M - (intOf u28).toNat)
  case atStart =>
    refine ⟨0, by omega, rfl, fun j h => by omega, ?_, b1⟩
    rw [upB_zero]; exact World.ownsRow_nil _ _ _ _
  case round =>
    obtain ⟨k, hk, rfl, hj, hown, hB⟩ := hrel
    have HJ := Lib.hid hj
    clear hj
    by_cases hlt : k < M
    · have hGr := HG.out.below hB
      have hps := partB_size v k
      have hm2 : (m : Int) ≤ 2000 := hm'
      by_cases hg : k < N ∧ (k : Int) ≠ lost
      · have HY := Lib.hid (get_yes hGr h0 h1 (by omega) k hg.1 hg.2)
        have hup := HUS.out k hg.1
        have hupz := upB_size v k
        obtain ⟨hgN, hgl⟩ := hg
        have HGL := Lib.hid hgl
        have hgood : goodP v N lost m k ↔ ((partB v k).size : Int) = min ((m : Int) - k * 232) 232 := ⟨fun h => h.2.2, fun h => ⟨hgN, hgl, h⟩⟩
        have HGO := Lib.hid hgood
        clear hgood hgl hGr
        generalize hT : partB v k = T at *
        have HUP := Lib.hid hup
        have HTT := Lib.hid hT
        clear hT hup
        have hcs : (232 ≤ (m : Int) - k * 232 ∧ ((T.size : Int) != 232) = false ∧ (T.size : Int) = 232) ∨ (232 ≤ (m : Int) - k * 232 ∧ ((T.size : Int) != 232) = true ∧ (T.size : Int) ≠ 232) ∨ ((m : Int) - k * 232 < 232 ∧ ((T.size : Int) != (m : Int) - k * 232) = false ∧ (T.size : Int) = (m : Int) - k * 232) ∨ ((m : Int) - k * 232 < 232 ∧ ((T.size : Int) != (m : Int) - k * 232) = true ∧ (T.size : Int) ≠ (m : Int) - k * 232) := by
          simp only [bne_iff_ne, bne_eq_false_iff_eq]; omega
        have B0 : Below w.heap.size w wr := hB
        rcases hcs with ⟨q1, q2, q3⟩ | ⟨q1, q2, q3⟩ | ⟨q1, q2, q3⟩ | ⟨q1, q2, q3⟩
        · have hok : Hid (goodP v N lost m k) := HGO.out.2 (by omega)
          clear q3
          go_wp2_with (first
            | (go_at_call 23; with_reducible refine HY.out.mono ?_; rintro e w3 ⟨rfl, b3⟩
               have B3 := below_of b3 hB hB.size
               have O3 := own_frm hown (S := no) (((Frm.refl no wr).step b3).alloc (.cells #[.int .i64 5, .int .i64 (first + k), .int .i64 tx, .string T] 29)) (fun _ _ => id))
            | (at_builtin
               refine Lib.wpList_append_own_string _ rfl (.tmp 57) (.tmp 59) 55 9 rfl w.heap.size 5 i0 Try.underlying55 Try.underlying9 hi0 hz0 hz1 hz2 u9 (upB v k).size _ rfl O3 T rfl (by unfold maxLen; omega) (by omega) (by have := B3.size; simp; omega) ?_
               intro v5 w5 hown5 hg5 hat5))
          go_roundw
          case rel =>
            refine ⟨k + 1, by omega, by go_num, fun j hj => ?_, ?_, ?_⟩
            · by_cases hjk : j < k
              · exact HJ.out j hjk
              · obtain rfl : j = k := by omega
                exact hok.out
            · rw [HUP.out, ByteArray.size_append, bts_append, show u8s (bts (upB v k) ++ bts T) = u8s (bts (upB v k)) ++ u8s (bts T) by simp [u8s], ← strCells_u8s T]
              exact hown5
            · exact (B3.alloc B3.size _).trans ((Below.refl _ _).grown hg5 (by have := B3.size; simp; omega) fun q hq => (O3.lt q hq).1)
          case measure => simp [intOf]; omega
        · have hno : Hid (¬ goodP v N lost m k) := fun h => q3 (by have := HGO.out.1 h; omega)
          clear q3
          go_wp2_with (go_at_call 23; with_reducible refine HY.out.mono ?_; rintro e w3 ⟨rfl, b3⟩; have B3 := below_of b3 hB hB.size)
          go_ret2
          unfold ReadS
          exact ⟨.inr ⟨⟨k, hlt, hno.out⟩, rfl⟩, B3.alloc B3.size _⟩
        · have hok : Hid (goodP v N lost m k) := HGO.out.2 (by omega)
          clear q3
          go_wp2_with (first
            | (go_at_call 23; with_reducible refine HY.out.mono ?_; rintro e w3 ⟨rfl, b3⟩
               have B3 := below_of b3 hB hB.size
               have O3 := own_frm hown (S := no) (((Frm.refl no wr).step b3).alloc (.cells #[.int .i64 5, .int .i64 (first + k), .int .i64 tx, .string T] 29)) (fun _ _ => id))
            | (at_builtin
               refine Lib.wpList_append_own_string _ rfl (.tmp 57) (.tmp 59) 55 9 rfl w.heap.size 5 i0 Try.underlying55 Try.underlying9 hi0 hz0 hz1 hz2 u9 (upB v k).size _ rfl O3 T rfl (by unfold maxLen; omega) (by omega) (by have := B3.size; simp; omega) ?_
               intro v5 w5 hown5 hg5 hat5))
          go_roundw
          case rel =>
            refine ⟨k + 1, by omega, by go_num, fun j hj => ?_, ?_, ?_⟩
            · by_cases hjk : j < k
              · exact HJ.out j hjk
              · obtain rfl : j = k := by omega
                exact hok.out
            · rw [HUP.out, ByteArray.size_append, bts_append, show u8s (bts (upB v k) ++ bts T) = u8s (bts (upB v k)) ++ u8s (bts T) by simp [u8s], ← strCells_u8s T]
              exact hown5
            · exact (B3.alloc B3.size _).trans ((Below.refl _ _).grown hg5 (by have := B3.size; simp; omega) fun q hq => (O3.lt q hq).1)
          case measure => simp [intOf]; omega
        · have hno : Hid (¬ goodP v N lost m k) := fun h => q3 (by have := HGO.out.1 h; omega)
          clear q3
          go_wp2_with (go_at_call 23; with_reducible refine HY.out.mono ?_; rintro e w3 ⟨rfl, b3⟩; have B3 := below_of b3 hB hB.size)
          go_ret2
          unfold ReadS
          exact ⟨.inr ⟨⟨k, hlt, hno.out⟩, rfl⟩, B3.alloc B3.size _⟩
      · have HY := Lib.hid (get_no hGr h0 h1 (by omega) k (by omega))
        have hno : Hid (¬ goodP v N lost m k) := fun h => hg ⟨h.1, h.2.1⟩
        clear hg hGr
        go_wp2_with (go_at_call 23; with_reducible refine HY.out.mono ?_; rintro e w3 ⟨rfl, b3⟩; have B3 := below_of b3 hB hB.size)
        go_ret2
        unfold ReadS
        exact ⟨.inr ⟨⟨k, hlt, hno.out⟩, rfl⟩, B3.alloc B3.size _⟩
    · obtain rfl : k = M := by omega
      obtain ⟨A1, c1, rfl, hc1⟩ := own_form hown
      have HR := Lib.hid (Rd.of_own hown)
      have hz2 := upB_size v k
      have HB := Lib.hid (bs_bts (upB v k))
      clear hown
      go_wp2_with (refine wpList_bytes_str rfl 55 9 (.tmp 62) rfl 5 Try.underlying55 Try.underlying5 Try.underlying9 _ (upB v k).size _ (bts (upB v k)) rfl HR.out (bts_len _) ?_)
      go_ret2
      unfold ReadS
      exact ⟨.inl ⟨HJ.out, congrArg (fun s => Ending.returned (.tuple #[.string s, .int .i64 0])) HB.out⟩, hB⟩
end Go.Proofs.Ytejmpfmkaiaklaa
