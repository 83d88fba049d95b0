/-
  What the document's Sum and Low and the program's lay give, for texts of any length below 2^63. No other condition.
-/
import Derived.Test.YtgigkekajdgngaaSumWalks
namespace Go.Proofs.Ytgigkekajdgngaa
open Go Go.RowKit

theorem lay_any (n : Nat) (w : World) (h : n < 4294967296) :
    Calls Try.prog 38 #[.int .u32 n] w fun e w' => e = .returned (str (lowB n 4)) ∧ Below w.heap.size w w' := by
  have e1 : (w.alloc (.cells #[.int .u8 ((n : Int) % 256), .int .u8 ((n : Int) / 256 % 256), .int .u8 ((n : Int) / 65536 % 256), .int .u8 ((n : Int) / 16777216)] 5)) = w.alloc (.cells (u8s (lowB n 4)).toArray 5) := by
    congr 2
    simp [u8s, lowB]; omega
  have E1 := Lib.hid e1
  clear e1
  go_enter Try.func38, Try.ntmps38
  go_wp2_with (refine wpList_bytes_str rfl 30 9 (.tmp 14) rfl 5 Try.underlying30 Try.underlying5 Try.underlying9 _ 4 4 (lowB n 4) rfl (by rw [E1.out]; simpa using Rd.new w (u8s (lowB n 4)).toArray 5) (lowB_len _ _) ?_)
  go_ret
  exact ⟨rfl, (Below.refl _ _).alloc (Nat.le_refl _) _⟩

theorem u8info : (Try.prog.info? 5).map (fun i => (i.zero, i.size, i.bytes)) = some (some (.int .u8 0), 1, 1) := by kernel_rfl

end Go.Proofs.Ytgigkekajdgngaa
