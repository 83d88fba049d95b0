/-
  The walk of the law HistTrims, its cases joined. No condition.
-/
import Derived.Test.YtcmjijlegmdebaaHistTrimsA
import Derived.Test.YtcmjijlegmdebaaHistTrimsB
import Derived.Test.YtcmjijlegmdebaaHistTrimsC
namespace Go.Proofs.Ytcmjijlegmdebaa
open Go Go.RowKit

set_option maxRecDepth 100000 in
theorem histtrims_walk (A : Option Addr) (n c : Nat) (zs : List Int) (tr a b m : Int) (w : World) (hr : Rd w A (zs.map (Value.int .i64))) (hn : zs.length = n) (hm : n ≤ maxLen) :
    Calls Try.prog 5 #[.slice A n c, .int .i64 tr, .int .i64 a, .int .i64 b, .int .i64 m] w fun e w' => e = .returned (.bool true) ∧ Below w.heap.size w w' := by
  by_cases h : n ≤ 60
  · by_cases h1 : tr < 1
    · exact histtrims_B A n c zs tr a b m w hr hn h h1
    · by_cases h2 : tr ≤ n
      · exact histtrims_A A n c zs tr a b m w hr hn h ⟨by omega, h2⟩
      · exact histtrims_C A n c zs tr a b m w hr hn h ⟨by omega, by omega⟩
  · have h' : (60 : Int) < n := by omega
    unfold maxLen at hm
    have hm' : (n : Int) ≤ 9223372036854775807 := by omega
    clear h hr hn
    go_enter Try.func5, Try.ntmps5
    go_wp2_with (go_at_call 25; refine (alive23_any _).mono ?_; rintro e wa ⟨rfl, ba⟩)
    go_ret
    exact ⟨rfl, ba⟩
end Go.Proofs.Ytcmjijlegmdebaa
