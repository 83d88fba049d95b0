/-
  How much room is left behind parts of given sizes. Conditions: the room is no more than 2^40; no more parts than a thousand.
-/
import Derived.Test.YtgigkekajdgngaaChecked
import Derived.Test.YtgigkekajdgngaaQuietNew
namespace Go.Proofs.Ytgigkekajdgngaa
open Go Go.RowKit

def natsV (l : List Nat) : List Value := l.map fun (x : Nat) => Value.int .i64 (x : Int)
theorem natsV_at (l : List Nat) (k x : Nat) (h : l[k]? = some x) : (natsV l)[k]? = some (.int .i64 (x : Int)) := by simp [natsV, h]
theorem take_sum (l : List Nat) (k x : Nat) (h : l[k]? = some x) : (l.take (k + 1)).sum = (l.take k).sum + x := by
  rw [List.take_add_one, h, List.sum_append]; simp
/-- What room is left. -/
inductive RoomR (e : Ending) (left : Int) (s : Nat) : Prop
  | mk (r : Int) (he : e = .returned (.int .i64 r)) (h : r = -1 ∨ 0 ≤ r ∧ r = left - s) : RoomR e left s
set_option maxRecDepth 100000 in
theorem roomr_any (A : Option Addr) (n c : Nat) (l : List Nat) (left : Int) (w : World) (hr : Rd w A (natsV l)) (hn : l.length = n) (hm : n ≤ 1000) (hl0 : -1 ≤ left) (hl1 : left ≤ 1099511627776) :
    Calls Try.prog 9 #[.int .i64 left, .slice A n c] w fun e w' => RoomR e left l.sum ∧ w' = w := by
  have HR := Lib.hid hr
  have HN := Lib.hid hn
  have HT : Hid (l.take n = l) := List.take_of_length_le (by omega)
  have hnn : (n : Int) ≤ 1000 := by omega
  have HL0 := Lib.hid hl0
  have HL1 := Lib.hid hl1
  clear hr hn hl0 hl1
  go_enter Try.func9, Try.ntmps9
  go_wp2
  go_loopw [0, 4, 5] (fun u0 u4 u5 wr => ∃ (k : Nat) (t : Int), k ≤ n ∧ u5 = .int .i64 k ∧ u0 = .int .i64 t ∧ t = left - (l.take k).sum ∧ (0 ≤ t ∨ (t = -1 ∧ (l.take k).sum = 0)) ∧ wr = w) (fun _ _ u5 _ => n - (intOf u5).toNat)
  case atStart => exact ⟨0, left, by omega, rfl, rfl, by simp, by have := HL0.out; simp; omega, rfl⟩
  case round =>
    obtain ⟨k, t, hk, rfl, rfl, ht, ht0, rfl⟩ := hrel
    have HT1 := Lib.hid ht
    have HT0 := Lib.hid ht0
    clear ht ht0
    by_cases hlt : k < n
    · obtain ⟨x, hx⟩ : ∃ x, l[k]? = some x := ⟨l[k]'(by have := HN.out; omega), List.getElem?_eq_getElem _⟩
      obtain ⟨b, o, rfl, hb, hc⟩ := HR.out.flat (by simp [natsV]; have := HN.out; omega)
      have d0 := hc _ _ (natsV_at l k x hx)
      have HS := Lib.hid (take_sum l k x hx)
      have hki : (k : Int) < (n : Int) := by omega
      have h1 : t ≤ 1099511627776 := by have := HT1.out; have := HL1.out; omega
      have hx0 : (0 : Int) ≤ (x : Int) := by omega
      clear hc hx
      by_cases hneg : t < 0
      · go_wp2
        go_ret
        exact ⟨⟨-1, rfl, .inl rfl⟩, rfl⟩
      · by_cases hbig : t < (x : Int)
        · go_wp2
          go_ret
          exact ⟨⟨-1, rfl, .inl rfl⟩, rfl⟩
        · go_wp2
          go_roundw
          case rel => exact ⟨k + 1, t - x, by omega, by go_num, rfl, by rw [HS.out, HT1.out]; omega, .inl (by omega), (by trivial)⟩
          case measure => simp [intOf]; omega
    · obtain rfl : k = n := by omega
      go_wp2
      go_ret
      exact ⟨⟨t, rfl, by have h1 := HT0.out; have h2 := HT1.out; rw [HT.out] at h1 h2; omega⟩, rfl⟩
end Go.Proofs.Ytgigkekajdgngaa
