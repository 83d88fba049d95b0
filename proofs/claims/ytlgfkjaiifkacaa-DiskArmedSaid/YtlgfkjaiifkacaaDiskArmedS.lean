/-
  DiskArmed in plain words: call by call. No condition of its own.
-/
import Derived.Test.YtlgfkjaiifkacaaDiskArmedP
namespace Go.Proofs.Ytlgfkjaiifkacaa
open Go Go.RowKit

theorem armed_size {nm : ByteArray} (hn : nameOk nm = true) {X : List ByteArray} {sa i : Nat} {l : Int} {keep : List Int} (hi : i ≤ X.length) : sizeD (restoreD (armed (oneD nm X sa i) l keep)) nm = if i = 0 then (0, 8) else (((i : Nat) : Int), 0) := by
  have hm : mayD (restoreD (armed (oneD nm X sa i) l keep)) nm = 0 := by unfold mayD; rw [hn]; rfl
  have hf : (restoreD (armed (oneD nm X sa i) l keep)).find nm = (oneD nm X sa i).find nm := rfl
  unfold sizeD fileD
  rw [if_neg (by rw [hm]; decide), hf]
  by_cases h0 : i = 0
  · subst h0
    have : (oneD nm X sa 0).find nm = none := rfl
    rw [this, if_pos rfl]
  · have hfs : (oneD nm X sa i).fs = [(nm, ⟨0, X.take i, X.take sa, decide (0 < sa)⟩)] := if_neg h0
    have hfind : (oneD nm X sa i).find nm = some ⟨0, X.take i, X.take sa, decide (0 < sa)⟩ := by unfold Ds.find; rw [hfs]; simp
    rw [hfind, if_neg h0]
    simp only [List.length_take, Nat.min_eq_left hi]
/-- The disk behind i calls, armed for n. -/
def StA (nm : ByteArray) (X : List ByteArray) (n i : Nat) (keep : List Int) (d : Ds) : Prop :=
  (i ≤ n ∧ d = armed (oneD nm X (2 * (i / 3)) (i - i / 3)) ((n : Int) - (i : Int)) keep) ∨ (n < i ∧ Fell nm (2 * (n / 3)) d)
theorem StA.step {nm : ByteArray} (hn : nameOk nm = true) {q : ByteArray} (hq : q.size = 256) {n i : Nat} {keep : List Int} (hnn : n ≤ 40) (hi : i < 40) (hk : keep.length ≤ 1000) {d : Ds} (h : StA nm (List.replicate 50 q) n i keep d) (j : Nat) (hj : j = min i n) :
    ∃ e0 d', (i % 3 = 2 → syncD d nm = (e0, d')) ∧ (i % 3 ≠ 2 → writeD d nm ((j - j / 3 : Nat) : Int) q = (e0, d')) ∧ d.fine ∧ StA nm (List.replicate 50 q) n (i + 1) keep d' ∧ (i < n → e0 = 0 ∧ d'.off = false) ∧ (n ≤ i → e0 = 14 ∧ d'.off = true) := by
  rcases h with ⟨h1, rfl⟩ | ⟨h1, h2⟩
  · have hji : j = i := by omega
    rw [hji]
    clear hji hj
    have hfine : (armed (oneD nm (List.replicate 50 q) (2 * (i / 3)) (i - i / 3)) ((n : Int) - (i : Int)) keep).fine := fine_armed (oneD_fine (by omega) (by omega)) (by omega) (by omega) hk
    have hX : (List.replicate 50 q)[i - i / 3]? = some q := by rw [List.getElem?_replicate, if_pos (by omega)]
    have hw := armed_write (nm := nm) (X := List.replicate 50 q) (sa := 2 * (i / 3)) (i := i - i / 3) (l := (n : Int) - (i : Int)) (keep := keep) hn hX hq (by omega) (by omega)
    have hs := armed_sync (nm := nm) (X := List.replicate 50 q) (sa := 2 * (i / 3)) (i := i - i / 3) (l := (n : Int) - (i : Int)) (keep := keep) hn
    by_cases hl : i = n
    · rw [if_pos (by omega)] at hw
      by_cases h3 : i % 3 = 2
      · have hs' := hs (by omega)
        rw [if_pos (by omega)] at hs'
        obtain ⟨d, hd, hF⟩ := fell_of (nm := nm) hn (X := List.replicate 50 q) (sa := 2 * (i / 3)) (i := i - i / 3) (l := (n : Int) - (i : Int) - 1) (keep := keep) (by rw [List.length_replicate]; omega) (by omega)
        refine ⟨14, d, fun _ => by rw [hs', hd], fun h => absurd h3 h, hfine, .inr ⟨by omega, hl ▸ hF⟩, fun h => by omega, fun _ => ⟨rfl, hF.off⟩⟩
      · obtain ⟨d, hd, hF⟩ := fell_of (nm := nm) hn (X := List.replicate 50 q) (sa := 2 * (i / 3)) (i := i - i / 3 + 1) (l := (n : Int) - (i : Int) - 1) (keep := keep) (by rw [List.length_replicate]; omega) (by omega)
        refine ⟨14, d, fun h => absurd h h3, fun _ => by rw [hw, hd], hfine, .inr ⟨by omega, hl ▸ hF⟩, fun h => by omega, fun _ => ⟨rfl, hF.off⟩⟩
    · rw [if_neg (by omega)] at hw
      have hli : (n : Int) - (i : Int) - 1 = (n : Int) - ((i + 1 : Nat) : Int) := by omega
      rw [hli] at hw hs
      by_cases h3 : i % 3 = 2
      · have hs' := hs (by omega)
        rw [if_neg (by omega)] at hs'
        refine ⟨0, _, fun _ => hs', fun h => absurd h3 h, hfine, .inl ⟨by omega, ?_⟩, fun _ => ⟨rfl, rfl⟩, fun h => by omega⟩
        rw [show 2 * ((i + 1) / 3) = i - i / 3 by omega, show i + 1 - (i + 1) / 3 = i - i / 3 by omega]
      · refine ⟨0, _, fun h => absurd h h3, fun _ => hw, hfine, .inl ⟨by omega, ?_⟩, fun _ => ⟨rfl, rfl⟩, fun h => by omega⟩
        rw [show 2 * ((i + 1) / 3) = 2 * (i / 3) by omega, show i + 1 - (i + 1) / 3 = i - i / 3 + 1 by omega]
  · exact ⟨14, d, fun _ => off_sync h2.off nm, fun _ => off_write h2.off nm _ _, h2.fine, .inr ⟨by omega, h2⟩, fun h => by omega, fun _ => ⟨rfl, h2.off⟩⟩
theorem StA.tells {nm : ByteArray} (hn : nameOk nm = true) {q : ByteArray} {n i : Nat} {keep : List Int} (hi : i ≤ 40) {d : Ds} (h : StA nm (List.replicate 50 q) n i keep d) :
    ∃ sz e, sizeD (restoreD d) nm = (sz, e) ∧ ((e = 0 ∧ ((2 * (min i n / 3) : Nat) : Int) ≤ sz) ∨ (e = 8 ∧ 2 * (min i n / 3) = 0)) := by
  rcases h with ⟨h1, rfl⟩ | ⟨h1, h2⟩
  · rw [armed_size hn (by rw [List.length_replicate]; omega)]
    by_cases h0 : i - i / 3 = 0
    · rw [if_pos h0]; exact ⟨0, 8, rfl, .inr ⟨rfl, by omega⟩⟩
    · rw [if_neg h0]; exact ⟨_, _, rfl, .inl ⟨rfl, by omega⟩⟩
  · obtain ⟨sz, e, hs, ht⟩ := h2.tells
    rw [show min i n = n by omega]
    exact ⟨sz, e, hs, ht⟩
end Go.Proofs.Ytlgfkjaiifkacaa
