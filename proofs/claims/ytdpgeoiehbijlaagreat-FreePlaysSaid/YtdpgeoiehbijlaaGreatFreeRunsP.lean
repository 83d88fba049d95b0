/-
  What FreeRuns asks, in plain words. No condition of its own.
-/
import Derived.Test.YtdpgeoiehbijlaaGreatFreeWaitsP
namespace Go.Proofs.YtdpgeoiehbijlaaGreat
open Go Go.RowKit

structure RunsV (pages tx a : Int) (n : Nat) (load : List Int) (s1 s2 s3 s4 : Fs) (b : Int) (s5 : Fs) : Prop where
  ok1 : s1.ok
  a0 : 2 ≤ a
  a1 : a + (n : Int) ≤ 4000
  lo : ∀ j : Nat, j < n → a + (j : Int) < s1.pages
  notin : ∀ j : Nat, j < n → a + (j : Int) ∉ allS s1
  was : a < pages → ∀ j : Nat, j < n → a + (j : Int) ∈ load
  give : giveS s1 tx (upFrom a n) = (s2, n)
  ok2 : s2.ok
  pend : (pendS s2 tx).length = n
  rel0 : relS s2 tx = (s3, 0)
  ok3 : s3.ok
  rel1 : relS s3 (tx + 1) = (s4, n)
  ok4 : s4.ok
  take2 : takeS s4 (n : Int) = ((b, 0), s5)
  ba : b ≤ a
theorem runs_facts {pages tx a f : Int} {n : Nat} {load : List Int} {s1 : Fs} (h0 : (⟨pages, load, []⟩ : Fs).ok) (hn : 1 ≤ n) (hn2 : n ≤ 20) (ht : takeS ⟨pages, load, []⟩ (n : Int) = ((a, f), s1)) (hf : f = 0) : ∃ s2 s3 s4 b s5, RunsV pages tx a n load s1 s2 s3 s4 b s5 := by
  obtain ⟨hj, hpd, hok1, _⟩ := take_law h0 (by omega) hn2 ht hf
  have hg := giveS_up s1 tx a n hpd fun j h => ⟨(hj j h).1, (hj j h).2.1, (hj j h).2.2.1⟩
  have hok2 := giveS_ok hok1 tx (upFrom a n)
  rw [hg] at hok2
  obtain ⟨s2, hs2⟩ : ∃ s2 : Fs, s2 = { s1 with pd := (upFrom a n).map fun x => (tx, x) } := ⟨_, rfl⟩
  rw [← hs2] at hg hok2
  have hpd2 : s2.pd = (upFrom a n).map fun x => (tx, x) := by rw [hs2]
  have hok3 := relS_ok hok2 tx
  have hr0 : (relS s2 tx).2 = 0 := by
    show (outS (fun t => decide (t < tx)) s2).length = 0
    rw [outS_not s2 _ tx _ hpd2 (by simp)]; rfl
  obtain ⟨s3, hs3⟩ : ∃ s3, s3 = (relS s2 tx).1 := ⟨_, rfl⟩
  rw [← hs3] at hok3
  have hpd3 : s3.pd = (upFrom a n).map fun x => (tx, x) := by
    rw [hs3]
    show (s2.pd.filter fun q => !decide (q.1 < tx)) = _
    rw [hpd2, List.filter_eq_self]
    intro q hq
    obtain ⟨x, _, rfl⟩ := List.mem_map.1 hq
    simp
  have hok4 := relS_ok hok3 (tx + 1)
  have hout : outS (fun t => decide (t < tx + 1)) s3 = upFrom a n := outS_all s3 _ tx _ hpd3 (by simp; omega)
  have hr1 : (relS s3 (tx + 1)).2 = n := by
    show (outS (fun t => decide (t < tx + 1)) s3).length = n
    rw [hout, upFrom_len]
  have hmem : ∀ x ∈ upFrom a n, x ∈ (relS s3 (tx + 1)).1.fr := fun x hx => by
    show x ∈ sortZ (s3.fr ++ outS (fun t => decide (t < tx + 1)) s3)
    rw [hout, sortZ_mem]
    exact List.mem_append.2 (.inr hx)
  obtain ⟨h1, h2⟩ := take_again hok4 (by omega) hn2 hmem
  have hlast := hj (n - 1) (by omega)
  refine ⟨s2, s3, (relS s3 (tx + 1)).1, (takeS (relS s3 (tx + 1)).1 (n : Int)).1.1, (takeS (relS s3 (tx + 1)).1 (n : Int)).2, ⟨hok1, by have := (hj 0 (by omega)).1; omega, by have := hok1.p1; omega, fun j h => (hj j h).2.1, fun j h hm => ?_, fun h j hjn => (hj j hjn).2.2.2 h, hg, hok2, ?_, ?_, hok3, ?_, hok4, ?_, h2⟩⟩
  · unfold allS at hm
    rw [sortZ_mem, hpd, List.mem_append] at hm
    rcases hm with hm | hm
    · exact (hj j h).2.2.1 hm
    · simp [idsP] at hm
  · unfold pendS
    rw [sortZ_len, outS_all s2 _ tx _ hpd2 (by simp), upFrom_len]
  · rw [hs3]; exact Prod.ext rfl hr0
  · exact Prod.ext rfl hr1
  · exact Prod.ext (Prod.ext rfl h1) rfl
end Go.Proofs.YtdpgeoiehbijlaaGreat
