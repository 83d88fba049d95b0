/-
  Two lists apart; what FreeWaits asks, in plain words. No condition of its own.
-/
import Derived.Test.YtdpgeoiehbijlaaGreatFreeW
import Derived.Test.YtdpgeoiehbijlaaGreatFreeL
import Derived.Test.YtdpgeoiehbijlaaGreatFreeI
import Derived.Test.YtdpgeoiehbijlaaGreatFreeJ
namespace Go.Proofs.YtdpgeoiehbijlaaGreat
open Go Go.RowKit
attribute [local go_sem] cell_set_if

/-- Another list is as it was, and stays apart. -/
theorem turn_far {T E T2 E2 : TypeId} {w w' : World} {base base2 g g2 : Nat} {s s2 : Fs} {v1 v2 v1' v2' u1 u2 : Value} (h1 : FreeT T E w base g s v1 v2) (h2 : FreeT T2 E2 w base2 g2 s2 u1 u2) (t : TurnF g v1 v2 w v1' v2' w') (hd : ∀ q, mineF g v1 v2 q → ¬ mineF g2 u1 u2 q) :
    FreeT T2 E2 w' base2 g2 s2 u1 u2 ∧ ∀ q, mineF g v1' v2' q → ¬ mineF g2 u1 u2 q :=
  ⟨h2.frm t.frm fun q h2q h1q => hd q h1q h2q, fun q hq h2q => by
    rcases t.own q hq with h | h
    · exact hd q h h2q
    · have := (h2.mine_lt q h2q).2; omega⟩
/-- A row that is younger than a list stays when the list turns. -/
theorem row_far {T E : TypeId} {w w' : World} {base base2 g sz n : Nat} {s : Fs} {v1 v2 v1' v2' v : Value} {e : TypeId} {xs : List Value} (hl : ∀ q, mineF g v1 v2 q → q < base2) (t : TurnF g v1 v2 w v1' v2' w') (ho : w.ownsRow base2 e sz v n xs) (_h : FreeT T E w base g s v1 v2) : w'.ownsRow base2 e sz v n xs :=
  own_frm ho t.frm fun q hq hs => by have := hl q hs; have := (ho.lt q hq).1; omega
structure WaitsV (pages tx : Int) (nn : Nat) (ids : List Int) (s1 : Fs) (k : Nat) (pl : List Int) (s2 s3 : Fs) : Prop where
  give : giveS ⟨pages, [], []⟩ tx ids = (s1, k)
  ok1 : s1.ok
  f1 : s1.fr.length = 0
  g1 : s1.pages = pages
  pe1 : pendS s1 tx = pl
  len : pl.length = k
  small : ∀ x ∈ pl, x < pages
  take : takeS s1 (nn : Int) = ((pages, 0), s2)
  ok2 : s2.ok
  f2 : s2.fr.length = 0
  pe2 : pendS s2 tx = pl
  rel : relS s1 (tx + 1) = (s3, k)
  ok3 : s3.ok
  f3 : s3.fr.length = k
  pe3 : (pendS s3 tx).length = 0
  g3 : s3.pages = pages
  le : k ≤ ids.length
theorem waits_facts {pages tx : Int} {nn : Nat} {ids : List Int} (h0 : 2 ≤ pages) (h1 : pages ≤ 1000) (hn : 1 ≤ nn) (hn2 : nn ≤ 20) : ∃ s1 k pl s2 s3, WaitsV pages tx nn ids s1 k pl s2 s3 := by
  have hok0 : (⟨pages, [], []⟩ : Fs).ok := ok_load h0 (by omega) List.Pairwise.nil (by simp)
  obtain ⟨hp, hf, l, hpd, hl⟩ := giveS_pd ⟨pages, [], []⟩ tx ids
  have hok1 := giveS_ok hok0 tx ids
  have hcnt := giveS_cnt ⟨pages, [], []⟩ tx ids
  obtain ⟨s1, hs1⟩ : ∃ s1, s1 = (giveS ⟨pages, [], []⟩ tx ids).1 := ⟨_, rfl⟩
  obtain ⟨k, hk⟩ : ∃ k, k = (giveS ⟨pages, [], []⟩ tx ids).2 := ⟨_, rfl⟩
  rw [← hs1] at hp hf hpd hok1
  rw [← hk] at hl hcnt
  simp only [List.nil_append] at hp hf hpd
  have hout : ∀ p : Int → Bool, p tx = true → outS p s1 = l := fun p hp => outS_all s1 p tx l hpd hp
  have hpe1 : pendS s1 tx = sortZ l := by unfold pendS; rw [hout _ (by simp)]
  have hids : idsP s1.pd = l := by rw [hpd]; unfold idsP; rw [List.map_map]; simp [Function.comp_def]
  have hnone : runV s1.fr nn = none := by rw [hf]; rfl
  have htake : takeS s1 (nn : Int) = ((pages, 0), { s1 with pages := s1.pages + nn }) := by
    unfold takeS
    rw [if_neg (by omega)]
    simp only [Int.toNat_natCast, hnone]
    rw [if_neg (by rw [hp]; omega), hp]
  have hok2 := takeS_ok hok1 (nn : Int)
  rw [htake] at hok2
  have hrel : relS s1 (tx + 1) = (⟨pages, sortZ l, []⟩, k) := by
    unfold relS
    rw [hout (fun t => decide (t < tx + 1)) (by simp; omega), hf, List.nil_append, hl, hp]
    have : (s1.pd.filter fun q => !decide (q.1 < tx + 1)) = [] := by
      rw [hpd, List.filter_eq_nil_iff]
      intro q hq
      obtain ⟨x, _, rfl⟩ := List.mem_map.1 hq
      simp; omega
    rw [this]
  have hok3 := relS_ok hok1 (tx + 1)
  rw [hrel] at hok3
  exact ⟨s1, k, sortZ l, _, ⟨pages, sortZ l, []⟩, ⟨by rw [hs1, hk], hok1, by rw [hf]; rfl, hp, hpe1, by rw [sortZ_len]; exact hl, fun x hx => by
    have hx' := sortZ_mem.1 hx
    rw [← hids] at hx'
    have := (hok1.rp x hx').2
    rw [hp] at this; exact this, htake, hok2, by show s1.fr.length = 0; rw [hf]; rfl, hpe1, hrel, hok3, by show (sortZ l).length = k; rw [sortZ_len]; exact hl, by show (pendS ⟨pages, sortZ l, []⟩ tx).length = 0; unfold pendS; rw [sortZ_len]; rfl, rfl, hcnt⟩⟩
end Go.Proofs.YtdpgeoiehbijlaaGreat
