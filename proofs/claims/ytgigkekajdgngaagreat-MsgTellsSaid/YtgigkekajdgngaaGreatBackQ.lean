/-
  What was laid is read as it was: requests, entries, messages, in plain words. No condition of its own.
-/
import Derived.Test.YtgigkekajdgngaaGreatMsgR
import Derived.Test.YtgigkekajdgngaaGreatPostC
namespace Go.Proofs.YtgigkekajdgngaaGreat
open Go Go.RowKit

theorem bnum (n v : Nat) (r : List UInt8) (_hn : n ≤ 8) (hv : v < 256 ^ n) (hv2 : v < 9223372036854775808) : getNum n (lowB v n ++ r, 0) = ((v : Int), (r, 0)) := pget_low n v r hv hv2
theorem btext (t : ByteArray) (r : List UInt8) (h : t.size < 65536) : getText (textB t ++ r, 0) = (bts t, (r, 0)) := by
  have := pget_text (bts t) r (by rw [bts_len]; exact h)
  rw [bts_len] at this
  unfold textB
  rw [List.append_assoc]
  exact this
theorem bcm (x : Cm) (r : List UInt8) (h : validC x = true) : getCm (cmB x ++ r, 0) = (x, (r, 0)) := by
  obtain ⟨⟨h1, h2⟩, h3, h4, h5, h6⟩ := validC_iff.1 h
  have e0 : getNum 1 (cmB x ++ r, 0) = (x.kind, (textB x.path ++ (textB x.key ++ (textB x.val ++ (textB x.old ++ r))), 0)) := by
    unfold cmB
    simp only [List.append_assoc]
    rw [bnum 1 x.kind.toNat _ (by omega) (by omega) (by omega), Int.toNat_of_nonneg (by omega)]
  unfold getCm
  simp only [e0, btext x.path _ (by omega), btext x.key _ (by omega), btext x.val _ (by omega), btext x.old _ (by omega), bs_bts]
theorem bcms (l : List Cm) (r : List UInt8) (h : ∀ x ∈ l, validC x = true) (k : Nat) (hk : k ≤ l.length) : getCms k (cmsB l ++ r, 0) = (l.take k, (cmsB (l.drop k) ++ r, 0)) := by
  induction k with
  | zero => rfl
  | succ k ih =>
    have e := ih (by omega)
    have hx : l[k]? = some (l[k]'(by omega)) := List.getElem?_eq_getElem _
    have hd : l.drop k = l[k]'(by omega) :: l.drop (k + 1) := List.drop_eq_getElem_cons (by omega)
    have hc : cmsB (l.drop k) = cmB (l[k]'(by omega)) ++ cmsB (l.drop (k + 1)) := by rw [hd]; rfl
    have eg : getCm (cmsB (l.drop k) ++ r, 0) = (l[k]'(by omega), (cmsB (l.drop (k + 1)) ++ r, 0)) := by
      rw [hc, List.append_assoc]
      exact bcm _ _ (h _ (List.getElem_mem _))
    show ((getCms k (cmsB l ++ r, 0)).1 ++ [(getCm (getCms k (cmsB l ++ r, 0)).2).1], (getCm (getCms k (cmsB l ++ r, 0)).2).2) = _
    rw [e]
    simp only [eg]
    rw [List.take_add_one, hx]
    rfl
theorem rdQ_back {c s : Int} {l : List Cm} (h : checkQ c s l = 0) : rdQ (reqB c.toNat s.toNat l) = ⟨c, s, l, ([], 0)⟩ := by
  obtain ⟨⟨h1, h2⟩, ⟨h3, h4⟩, _, h6, h7, _⟩ := checkQ_ok h
  have e1 : getNum 8 (reqB c.toNat s.toNat l, 0) = (c, (lowB s.toNat 8 ++ (lowB l.length 1 ++ cmsB l), 0)) := by
    unfold reqB
    simp only [List.append_assoc]
    rw [bnum 8 c.toNat _ (by omega) (by omega) (by omega), Int.toNat_of_nonneg (by omega)]
  have e2 : getNum 8 (lowB s.toNat 8 ++ (lowB l.length 1 ++ cmsB l), 0) = (s, (lowB l.length 1 ++ cmsB l, 0)) := by
    rw [bnum 8 s.toNat _ (by omega) (by omega) (by omega), Int.toNat_of_nonneg (by omega)]
  have e3 : getNum 1 (lowB l.length 1 ++ cmsB l, 0) = ((l.length : Int), (cmsB l, 0)) := bnum 1 l.length _ (by omega) (by omega) (by omega)
  have e4 := bcms l [] h7 l.length (Nat.le_refl _)
  rw [List.append_nil, List.take_length, List.drop_length] at e4
  have e5 : cmsB [] ++ [] = ([] : List UInt8) := rfl
  rw [e5] at e4
  unfold rdQ
  simp only [e1, e2, e3, Int.toNat_natCast, e4]
theorem errQ_back {c s : Int} {l : List Cm} (h : checkQ c s l = 0) : errQ (reqB c.toNat s.toNat l) = 0 := by
  unfold errQ
  rw [rdQ_back h]
  have e : endG (([] : List UInt8), (0 : Int)) = ([], 0) := by unfold endG; simp
  simp only [e]
  unfold layQ
  rw [if_pos h]
  simp
theorem errE_back {x : En} (h : (layE x).2 = 0) : errE (bts (layE x).1) = 0 ∧ ∀ A n c, enQ (bts (layE x).1) A n c = ⟨x.index, x.term, x.client, x.seq, A, n, c, x.cmds⟩ := by
  obtain ⟨⟨h1, h2⟩, ⟨h3, h4⟩, h5, h6⟩ := layE_ok h
  have hb : bts (layE x).1 = lowB x.index.toNat 4 ++ (lowB x.term.toNat 4 ++ reqB x.client.toNat x.seq.toNat x.cmds) := by
    rw [h6, bts_bs, List.append_assoc]
  have e1 : getNum 4 (lowB x.index.toNat 4 ++ (lowB x.term.toNat 4 ++ reqB x.client.toNat x.seq.toNat x.cmds), 0) = (x.index, (lowB x.term.toNat 4 ++ reqB x.client.toNat x.seq.toNat x.cmds, 0)) := by
    rw [bnum 4 x.index.toNat _ (by omega) (by omega) (by omega), Int.toNat_of_nonneg (by omega)]
  have e2 : getNum 4 (lowB x.term.toNat 4 ++ reqB x.client.toNat x.seq.toNat x.cmds, 0) = (x.term, (reqB x.client.toNat x.seq.toNat x.cmds, 0)) := by
    rw [bnum 4 x.term.toNat _ (by omega) (by omega) (by omega), Int.toNat_of_nonneg (by omega)]
  have er : restE (bts (layE x).1) = (reqB x.client.toNat x.seq.toNat x.cmds, 0) := by
    rw [hb]; unfold restE; simp only [e1, e2]
  have hq : ∀ A n c, enQ (bts (layE x).1) A n c = ⟨x.index, x.term, x.client, x.seq, A, n, c, x.cmds⟩ := fun A n c => by
    unfold enQ
    rw [er]
    simp only [rdQ_back h5]
    rw [hb]
    simp only [e1, e2]
  refine ⟨?_, hq⟩
  unfold errE
  rw [er, hq]
  simp only [errQ_back h5, bs_bts]
  have hl : layE ⟨x.index, x.term, x.client, x.seq, none, 0, 0, x.cmds⟩ = layE x := rfl
  rw [hl]
  have he : layE x = ((layE x).1, 0) := by rw [← h]
  rw [if_neg (by decide), if_neg (by decide), if_pos he]
theorem enP_back {x : En} (h : (layE x).2 = 0) (hn : x.cmds.length = x.n) : enP (layE x).1 = plE x := by
  unfold enP
  rw [(errE_back h).2]
  have hr : (rdQ (restE (bts (layE x).1)).1).cmds = x.cmds := by
    have := congrArg En.cmds ((errE_back h).2 none 0 0)
    exact this
  rw [hr, hn]
  rfl
theorem bts_ents (l : List En) (r : List UInt8) (h : ∀ x ∈ l, (layE x).2 = 0) (k : Nat) (hk : k ≤ l.length) : getTs k (entsB l ++ r, 0) = ((l.take k).map (fun x => (layE x).1), (entsB (l.drop k) ++ r, 0)) := by
  induction k with
  | zero => rfl
  | succ k ih =>
    have e := ih (by omega)
    have hx : l[k]? = some (l[k]'(by omega)) := List.getElem?_eq_getElem _
    have hd : l.drop k = l[k]'(by omega) :: l.drop (k + 1) := List.drop_eq_getElem_cons (by omega)
    have hc : entsB (l.drop k) = textB (layE (l[k]'(by omega))).1 ++ entsB (l.drop (k + 1)) := by rw [hd]; rfl
    have hz := layE_size (h _ (List.getElem_mem (show k < l.length by omega)))
    have eg : getText (entsB (l.drop k) ++ r, 0) = (bts (layE (l[k]'(by omega))).1, (entsB (l.drop (k + 1)) ++ r, 0)) := by
      rw [hc, List.append_assoc]
      exact btext _ _ (by omega)
    show ((getTs k (entsB l ++ r, 0)).1 ++ [bs (getText (getTs k (entsB l ++ r, 0)).2).1], (getText (getTs k (entsB l ++ r, 0)).2).2) = _
    rw [e]
    simp only [eg, bs_bts]
    rw [List.take_add_one, hx, List.map_append]
    rfl
def Ms.pl' (m : Ms) : Ms := { m with es := m.es.map plE }
/-- A message's bytes say the message. -/
theorem hdM_back {m : Ms} (hm : m.bad = false) (ho : ∀ x ∈ m.es, (layE x).2 = 0) : hdM m.body = ⟨m.kind, m.a, m.b, m.c, m.d, m.r, (if m.ok then 1 else 0), m.txt, (m.es.length : Int), (entsB m.es, 0)⟩ := by
  obtain ⟨⟨g1, g2⟩, g3, g4, g5⟩ := Ms.good hm
  obtain ⟨kind, a, b, c, d, r, ok, txt, es⟩ := m
  unfold Ms.nums at g5
  simp only [] at g1 g2 g3 g4 g5
  have ga := g5 a (by simp)
  have gb := g5 b (by simp)
  have gc := g5 c (by simp)
  have gd := g5 d (by simp)
  have gr := g5 r (by simp)
  obtain ⟨on, hon⟩ : ∃ on : Nat, on = if ok then 1 else 0 := ⟨_, rfl⟩
  have hon1 : on ≤ 1 := by rw [hon]; split <;> omega
  have hoi : (on : Int) = if ok then 1 else 0 := by rw [hon]; split <;> rfl
  have hbody : (⟨kind, a, b, c, d, r, ok, txt, es⟩ : Ms).body = lowB kind.toNat 1 ++ (lowB a.toNat 4 ++ (lowB b.toNat 4 ++ (lowB c.toNat 4 ++ (lowB d.toNat 4 ++ (lowB r.toNat 4 ++ (lowB on 1 ++ (textB txt ++ (lowB es.length 1 ++ entsB es)))))))) := by
    unfold Ms.body headM Ms.nums numsB
    rw [← hon]
    have et : lowB txt.size 2 ++ bts txt = textB txt := rfl
    simp only [et, List.map_cons, List.map_nil, List.flatMap_cons, List.flatMap_nil, List.append_assoc, List.append_nil]
  have n1 := fun s => bnum 1 kind.toNat s (by omega) (by omega) (by omega)
  have n2 := fun s => bnum 4 a.toNat s (by omega) (by omega) (by omega)
  have n3 := fun s => bnum 4 b.toNat s (by omega) (by omega) (by omega)
  have n4 := fun s => bnum 4 c.toNat s (by omega) (by omega) (by omega)
  have n5 := fun s => bnum 4 d.toNat s (by omega) (by omega) (by omega)
  have n6 := fun s => bnum 4 r.toNat s (by omega) (by omega) (by omega)
  have n7 := fun s => bnum 1 on s (by omega) (by omega) (by omega)
  have n8 := fun s => btext txt s (by omega)
  have n9 := fun s => bnum 1 es.length s (by omega) (by omega) (by omega)
  rw [hbody]
  unfold hdM
  simp only [n1, n2, n3, n4, n5, n6, n7, n8, n9, bs_bts, hoi]
  rw [Int.toNat_of_nonneg (by omega), Int.toNat_of_nonneg (by omega), Int.toNat_of_nonneg (by omega), Int.toNat_of_nonneg (by omega), Int.toNat_of_nonneg (by omega), Int.toNat_of_nonneg (by omega)]
theorem tsM_back {m : Ms} (hm : m.bad = false) (ho : ∀ x ∈ m.es, (layE x).2 = 0) : getTs (hdM m.body).n.toNat (hdM m.body).fin = (m.es.map (fun x => (layE x).1), ([], 0)) := by
  rw [hdM_back hm ho]
  have h := bts_ents m.es [] ho m.es.length (Nat.le_refl _)
  rw [List.append_nil, List.take_length, List.drop_length] at h
  exact h
theorem rdM_back {m : Ms} (hm : m.bad = false) (ho : ∀ x ∈ m.es, (layE x).2 = 0) (hn : ∀ x ∈ m.es, x.cmds.length = x.n) : rdM m.body = m.pl' := by
  have ht : tsM m.body = m.es.map (fun x => (layE x).1) := congrArg (fun x => x.1) (tsM_back hm ho)
  unfold rdM
  rw [ht, hdM_back hm ho]
  have he : (m.es.map fun x => (layE x).1).map enP = m.es.map plE := by
    rw [List.map_map]
    exact List.map_congr_left fun x hx => enP_back (ho x hx) (hn x hx)
  rw [he]
  unfold Ms.pl'
  cases m.ok <;> rfl
/-- What was laid is read as it was. -/
theorem errM_back {m : Ms} {T : ByteArray} (h : layM m = (T, 0)) (hn : ∀ x ∈ m.es, x.cmds.length = x.n) : errM T = 0 ∧ rdM (openL (bts T)).1 = m.pl' := by
  obtain ⟨g1, g2, rfl⟩ := layM_ok h
  have e : bts (sealB (bs m.body)) = m.body ++ lowB (crc m.body) 4 := rfl
  have eo : openL (bts (sealB (bs m.body))) = (m.body, 0) := by rw [e, openL_seal]
  have ht : tsM m.body = m.es.map (fun x => (layE x).1) := congrArg (fun x => x.1) (tsM_back g1 g2)
  have hok : okTs (tsM m.body) = true := by
    rw [ht, okTs_iff]
    intro t hx
    obtain ⟨x, hx', rfl⟩ := List.mem_map.1 hx
    exact (errE_back (g2 x hx')).1
  have hr := rdM_back g1 g2 hn
  have hl : layM m.pl' = layM m := (layM_plain m (m.es.map plE) (by rw [List.map_map]; rfl)).symm
  refine ⟨?_, by rw [eo]; exact hr⟩
  unfold errM
  rw [eo]
  simp only [hok, hr, hl, h]
  simp
end Go.Proofs.YtgigkekajdgngaaGreat
