/-
  StoreKeeps in plain words: a disk with one file that is written, synced, written further, and falls. No condition of its own.
-/
import Derived.Test.YtkgcihhpcbodnaaStoreP
namespace Go.Proofs.Ytkgcihhpcbodnaa
open Go Go.RowKit

/-- One file, what is safe of it, what is not. -/
def kD (nm : ByteArray) (N S : List ByteArray) (b : Bool) (W : List Wr) : Ds := ⟨if N.isEmpty then [] else [(nm, ⟨0, N, S, b⟩)], W, false, 0, false, 0, [], if N.isEmpty then 0 else 1⟩
section
variable {nm : ByteArray} {N S : List ByteArray} {b : Bool} {W : List Wr}
theorem kD_new : newD 0 = kD nm [] S b [] := rfl
theorem kD_may (hn : nameOk nm = true) : mayD (kD nm N S b W) nm = 0 := by unfold mayD; rw [hn]; rfl
theorem kD_find : (kD nm N S b W).find nm = if N.isEmpty then none else some ⟨0, N, S, b⟩ := by
  unfold kD Ds.find
  cases N <;> simp
theorem kD_file (hn : nameOk nm = true) : (fileD (kD nm N S b W) nm).2 = if N.isEmpty then none else some ⟨0, N, S, b⟩ := by
  unfold fileD
  rw [if_neg (by rw [kD_may hn]; decide), kD_find]
  cases N <;> rfl
theorem kD_file1 (hn : nameOk nm = true) : (fileD (kD nm [] S b W) nm).1 = 8 := by
  unfold fileD
  rw [if_neg (by rw [kD_may hn]; decide), kD_find]
  rfl
theorem kD_sz (hn : nameOk nm = true) : szD (kD nm N S b W) nm = N.length := by
  unfold szD
  rw [kD_file hn]
  cases N <;> rfl
theorem kD_fine (h0 : N = [] → W = []) (hw : W.length ≤ 900000) (hid : ∀ x ∈ W, x.id = 0) : (kD nm N S b W).fine := by
  refine ⟨fun x hx => ?_, fun h => by simp [kD] at h, hw, by simp [kD]⟩
  have hx' : x ∈ W := hx
  cases N with
  | nil => rw [h0 rfl] at hx'; simp at hx'
  | cons y N => exact ⟨(nm, ⟨0, y :: N, S, b⟩), by simp [kD], (hid x hx').symm⟩
theorem putSec_ne (N : List ByteArray) (n : Nat) (x : ByteArray) (h : n ≤ N.length) : (putSec N n x).isEmpty = false := by
  unfold putSec
  split
  · cases N <;> rfl
  · rename_i hn
    cases N with
    | nil => simp at h; simp at hn; omega
    | cons y N => simp
theorem kD_write (hn : nameOk nm = true) (h0 : N = [] → S = [] ∧ b = false) {n : Nat} (hl : n ≤ N.length) (h4 : n ≤ 4000) {x : ByteArray} (hx : x.size = 256) :
    writeD (kD nm N S b W) nm n x = (0, kD nm (putSec N n x) S b (W ++ [⟨0, n, x⟩])) := by
  have hso : sizeOf_ (kD nm N S b W) nm = N.length := by unfold sizeOf_; rw [kD_find]; cases N <;> rfl
  have hfs : (kD nm N S b W).fs.length ≤ 1 := by unfold kD; cases N <;> simp
  have hfit : fitsD (kD nm N S b W) nm (n : Int) = true := by
    unfold fitsD
    have h1 : (kD nm N S b W).room = 0 := rfl
    rw [h1, decide_eq_false (by omega : ¬ 60 ≤ (kD nm N S b W).fs.length)]; simp
  have hgo : goesD (kD nm N S b W) = (false, kD nm N S b W) := rfl
  unfold writeD
  rw [kD_may hn, if_neg (by decide), if_neg (by omega), hso, if_neg (by omega), hfit, if_neg (by decide), Int.toNat_natCast, hgo]
  have hne := putSec_ne N n x hl
  cases N with
  | nil =>
    obtain ⟨rfl, rfl⟩ := h0 rfl
    obtain rfl : n = 0 := by simpa using hl
    simp [withF, Ds.find, kD, updF, putF, putSec]
  | cons y N =>
    have hwf : withF (kD nm (y :: N) S b W) nm = (kD nm (y :: N) S b W, 0) := by unfold withF; rw [kD_find]; rfl
    simp only [hwf, Bool.false_eq_true, if_false]
    unfold kD
    simp only [List.isEmpty_cons, Bool.false_eq_true, if_false, hne]
    unfold updF putF
    simp
theorem kD_sync (hn : nameOk nm = true) (hN : N ≠ []) (hid : ∀ x ∈ W, x.id = 0) : syncD (kD nm N S b W) nm = (0, kD nm N N true []) := by
  have hf : (fileD (kD nm N S b W) nm).2 = some ⟨0, N, S, b⟩ := by rw [kD_file hn]; cases N <;> simp_all
  have hgo : goesD (kD nm N S b W) = (false, kD nm N S b W) := rfl
  have hw : W.filter (fun y => !(decide (y.id = 0) && decide ((0 : Int) ≤ (y.pos : Int)))) = [] := by
    rw [List.filter_eq_nil_iff]
    intro y hy
    simp [hid y hy]
  unfold syncD
  rw [hf]
  simp only [hgo, Bool.false_eq_true, if_false]
  unfold forgetD
  have hws : (kD nm N S b W).ws = W := rfl
  simp only [hws, hw]
  have hne : N.isEmpty = false := by cases N <;> simp_all
  unfold kD updF syncF
  simp [hne]
theorem kD_nosync (hn : nameOk nm = true) : syncD (kD nm [] S b W) nm = (8, kD nm [] S b W) := by
  unfold syncD
  rw [kD_file hn, kD_file1 hn]; rfl
theorem putSec_end (N : List ByteArray) (x : ByteArray) : putSec N N.length x = N ++ [x] := by unfold putSec; rw [if_pos rfl]
/-- The writes of a fill. -/
def zWr (n k : Nat) : List Wr := (List.range' n k).map fun j => ⟨0, j, zeros256⟩
theorem zWr_mem {n k : Nat} {x : Wr} (h : x ∈ zWr n k) : x.id = 0 ∧ n ≤ x.pos ∧ x.data = zeros256 ∧ x.pos < n + k := by
  unfold zWr at h
  obtain ⟨j, hj, rfl⟩ := List.mem_map.1 h
  rw [List.mem_range'_1] at hj
  exact ⟨rfl, hj.1, rfl, hj.2⟩
theorem kD_fill (hn : nameOk nm = true) (k : Nat) : ∀ (N : List ByteArray) (W : List Wr), (N = [] → S = [] ∧ b = false) → N.length + k ≤ 4000 →
    fillA nm k N.length (kD nm N S b W) = (0, kD nm (N ++ List.replicate k zeros256) S b (W ++ zWr N.length k)) := by
  induction k with
  | zero => intro N W _ _; simp [fillA, zWr]
  | succ k ih =>
    intro N W h0 h4
    have hw := kD_write (W := W) hn h0 (Nat.le_refl _) (by omega : N.length ≤ 4000) zeros_size
    unfold fillA
    rw [hw, if_pos rfl, putSec_end]
    have := ih (N ++ [zeros256]) (W ++ [⟨0, N.length, zeros256⟩]) (fun h => by simp at h) (by simp; omega)
    simp only [List.length_append, List.length_singleton] at this
    rw [this]
    have e1 : N ++ [zeros256] ++ List.replicate k zeros256 = N ++ List.replicate (k + 1) zeros256 := by rw [List.append_assoc, List.replicate_succ]; rfl
    have e2 : W ++ [⟨0, N.length, zeros256⟩] ++ zWr (N.length + 1) k = W ++ zWr N.length (k + 1) := by
      rw [List.append_assoc]; unfold zWr; rw [List.range'_succ]; rfl
    rw [e1, e2]
/-- A page is put. -/
def putPg (N : List ByteArray) (p : Pv) : List ByteArray := putSec (N ++ List.replicate (p.i.toNat - N.length) zeros256) p.i.toNat p.sec
def putWr (N : List ByteArray) (p : Pv) : List Wr := zWr N.length (p.i.toNat - N.length) ++ [⟨0, p.i.toNat, p.sec⟩]
theorem kD_put1 (hn : nameOk nm = true) (h0 : N = [] → S = [] ∧ b = false) {p : Pv} (hp : p.ok) (hl : N.length ≤ 4000) : put1 (kD nm N S b W) nm p = (0, kD nm (putPg N p) S b (W ++ putWr N p)) := by
  have hi : p.i = (p.i.toNat : Int) ∧ p.i.toNat < 4000 := by unfold Pv.ok okP at hp; omega
  have hf : fillT (kD nm N S b W) nm p.i = (0, kD nm (N ++ List.replicate (p.i.toNat - N.length) zeros256) S b (W ++ zWr N.length (p.i.toNat - N.length))) := by
    unfold fillT
    rw [kD_sz hn, show (p.i - (N.length : Int)).toNat = p.i.toNat - N.length by omega]
    exact kD_fill hn _ N W h0 (by omega)
  unfold put1
  rw [hf, if_pos rfl]
  have hw := kD_write (nm := nm) (N := N ++ List.replicate (p.i.toNat - N.length) zeros256) (S := S) (b := b) (W := W ++ zWr N.length (p.i.toNat - N.length)) hn (fun h => h0 (by
    have := congrArg List.length h
    simp at this
    exact this.1)) (n := p.i.toNat) (by simp; omega) (by omega) hp.size
  rw [← hi.1] at hw
  show writeD _ nm p.i p.sec = _
  rw [hw, List.append_assoc]; rfl
theorem putPg_len (N : List ByteArray) (p : Pv) : (putPg N p).length = max N.length (p.i.toNat + 1) := by
  unfold putPg putSec
  split <;> simp at * <;> omega
theorem putPg_ne (N : List ByteArray) (p : Pv) : putPg N p ≠ [] := fun h => by have := congrArg List.length h; rw [putPg_len] at this; simp at this
theorem putPg_at (N : List ByteArray) (p : Pv) : (putPg N p)[p.i.toNat]? = some p.sec := by
  unfold putPg putSec
  split
  · rename_i h; rw [h]; simp
  · rename_i h
    rw [List.getElem?_set, if_pos rfl, if_pos]
    simp at h ⊢; omega
theorem putPg_other (N : List ByteArray) (p : Pv) {j : Nat} (hj : j ≠ p.i.toNat) : (putPg N p)[j]? = if j < N.length then N[j]? else if j < p.i.toNat then some zeros256 else none := by
  have h1 : (putPg N p)[j]? = (N ++ List.replicate (p.i.toNat - N.length) zeros256)[j]? := by
    unfold putPg putSec
    split
    · rename_i h
      by_cases hl : j < (N ++ List.replicate (p.i.toNat - N.length) zeros256).length
      · exact List.getElem?_append_left hl
      · rw [List.getElem?_eq_none (by simp at hl h ⊢; omega), List.getElem?_eq_none (by omega)]
    · rw [List.getElem?_set, if_neg (fun e => hj e.symm)]
  rw [h1]
  by_cases hl : j < N.length
  · rw [if_pos hl, List.getElem?_append_left hl]
  · rw [if_neg hl, List.getElem?_append_right (by omega), List.getElem?_replicate]
    by_cases h2 : j < p.i.toNat
    · rw [if_pos h2, if_pos (by omega)]
    · rw [if_neg h2, if_neg (by omega)]
def putN (N : List ByteArray) (l : List Pv) : List ByteArray := l.foldl putPg N
def putW (N : List ByteArray) : List Pv → List Wr
  | [] => []
  | p :: l => putWr N p ++ putW (putPg N p) l
theorem kD_puts (hn : nameOk nm = true) (l : List Pv) : ∀ (N : List ByteArray) (W : List Wr), (N = [] → S = [] ∧ b = false) → (∀ p ∈ l, p.ok) → N.length ≤ 4000 → putL nm l (kD nm N S b W) = (0, kD nm (putN N l) S b (W ++ putW N l)) := by
  induction l with
  | nil => intro N W _ _ _; simp [putL, putN, putW]
  | cons p l ih =>
    intro N W h0 hl h4
    have hp := hl p (by simp)
    have hi : p.i.toNat < 4000 := by unfold Pv.ok okP at hp; omega
    unfold putL
    rw [kD_put1 hn h0 hp h4, if_pos rfl]
    show putL nm l (kD nm (putPg N p) S b (W ++ putWr N p)) = _
    rw [ih (putPg N p) _ (fun h => absurd h (putPg_ne N p)) (fun q hq => hl q (by simp [hq])) (by rw [putPg_len]; omega)]
    rw [List.append_assoc]; rfl
theorem kD_putS (hn : nameOk nm = true) {l : List Pv} (h0 : N = [] → S = [] ∧ b = false) (hl : ∀ p ∈ l, p.put = true) (h4 : N.length ≤ 4000) : putS (kD nm N S b W) nm l = (0, kD nm (putN N l) S b (W ++ putW N l)) := by
  unfold putS
  rw [if_pos (List.all_eq_true.2 hl)]
  exact kD_puts hn l N W h0 (fun p hp => (Pv.put_ok (hl p hp)).1) h4
theorem putN_len (l : List Pv) : ∀ N : List ByteArray, N.length ≤ (putN N l).length := by
  induction l with
  | nil => intro N; exact Nat.le_refl _
  | cons p l ih => intro N; exact Nat.le_trans (by rw [putPg_len]; omega) (ih (putPg N p))
theorem putN_le (l : List Pv) (m : Nat) : ∀ N : List ByteArray, N.length ≤ m → (∀ p ∈ l, p.i.toNat + 1 ≤ m) → (putN N l).length ≤ m := by
  induction l with
  | nil => intro N h _; exact h
  | cons p l ih => intro N h hl; exact ih (putPg N p) (by rw [putPg_len]; have := hl p (by simp); omega) (fun q hq => hl q (by simp [hq]))
/-- What is not put at a place stays there. -/
theorem putN_keep (l : List Pv) : ∀ (N : List ByteArray) (j : Nat), j < N.length → (∀ p ∈ l, p.i.toNat ≠ j) → (putN N l)[j]? = N[j]? := by
  induction l with
  | nil => intro N j _ _; rfl
  | cons p l ih =>
    intro N j hj hl
    have h1 := ih (putPg N p) j (by rw [putPg_len]; omega) (fun q hq => hl q (by simp [hq]))
    exact h1.trans (by rw [putPg_other N p (fun e => hl p (by simp) e.symm), if_pos hj])
/-- The last page of an id is there. -/
theorem putN_last (l : List Pv) : ∀ (N : List ByteArray) (i : Nat) (p : Pv), l[i]? = some p → (∀ k q, i < k → l[k]? = some q → q.i.toNat ≠ p.i.toNat) → (putN N l)[p.i.toNat]? = some p.sec := by
  induction l with
  | nil => intro N i p h; simp at h
  | cons p0 l ih =>
    intro N i p h hl
    cases i with
    | zero =>
      simp at h; subst h
      have h1 := putN_keep l (putPg N p0) p0.i.toNat (by rw [putPg_len]; omega) (fun q hq => by
        obtain ⟨k, hk⟩ := List.getElem?_of_mem hq
        exact hl (k + 1) q (by omega) (by simpa using hk))
      exact h1.trans (putPg_at N p0)
    | succ i => exact ih (putPg N p0) i p (by simpa using h) (fun k q hk hq => hl (k + 1) q (by omega) (by simpa using hq))
/-- What no page is put at is empty. -/
theorem putN_none (l : List Pv) : ∀ (N : List ByteArray) (j : Nat), (∀ x, N[j]? = some x → x = zeros256) → (∀ p ∈ l, p.i.toNat ≠ j) → ∀ x, (putN N l)[j]? = some x → x = zeros256 := by
  induction l with
  | nil => intro N j h _ x hx; exact h x hx
  | cons p l ih =>
    intro N j h hl x hx
    refine ih (putPg N p) j (fun y hy => ?_) (fun q hq => hl q (by simp [hq])) x hx
    rw [putPg_other N p (fun e => hl p (by simp) e.symm)] at hy
    split at hy
    · exact h y hy
    · split at hy
      · injection hy with hy; exact hy.symm
      · cases hy
theorem putW_id (l : List Pv) : ∀ N : List ByteArray, ∀ x ∈ putW N l, x.id = 0 := by
  induction l with
  | nil => intro N x hx; simp [putW] at hx
  | cons p l ih =>
    intro N x hx
    unfold putW putWr at hx
    simp only [List.mem_append, List.mem_singleton] at hx
    rcases hx with (hx | hx) | hx
    · exact (zWr_mem hx).1
    · rw [hx]
    · exact ih _ x hx
theorem putW_len (l : List Pv) (m : Nat) : ∀ N : List ByteArray, (∀ p ∈ l, p.i.toNat + 1 ≤ m) → (putW N l).length ≤ l.length * m := by
  induction l with
  | nil => intro N _; simp [putW]
  | cons p l ih =>
    intro N hl
    have h1 := ih (putPg N p) (fun q hq => hl q (by simp [hq]))
    have h2 := hl p (by simp)
    unfold putW putWr
    simp only [List.length_append, zWr, List.length_map, List.length_range', List.length_singleton, List.length_cons, List.length_nil]
    rw [Nat.add_mul, Nat.one_mul]
    omega
/-- The writes behind what is safe: each lies behind it, and those below 41 are empty. -/
structure Late (sa : Nat) (x : Wr) : Prop where
  id : x.id = 0
  pos : sa ≤ x.pos
  low : x.pos < 41 → x.data = zeros256
  size : x.data.size = 256
theorem putW_late (l : List Pv) (sa : Nat) : ∀ (N : List ByteArray), sa ≤ N.length → (∀ p ∈ l, p.ok ∧ 41 ≤ p.i.toNat) → sa ≤ 41 → ∀ x ∈ putW N l, Late sa x := by
  induction l with
  | nil => intro N _ _ _ x hx; simp [putW] at hx
  | cons p l ih =>
    intro N hN hl h41 x hx
    obtain ⟨hp, hi⟩ := hl p (by simp)
    unfold putW putWr at hx
    simp only [List.mem_append, List.mem_singleton] at hx
    rcases hx with (hx | hx) | hx
    · obtain ⟨h1, h2, h3, _⟩ := zWr_mem hx
      exact ⟨h1, by omega, fun _ => h3, by rw [h3]; exact zeros_size⟩
    · subst hx
      exact ⟨rfl, by show sa ≤ p.i.toNat; omega, fun h => by have : p.i.toNat < 41 := h; omega, hp.size⟩
    · exact ih _ (by rw [putPg_len]; omega) (fun q hq => hl q (by simp [hq])) h41 x hx
theorem zeros_parts (k : Nat) (hk : k ≤ 256) : zeros256.extract 0 k ++ zeros256.extract k 256 = zeros256 := by
  apply bts_inj
  rw [bts_append, bts_extract, bts_extract]
  have h : bts zeros256 = List.replicate 256 0 := rfl
  rw [h, List.drop_zero, List.take_replicate, List.take_replicate, List.drop_replicate, List.replicate_append_replicate]
  congr 1; omega
/-- What a crash leaves of the file. -/
structure Left (S T : List ByteArray) : Prop where
  old : ∀ j, j < S.length → T[j]? = S[j]?
  low : ∀ j x, S.length ≤ j → j < 41 → T[j]? = some x → x = zeros256
theorem Left.len {T : List ByteArray} (h : Left S T) : S.length ≤ T.length := by
  by_cases h0 : S.length = 0
  · omega
  · have := h.old (S.length - 1) (by omega)
    rw [List.getElem?_eq_getElem (show S.length - 1 < S.length by omega)] at this
    have := (List.getElem?_eq_some_iff.1 this).1
    omega
theorem left_redo {T : List ByteArray} (h : Left S T) {x : Wr} (hx : Late S.length x) {k : Nat} (hk : k ≤ 256) : Left S (redoL T x.pos x.data k) := by
  have hl := h.len
  have hp := padTo_len T (x.pos + 1)
  have hpad : ∀ j y, S.length ≤ j → j < 41 → (padTo T (x.pos + 1))[j]? = some y → y = zeros256 := fun j y h1 h2 hy => by
    unfold padTo at hy
    by_cases hj : j < T.length
    · rw [List.getElem?_append_left hj] at hy; exact h.low j y h1 h2 hy
    · rw [List.getElem?_append_right (by omega), List.getElem?_replicate] at hy
      split at hy
      · injection hy with hy; exact hy.symm
      · cases hy
  refine ⟨fun j hj => ?_, fun j y h1 h2 hy => ?_⟩
  · unfold redoL
    rw [List.getElem?_set, if_neg (by have := hx.pos; omega)]
    unfold padTo
    rw [List.getElem?_append_left (by omega)]
    exact h.old j hj
  · unfold redoL at hy
    rw [List.getElem?_set] at hy
    by_cases e : x.pos = j
    · subst e
      have hlt : x.pos < (padTo T (x.pos + 1)).length := by omega
      rw [if_pos rfl, if_pos hlt] at hy
      injection hy with hy
      have hz : (padTo T (x.pos + 1)).getD x.pos ByteArray.empty = zeros256 := by
        rw [List.getD_eq_getElem?_getD, List.getElem?_eq_getElem hlt]
        exact hpad x.pos _ h1 h2 (List.getElem?_eq_getElem hlt)
      rw [hz, hx.low h2, zeros_parts k hk] at hy
      exact hy.symm
    · rw [if_neg e] at hy
      exact hpad j y h1 h2 hy
theorem redoN_left (keep : List Int) (hid : ∀ x ∈ W, Late S.length x) (n : Nat) : ∃ T b', redoN keep [(nm, (⟨0, N, S, b⟩ : Fl))] W n = [(nm, ⟨0, N, T, b'⟩)] ∧ Left S T ∧ (b = true → b' = true) := by
  induction n with
  | zero => exact ⟨S, b, rfl, ⟨fun _ _ => rfl, fun j x h1 _ hx => by have := (List.getElem?_eq_some_iff.1 hx).1; omega⟩, fun h => h⟩
  | succ n ih =>
    obtain ⟨T, b', h1, h2, h3⟩ := ih
    unfold redoN
    cases hx : W[n]? with
    | none => exact ⟨T, b', h1, h2, h3⟩
    | some x =>
      have hl := hid x (List.mem_of_getElem? hx)
      simp only
      unfold redo1
      by_cases hk : 0 < keptD keep n
      · rw [if_pos hk, h1]
        refine ⟨redoL T x.pos x.data (keptD keep n), true, ?_, left_redo h2 hl (keptD_le _ _), fun _ => rfl⟩
        unfold updF redoF
        simp [hl.id]
      · rw [if_neg hk]
        exact ⟨T, b', h1, h2, h3⟩
/-- Behind the crash, with power again. -/
theorem kD_crash (keep : List Int) (hid : ∀ x ∈ W, Late S.length x) (hN : N = [] → W = [] ∧ b = false) : ∃ k d, crashD (kD nm N S b W) keep = (k, d) ∧ (∃ T, (d.find nm = some ⟨0, T, T, true⟩ ∧ Left S T) ∨ (d.find nm = none ∧ b = false)) ∧ (restoreD d).off = false ∧ d.ws = [] ∧ d.keep = [] ∧ d.armed = false := by
  have hoff : (kD nm N S b W).off = false := rfl
  refine ⟨(crashD (kD nm N S b W) keep).1, (crashD (kD nm N S b W) keep).2, rfl, ?_, rfl, ?_, ?_, ?_⟩ <;> unfold crashD <;> rw [if_neg (by rw [hoff]; decide)]
  have hws : (kD nm N S b W).ws = W := rfl
  cases N with
  | nil =>
    obtain ⟨rfl, rfl⟩ := hN rfl
    exact ⟨[], .inr ⟨rfl, rfl⟩⟩
  | cons y N =>
    have hfs : (kD nm (y :: N) S b W).fs = [(nm, ⟨0, y :: N, S, b⟩)] := rfl
    simp only [hfs, hws]
    obtain ⟨T, b', h1, h2, h3⟩ := redoN_left (nm := nm) (N := y :: N) (S := S) (b := b) keep hid W.length
    rw [h1]
    cases b' with
    | true => exact ⟨T, .inl ⟨by unfold leftF Ds.find; simp, h2⟩⟩
    | false =>
      refine ⟨T, .inr ⟨by unfold leftF Ds.find; simp, ?_⟩⟩
      cases b with
      | true => exact absurd (h3 rfl) (by decide)
      | false => rfl
end
theorem zeros_err : errB (bts zeros256) ≠ 0 := by
  have hk : kindB (bts zeros256) = 0 := by
    unfold kindB
    have h : bts zeros256 = List.replicate 256 0 := rfl
    rw [h, List.take_replicate]; rfl
  have : ¬ (pgB (bts zeros256)).ok := fun h => by
    have h1 : 1 ≤ kindB (bts zeros256) := h.1
    omega
  unfold errB
  rw [if_pos (.inr this)]; decide
/-- What Get tells behind the crash. -/
def TellsK (d : Ds) (nm : ByteArray) (safe : List Pv) : Prop :=
  (∀ (i : Nat) (p : Pv), safe[i]? = some p → (∀ (k : Nat) (q : Pv), i < k → safe[k]? = some q → q.i ≠ p.i) → getS d nm p.i = (p, 0)) ∧
  (∀ id : Int, id < 41 → (∀ p ∈ safe, p.i ≠ id) → ∃ e, getS d nm id = (noPv, e) ∧ e ≠ 0)
theorem getS_err {d : Ds} {nm : ByteArray} {id e : Int} {x : ByteArray} (h : readD d nm id = (x, e)) (he : e ≠ 0) : getS d nm id = (noPv, e) := by
  unfold getS; rw [h, if_pos he]
theorem getS_zero {d : Ds} {nm : ByteArray} {id : Int} (h : readD d nm id = (zeros256, 0)) : ∃ e, getS d nm id = (noPv, e) ∧ e ≠ 0 := by
  refine ⟨errB (bts zeros256), ?_, by have := zeros_err; omega⟩
  unfold getS; rw [h, if_neg (by decide), if_pos (by have := zeros_err; show (errB (bts zeros256)) ≠ 0; omega)]
theorem getS_page {d : Ds} {nm : ByteArray} {p : Pv} (hp : p.put = true) (h : readD d nm p.i = (p.sec, 0)) : getS d nm p.i = (p, 0) := by
  obtain ⟨h1, h2, _⟩ := Pv.put_ok hp
  have he : errB (bts p.sec) = 0 := by unfold Pv.sec; rw [bts_bs]; exact errB_lay h1.pg
  unfold getS
  rw [h, if_neg (show ¬ ((0 : Int) ≠ 0) by decide)]
  show (if errB (bts p.sec) ≠ 0 then _ else if (pvB (bts p.sec)).i ≠ p.i ∨ (pvB (bts p.sec)).k = 1 then _ else _) = _
  rw [pvB_lay h1, if_neg (by rw [he]; decide), if_neg (by intro h; rcases h with h | h; exact h rfl; exact h2 h)]
theorem keeps_plain {nm : ByteArray} (hn : nameOk nm = true) {safe : List Pv} (hs : ∀ p ∈ safe, p.put = true ∧ p.i ≤ 40) {d : Ds} (hoff : (restoreD d).off = false)
    (h : ∃ T, (d.find nm = some ⟨0, T, T, true⟩ ∧ Left (putN [] safe) T) ∨ (d.find nm = none ∧ safe = [])) : TellsK (restoreD d) nm safe := by
  have hm : mayD (restoreD d) nm = 0 := by unfold mayD; rw [hoff, hn]; rfl
  have hfd : (restoreD d).find nm = d.find nm := rfl
  obtain ⟨T, ⟨hf, hL⟩ | ⟨hf, rfl⟩⟩ := h
  · have hrd : ∀ id : Int, readD (restoreD d) nm id = if id < 0 ∨ (T.length : Int) ≤ id then (ByteArray.empty, 15) else (T.getD id.toNat ByteArray.empty, 0) := fun id => by
      unfold readD fileD
      rw [if_neg (by rw [hm]; decide), hfd, hf]
    refine ⟨fun i p hi hlast => ?_, fun id hid hno => ?_⟩
    · obtain ⟨hp, h40⟩ := hs p (List.mem_of_getElem? hi)
      have h2 := (Pv.put_ok hp).2.2
      have hat := putN_last safe [] i p hi (fun k q hk hq => by
        have := hlast k q hk hq
        have := (Pv.put_ok (hs q (List.mem_of_getElem? hq)).1).2.2
        omega)
      have hl := (List.getElem?_eq_some_iff.1 hat).1
      have hT := (hL.old _ hl).trans hat
      refine getS_page hp ?_
      have hTl := (List.getElem?_eq_some_iff.1 hT).1
      rw [hrd, if_neg (by omega), List.getD_eq_getElem?_getD, hT]; rfl
    · by_cases hr : id < 0 ∨ (T.length : Int) ≤ id
      · exact ⟨15, getS_err (x := ByteArray.empty) (by rw [hrd, if_pos hr]) (by decide), by decide⟩
      · have hlt : id.toNat < T.length := by omega
        have hg : T[id.toNat]? = some T[id.toNat] := List.getElem?_eq_getElem hlt
        have hz : T[id.toNat] = zeros256 := by
          by_cases hS : id.toNat < (putN [] safe).length
          · rw [hL.old _ hS] at hg
            exact putN_none safe [] id.toNat (fun x hx => by simp at hx) (fun p hp e => by
              have := hno p hp
              have := (Pv.put_ok (hs p hp).1).2.2
              omega) _ hg
          · exact hL.low id.toNat _ (by omega) (by omega) hg
        refine getS_zero ?_
        rw [hrd, if_neg hr, List.getD_eq_getElem?_getD, hg, hz]; rfl
  · refine ⟨fun i p hi => by simp at hi, fun id _ _ => ⟨8, getS_err (x := ByteArray.empty) ?_ (by decide), by decide⟩⟩
    unfold readD fileD
    rw [if_neg (by rw [hm]; decide), hfd, hf]
end Go.Proofs.Ytkgcihhpcbodnaa
