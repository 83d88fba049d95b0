/-
  A file of pages in plain words: what each call on it tells, and what it leaves of the disk. No condition of its own.
-/
import Derived.Test.YtkgcihhpcbodnaaDiskFine
import Derived.Test.YtkgcihhpcbodnaaPageLaws
namespace Go.Proofs.Ytkgcihhpcbodnaa
open Go Go.RowKit

/-- A page's four fields. -/
structure Pv where
  (k i t : Int)
  bd : ByteArray
def Pv.cells (p : Pv) : List Value := [.int .i64 p.k, .int .i64 p.i, .int .i64 p.t, .string p.bd]
def flatPv (l : List Pv) : List Value := l.flatMap Pv.cells
theorem flatPv_len (l : List Pv) : (flatPv l).length = l.length * 4 := flat_len Pv.cells (fun _ => rfl) l
theorem flatPv_at (l : List Pv) (k : Nat) (x : Pv) (h : l[k]? = some x) (j : Nat) (v : Value) (hv : (Pv.cells x)[j]? = some v) : (flatPv l)[k * 4 + j]? = some v := flat_at Pv.cells (fun _ => rfl) l k x h j v hv
theorem flatPv_one (l : List Pv) : ∀ u ∈ flatPv l, u.oneCell' = true := flat_one Pv.cells (fun x u hu => by unfold Pv.cells at hu; simp at hu; rcases hu with rfl | rfl | rfl | rfl <;> rfl) l
theorem flatPv_app (a b : List Pv) : flatPv (a ++ b) = flatPv a ++ flatPv b := by unfold flatPv; rw [List.flatMap_append]
/-- The page that is none. -/
def noPv : Pv := ⟨0, 0, 0, ⟨#[]⟩⟩
def Pv.ok (p : Pv) : Prop := okP p.k p.i p.t p.bd.size
instance (p : Pv) : Decidable p.ok := by unfold Pv.ok; infer_instance
/-- May a page be put? -/
def Pv.put (p : Pv) : Bool := decide p.ok && decide (p.k ≠ 1) && decide (2 ≤ p.i)
def Pv.pg (p : Pv) : Pg := ⟨p.k.toNat, p.i.toNat, p.t.toNat, bts p.bd⟩
/-- Its sector. -/
def Pv.sec (p : Pv) : ByteArray := bs (layL p.pg)
theorem Pv.ok.pg {p : Pv} (h : p.ok) : p.pg.ok := by
  unfold Pv.ok okP at h; unfold Pg.ok Pv.pg; simp only [bts_len]; omega
theorem Pv.ok.size {p : Pv} (h : p.ok) : p.sec.size = 256 := by unfold Pv.sec; rw [bs_size]; exact layL_len h.pg
theorem Pv.ok.nats {p : Pv} (h : p.ok) : p.k = (p.k.toNat : Int) ∧ p.i = (p.i.toNat : Int) ∧ p.t = (p.t.toNat : Int) := by
  unfold Pv.ok okP at h; omega
theorem Pv.put_ok {p : Pv} (h : p.put = true) : p.ok ∧ p.k ≠ 1 ∧ 2 ≤ p.i := by
  unfold Pv.put at h; simp at h; exact ⟨h.1.1, h.1.2, h.2⟩
/-- What a sector says. -/
def pvB (b : List UInt8) : Pv := ⟨kindB b, idB b, txB b, bs (bodyB b)⟩
theorem pvB_lay {p : Pv} (h : p.ok) : pvB (bts p.sec) = p := by
  obtain ⟨h1, h2, h3⟩ := h.nats
  have h4 := h.pg
  unfold pvB Pv.sec
  rw [bts_bs, kindB_lay h4, idB_lay h4, txB_lay h4, bodyB_lay h4]
  have e4 : bs p.pg.body = p.bd := bs_bts p.bd
  have e3 : ((p.pg.t : Nat) : Int) = p.t := h3.symm
  rw [e3, e4]
  cases p
  simp only [Pv.pg] at *
  rw [← h1, ← h2]

/-- How many sectors a file has that can be asked for. -/
def szD (d : Ds) (s : ByteArray) : Nat := match (fileD d s).2 with
  | some f => f.now.length
  | none => 0
theorem sizeD_sz (d : Ds) (s : ByteArray) : (sizeD d s).1 = (szD d s : Int) := by
  unfold sizeD szD
  cases (fileD d s).2 <;> rfl
/-- Empty sectors are written, so many, from one on. -/
def fillA (s : ByteArray) : Nat → Nat → Ds → Int × Ds
  | 0, _, d => (0, d)
  | k + 1, n, d => if (writeD d s n zeros256).1 = 0 then fillA s k (n + 1) (writeD d s n zeros256).2 else writeD d s n zeros256
def fillT (d : Ds) (s : ByteArray) (size : Int) : Int × Ds := fillA s (size - (szD d s : Int)).toNat (szD d s) d
def put1 (d : Ds) (s : ByteArray) (p : Pv) : Int × Ds := if (fillT d s p.i).1 = 0 then writeD (fillT d s p.i).2 s p.i p.sec else fillT d s p.i
def putL (s : ByteArray) : List Pv → Ds → Int × Ds
  | [], d => (0, d)
  | p :: l, d => if (put1 d s p).1 = 0 then putL s l (put1 d s p).2 else put1 d s p
def putS (d : Ds) (s : ByteArray) (l : List Pv) : Int × Ds := if l.all Pv.put then putL s l d else (1, d)
/-- What Get tells. -/
def getS (d : Ds) (s : ByteArray) (id : Int) : Pv × Int :=
  if (readD d s id).2 ≠ 0 then (noPv, (readD d s id).2) else if errB (bts (readD d s id).1) ≠ 0 then (noPv, errB (bts (readD d s id).1))
  else if (pvB (bts (readD d s id).1)).i ≠ id ∨ (pvB (bts (readD d s id).1)).k = 1 then (noPv, 25) else (pvB (bts (readD d s id).1), 0)
theorem fillA_fine (s : ByteArray) (k : Nat) : ∀ (n : Nat) {d : Ds}, d.fine → d.ws.length + k ≤ 900000 → (fillA s k n d).2.fine ∧ (fillA s k n d).2.ws.length ≤ d.ws.length + k := by
  induction k with
  | zero => exact fun n d h _ => ⟨h, Nat.le_refl _⟩
  | succ k ih =>
    intro n d h hw
    have h1 := write_fine h (by omega) s n zeros256
    unfold fillA
    split
    · have h2 := ih (n + 1) h1.1 (by omega)
      exact ⟨h2.1, by omega⟩
    · exact ⟨h1.1, by omega⟩
theorem fillT_fine {d : Ds} (h : d.fine) (s : ByteArray) (size : Int) (hw : d.ws.length + size.toNat ≤ 900000) : (fillT d s size).2.fine ∧ (fillT d s size).2.ws.length ≤ d.ws.length + size.toNat := by
  have := fillA_fine s (size - (szD d s : Int)).toNat (szD d s) h (by omega)
  exact ⟨this.1, by unfold fillT; omega⟩
theorem put1_fine {d : Ds} (h : d.fine) (s : ByteArray) (p : Pv) (hw : d.ws.length + p.i.toNat + 1 ≤ 900000) : (put1 d s p).2.fine ∧ (put1 d s p).2.ws.length ≤ d.ws.length + p.i.toNat + 1 := by
  have h1 := fillT_fine h s p.i (by omega)
  unfold put1
  split
  · have h2 := write_fine h1.1 (by omega) s p.i p.sec
    exact ⟨h2.1, by omega⟩
  · exact ⟨h1.1, by omega⟩
theorem readD_size {d : Ds} (ok : d.ok) {s : ByteArray} {pos : Int} (h : (readD d s pos).2 = 0) : (readD d s pos).1.size = 256 := by
  unfold readD at h ⊢
  cases hf : (fileD d s).2 with
  | none =>
    rw [hf] at h
    simp only at h
    unfold fileD at hf h
    by_cases hm : mayD d s = 0
    · rw [if_neg (by rw [hm]; decide)] at hf h
      cases h2 : d.find s with
      | none => rw [h2] at h; simp at h
      | some f => rw [h2] at hf; cases hf
    · rw [if_pos hm] at h; exact absurd h hm
  | some f =>
    rw [hf] at h
    simp only at h ⊢
    by_cases hp : pos < 0 ∨ (f.now.length : Int) ≤ pos
    · rw [if_pos hp] at h; simp at h
    · rw [if_neg hp]
      have hl : pos.toNat < f.now.length := by omega
      rw [List.getD_eq_getElem?_getD, List.getElem?_eq_getElem hl]
      exact (ok.now _ (Ds.find_mem (file_on hf).2)).2 _ (List.getElem_mem hl)
end Go.Proofs.Ytkgcihhpcbodnaa
