/-
  DiskLasts in plain words: a disk with one file, sector by sector. (Begun; see NOTES.)
-/
import Derived.Test.YtlgfkjaiifkacaaDiskV
namespace Go.Proofs.Ytlgfkjaiifkacaa
open Go Go.RowKit

/-- The writes from sector sa on. -/
def wrs (X : List ByteArray) (sa i : Nat) : List Wr := (List.range' sa (i - sa)).map fun k => ⟨0, k, X.getD k ByteArray.empty⟩
/-- One file, i sectors long, of which the first sa are safe. -/
def oneD (nm : ByteArray) (X : List ByteArray) (sa i : Nat) : Ds :=
  ⟨if i = 0 then [] else [(nm, ⟨0, X.take i, X.take sa, decide (0 < sa)⟩)], wrs X sa i, false, 0, false, 0, [], if i = 0 then 0 else 1⟩
theorem wrs_succ (X : List ByteArray) {sa i : Nat} (h : sa ≤ i) : wrs X sa (i + 1) = wrs X sa i ++ [⟨0, i, X.getD i ByteArray.empty⟩] := by
  unfold wrs
  rw [show i + 1 - sa = (i - sa) + 1 by omega, List.range'_concat, List.map_append]
  rw [show sa + 1 * (i - sa) = i by omega]; rfl
theorem wrs_none (X : List ByteArray) (i : Nat) : wrs X i i = [] := by unfold wrs; simp
/-- The next sector is written behind the last. -/
theorem oneD_write {nm : ByteArray} {X : List ByteArray} {sa i : Nat} {x : ByteArray} (hn : nameOk nm = true) (hx : X[i]? = some x) (h6 : x.size = 256) (hsa : sa ≤ i) (hi : i ≤ 4000) : writeD (oneD nm X sa i) nm i x = (0, oneD nm X sa (i + 1)) := by
  have hil := (List.getElem?_eq_some_iff.1 hx).1
  have hgd : X.getD i ByteArray.empty = x := by rw [List.getD_eq_getElem?_getD, hx]; rfl
  have htl : (X.take i).length = i := by rw [List.length_take]; omega
  have htk : X.take (i + 1) = X.take i ++ [x] := by rw [List.take_add_one, hx]; rfl
  have hmay : mayD (oneD nm X sa i) nm = 0 := by unfold mayD; rw [hn]; rfl
  unfold writeD
  rw [hmay, if_neg (by decide), if_neg (by omega)]
  by_cases h0 : i = 0
  · subst h0
    obtain rfl : sa = 0 := by omega
    have hfind : (oneD nm X 0 0).find nm = none := rfl
    have hso : sizeOf_ (oneD nm X 0 0) nm = 0 := rfl
    rw [hso, if_neg (by omega)]
    have hfit : fitsD (oneD nm X 0 0) nm ((0 : Nat) : Int) = true := rfl
    rw [hfit, if_neg (by decide)]
    have hw := wrs_succ X (sa := 0) (i := 0) (Nat.le_refl _)
    rw [wrs_none, hgd] at hw
    have e : oneD nm X 0 (0 + 1) = ⟨[(nm, ⟨0, [x], [], false⟩)], [⟨0, 0, x⟩], false, 0, false, 0, [], 1⟩ := by
      unfold oneD; rw [hw, htk]; rfl
    rw [e]; rfl
  · have hfs : (oneD nm X sa i).fs = [(nm, ⟨0, X.take i, X.take sa, decide (0 < sa)⟩)] := if_neg h0
    have hfind : (oneD nm X sa i).find nm = some ⟨0, X.take i, X.take sa, decide (0 < sa)⟩ := by unfold Ds.find; rw [hfs]; simp
    have hso : sizeOf_ (oneD nm X sa i) nm = i := by unfold sizeOf_; rw [hfind]; exact htl
    rw [hso, if_neg (by omega)]
    have hfit : fitsD (oneD nm X sa i) nm (i : Int) = true := by
      unfold fitsD; rw [hfind]
      have : (oneD nm X sa i).room = 0 := rfl
      rw [this]; simp
    rw [hfit, if_neg (by decide), Int.toNat_natCast]
    have hgo : goesD (oneD nm X sa i) = (false, oneD nm X sa i) := rfl
    rw [hgo]
    have hwf : withF (oneD nm X sa i) nm = (oneD nm X sa i, 0) := by unfold withF; rw [hfind]
    simp only [hwf, Bool.false_eq_true, if_false, hfs]
    have hput : putSec (X.take i) i x = X.take (i + 1) := by unfold putSec; rw [htl, if_pos rfl, htk]
    have hu : updF [(nm, (⟨0, X.take i, X.take sa, decide (0 < sa)⟩ : Fl))] 0 (putF i x) = [(nm, ⟨0, X.take (i + 1), X.take sa, decide (0 < sa)⟩)] := by
      unfold updF putF; simp [hput]
    rw [hu]
    have hws : (oneD nm X sa i).ws ++ [⟨0, i, x⟩] = wrs X sa (i + 1) := by rw [wrs_succ X hsa, hgd]; rfl
    rw [hws]
    unfold oneD
    simp only [if_neg h0, if_neg (by omega : ¬ i + 1 = 0)]
/-- It is synced. -/
theorem oneD_sync {nm : ByteArray} {X : List ByteArray} {sa i : Nat} (hn : nameOk nm = true) (h0 : 0 < i) : syncD (oneD nm X sa i) nm = (0, oneD nm X i i) := by
  have hfs : (oneD nm X sa i).fs = [(nm, ⟨0, X.take i, X.take sa, decide (0 < sa)⟩)] := if_neg (by omega)
  have hfind : (oneD nm X sa i).find nm = some ⟨0, X.take i, X.take sa, decide (0 < sa)⟩ := by unfold Ds.find; rw [hfs]; simp
  have hmay : mayD (oneD nm X sa i) nm = 0 := by unfold mayD; rw [hn]; rfl
  have hfd : fileD (oneD nm X sa i) nm = (0, some ⟨0, X.take i, X.take sa, decide (0 < sa)⟩) := by unfold fileD; rw [if_neg (by rw [hmay]; decide), hfind]
  have hgo : goesD (oneD nm X sa i) = (false, oneD nm X sa i) := rfl
  unfold syncD
  rw [hfd]
  simp only [hgo, Bool.false_eq_true, if_false, hfs]
  have hu : updF [(nm, (⟨0, X.take i, X.take sa, decide (0 < sa)⟩ : Fl))] 0 syncF = [(nm, ⟨0, X.take i, X.take i, true⟩)] := by unfold updF syncF; simp
  rw [hu]
  unfold forgetD
  have hw : (wrs X sa i).filter (fun y => !(decide (y.id = 0) && decide ((0 : Int) ≤ (y.pos : Int)))) = [] := by
    rw [List.filter_eq_nil_iff]
    intro y hy
    unfold wrs at hy
    obtain ⟨k, _, rfl⟩ := List.mem_map.1 hy
    simp
  have hws : (oneD nm X sa i).ws = wrs X sa i := rfl
  simp only [hws, hw]
  unfold oneD
  simp only [wrs_none, if_neg (by omega : ¬ i = 0), decide_eq_true h0]
end Go.Proofs.Ytlgfkjaiifkacaa
