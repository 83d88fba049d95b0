/-
  DiskArmed in plain words: a disk with one file whose power goes at a call. No condition of its own.
-/
import Derived.Test.YtlgfkjaiifkacaaDiskLastsS
namespace Go.Proofs.Ytlgfkjaiifkacaa
open Go Go.RowKit

/-- A disk that is armed. -/
def armed (d : Ds) (l : Int) (keep : List Int) : Ds := { d with armed := true, left := l, keep := keep }
theorem armed_ok {d : Ds} {l : Int} {keep : List Int} (hn : 0 ≤ l) : armD d l keep = armed d l keep := by
  unfold armD armed; rw [decide_eq_true hn]
theorem fine_armed {d : Ds} (h : d.fine) {l : Int} {keep : List Int} (h0 : 0 ≤ l) (h1 : l ≤ 1000) (hk : keep.length ≤ 1000) : (armed d l keep).fine :=
  ⟨h.live, fun _ => ⟨h0, by show l ≤ _; omega⟩, h.ws, by show keep.length ≤ _; omega⟩
/-- What a crash leaves of an armed disk. -/
theorem fall_armed {d : Ds} (ho : d.off = false) (ha : d.armed = false) (hk : d.keep = []) (l : Int) (keep : List Int) : fallD (armed d l keep) = (14, { (crashD d keep).2 with left := l }) := by
  have h1 : (armed d l keep).off = false := ho
  unfold fallD
  rw [crashD_on h1, crashD_on ho]
  rfl
/-- The next sector is written, the power stays. -/
theorem armed_write {nm : ByteArray} {X : List ByteArray} {sa i : Nat} {x : ByteArray} {l : Int} {keep : List Int} (hn : nameOk nm = true) (hx : X[i]? = some x) (h6 : x.size = 256) (hsa : sa ≤ i) (hi : i ≤ 4000) :
    writeD (armed (oneD nm X sa i) l keep) nm i x = if l - 1 < 0 then fallD (armed (oneD nm X sa (i + 1)) (l - 1) keep) else (0, armed (oneD nm X sa (i + 1)) (l - 1) keep) := by
  have hil := (List.getElem?_eq_some_iff.1 hx).1
  have hgd : X.getD i ByteArray.empty = x := by rw [List.getD_eq_getElem?_getD, hx]; rfl
  have htl : (X.take i).length = i := by rw [List.length_take]; omega
  have htk : X.take (i + 1) = X.take i ++ [x] := by rw [List.take_add_one, hx]; rfl
  have hmay : mayD (armed (oneD nm X sa i) l keep) nm = 0 := by unfold mayD; rw [hn]; rfl
  have hg1 : goesD (armed (oneD nm X sa i) l keep) = (decide (l - 1 < 0), armed (oneD nm X sa i) (l - 1) keep) := rfl
  unfold writeD
  rw [hmay, if_neg (by decide), if_neg (by omega), hg1]
  by_cases h0 : i = 0
  · subst h0
    obtain rfl : sa = 0 := by omega
    have hso : sizeOf_ (armed (oneD nm X 0 0) l keep) nm = 0 := rfl
    rw [hso, if_neg (by omega)]
    have hfit : fitsD (armed (oneD nm X 0 0) l keep) nm ((0 : Nat) : Int) = true := rfl
    rw [hfit, if_neg (by decide)]
    have hw := wrs_succ X (sa := 0) (i := 0) (Nat.le_refl _)
    rw [wrs_none, hgd] at hw
    have e : oneD nm X 0 (0 + 1) = ⟨[(nm, ⟨0, [x], [], false⟩)], [⟨0, 0, x⟩], false, 0, false, 0, [], 1⟩ := by
      unfold oneD; rw [hw, htk]; rfl
    rw [e]
    by_cases hl : l - 1 < 0
    · rw [if_pos hl, decide_eq_true hl]; rfl
    · rw [if_neg hl, decide_eq_false hl]; rfl
  · have hfs : (oneD nm X sa i).fs = [(nm, ⟨0, X.take i, X.take sa, decide (0 < sa)⟩)] := if_neg h0
    have hfind : ∀ l', (armed (oneD nm X sa i) l' keep).find nm = some ⟨0, X.take i, X.take sa, decide (0 < sa)⟩ := fun l' => by
      show ((oneD nm X sa i).fs.find? _).map _ = _
      rw [hfs]; simp
    have hso : sizeOf_ (armed (oneD nm X sa i) l keep) nm = i := by unfold sizeOf_; rw [hfind]; exact htl
    rw [hso, if_neg (by omega)]
    have hfit : fitsD (armed (oneD nm X sa i) l keep) nm (i : Int) = true := by
      unfold fitsD; rw [hfind]
      have : (armed (oneD nm X sa i) l keep).room = 0 := rfl
      rw [this]; simp
    rw [hfit, if_neg (by decide), Int.toNat_natCast]
    have hwf : withF (armed (oneD nm X sa i) (l - 1) keep) nm = (armed (oneD nm X sa i) (l - 1) keep, 0) := by unfold withF; rw [hfind]
    have hput : putSec (X.take i) i x = X.take (i + 1) := by unfold putSec; rw [htl, if_pos rfl, htk]
    have hu : updF [(nm, (⟨0, X.take i, X.take sa, decide (0 < sa)⟩ : Fl))] 0 (putF i x) = [(nm, ⟨0, X.take (i + 1), X.take sa, decide (0 < sa)⟩)] := by
      unfold updF putF; simp [hput]
    have hws : (oneD nm X sa i).ws ++ [⟨0, i, x⟩] = wrs X sa (i + 1) := by rw [wrs_succ X hsa, hgd]; rfl
    have hd2 : ({ armed (oneD nm X sa i) (l - 1) keep with fs := updF (armed (oneD nm X sa i) (l - 1) keep).fs 0 (putF i x), ws := (armed (oneD nm X sa i) (l - 1) keep).ws ++ [⟨0, i, x⟩] } : Ds) = armed (oneD nm X sa (i + 1)) (l - 1) keep := by
      show (⟨updF (oneD nm X sa i).fs 0 (putF i x), (oneD nm X sa i).ws ++ [⟨0, i, x⟩], _, _, _, _, _, _⟩ : Ds) = _
      rw [hfs, hu, hws]
      unfold armed oneD
      simp only [if_neg h0, if_neg (by omega : ¬ i + 1 = 0)]
    simp only [hwf, hd2]
    by_cases hl : l - 1 < 0
    · rw [if_pos hl, decide_eq_true hl]; rfl
    · rw [if_neg hl, decide_eq_false hl]; rfl
/-- It is synced, or the power goes. -/
theorem armed_sync {nm : ByteArray} {X : List ByteArray} {sa i : Nat} {l : Int} {keep : List Int} (hn : nameOk nm = true) (h0 : 0 < i) :
    syncD (armed (oneD nm X sa i) l keep) nm = if l - 1 < 0 then fallD (armed (oneD nm X sa i) (l - 1) keep) else (0, armed (oneD nm X i i) (l - 1) keep) := by
  have hfs : (oneD nm X sa i).fs = [(nm, ⟨0, X.take i, X.take sa, decide (0 < sa)⟩)] := if_neg (by omega)
  have hfind : (armed (oneD nm X sa i) l keep).find nm = some ⟨0, X.take i, X.take sa, decide (0 < sa)⟩ := by
    show ((oneD nm X sa i).fs.find? _).map _ = _
    rw [hfs]; simp
  have hmay : mayD (armed (oneD nm X sa i) l keep) nm = 0 := by unfold mayD; rw [hn]; rfl
  have hfd : fileD (armed (oneD nm X sa i) l keep) nm = (0, some ⟨0, X.take i, X.take sa, decide (0 < sa)⟩) := by unfold fileD; rw [if_neg (by rw [hmay]; decide), hfind]
  have hgo : goesD (armed (oneD nm X sa i) l keep) = (decide (l - 1 < 0), armed (oneD nm X sa i) (l - 1) keep) := rfl
  have hu : updF [(nm, (⟨0, X.take i, X.take sa, decide (0 < sa)⟩ : Fl))] 0 syncF = [(nm, ⟨0, X.take i, X.take i, true⟩)] := by unfold updF syncF; simp
  have hw : (wrs X sa i).filter (fun y => !(decide (y.id = 0) && decide ((0 : Int) ≤ (y.pos : Int)))) = [] := by
    rw [List.filter_eq_nil_iff]
    intro y hy
    unfold wrs at hy
    obtain ⟨k, _, rfl⟩ := List.mem_map.1 hy
    simp
  have hd2 : forgetD { armed (oneD nm X sa i) (l - 1) keep with fs := updF (armed (oneD nm X sa i) (l - 1) keep).fs 0 syncF } 0 0 = armed (oneD nm X i i) (l - 1) keep := by
    show (⟨updF (oneD nm X sa i).fs 0 syncF, (wrs X sa i).filter _, _, _, _, _, _, _⟩ : Ds) = _
    rw [hfs, hu, hw]
    unfold armed oneD
    simp only [wrs_none, if_neg (by omega : ¬ i = 0), decide_eq_true h0]
  unfold syncD
  rw [hfd]
  simp only [hgo, hd2]
  by_cases hl : l - 1 < 0
  · rw [if_pos hl, decide_eq_true hl]; rfl
  · rw [if_neg hl, decide_eq_false hl]; rfl
/-- A disk without power tells so. -/
theorem off_write {d : Ds} (h : d.off = true) (s : ByteArray) (pos : Int) (x : ByteArray) : writeD d s pos x = (14, d) := by
  have : mayD d s = 14 := by unfold mayD; rw [h]; rfl
  unfold writeD; rw [this, if_pos (by decide)]
theorem off_sync {d : Ds} (h : d.off = true) (s : ByteArray) : syncD d s = (14, d) := by
  have h1 : mayD d s = 14 := by unfold mayD; rw [h]; rfl
  unfold syncD fileD; rw [h1]; rfl
/-- What Size tells of a file behind the crash: as much as was safe. -/
structure Fell (nm : ByteArray) (sa : Nat) (d : Ds) : Prop where
  off : d.off = true
  fine : d.fine
  tells : ∃ sz e, sizeD (restoreD d) nm = (sz, e) ∧ ((e = 0 ∧ (sa : Int) ≤ sz) ∨ (e = 8 ∧ sa = 0))
theorem fell_of {nm : ByteArray} (hn : nameOk nm = true) {X : List ByteArray} {sa i : Nat} {l : Int} {keep : List Int} (hi : i ≤ X.length) (hs : sa ≤ i) : ∃ d, fallD (armed (oneD nm X sa i) l keep) = (14, d) ∧ Fell nm sa d := by
  refine ⟨_, fall_armed (d := oneD nm X sa i) rfl rfl rfl l keep, ?_⟩
  obtain ⟨d0, hc, hr⟩ := oneD_restore (nm := nm) (X := X) hs keep
  have hsz : ∀ d : Ds, sizeD (restoreD { d with left := l }) nm = sizeD (restoreD d) nm := fun d => rfl
  have hoff : d0.off = true := by
    have := crashD_on (d := oneD nm X sa i) (keep := keep) rfl
    rw [this] at hc
    injection hc with _ hc2
    rw [← hc2]
  have hws : d0.ws = [] ∧ d0.armed = false ∧ d0.keep = [] := by
    have := crashD_on (d := oneD nm X sa i) (keep := keep) rfl
    rw [this] at hc
    injection hc with _ hc2
    rw [← hc2]
    exact ⟨rfl, rfl, rfl⟩
  rw [hc]
  refine ⟨hoff, ⟨fun y hy => ?_, fun h => ?_, ?_, ?_⟩, ?_⟩
  · have hy' : y ∈ d0.ws := hy
    rw [hws.1] at hy'; cases hy'
  · have h' : d0.armed = true := h
    rw [hws.2.1] at h'; cases h'
  · show d0.ws.length ≤ _; rw [hws.1]; simp
  · show d0.keep.length ≤ _; rw [hws.2.2]; simp
  · rw [hsz, hr]
    by_cases h : i = 0 ∨ anyN sa keep (i - sa) = false
    · refine ⟨_, _, aftD_nosize hn h, .inr ⟨rfl, ?_⟩⟩
      rcases h with h | h
      · omega
      · rcases Nat.eq_zero_or_pos sa with h0 | h0
        · exact h0
        · rw [anyN_sa h0] at h; cases h
    · have h0 : i ≠ 0 := fun e => h (.inl e)
      have ha : anyN sa keep (i - sa) = true := by
        cases hh : anyN sa keep (i - sa) with
        | true => rfl
        | false => exact absurd (.inr hh) h
      refine ⟨_, _, aftD_size hn h0 ha, .inl ⟨rfl, ?_⟩⟩
      have := safeN_ge (X := X) (sa := sa) (by omega) keep (i - sa); omega
end Go.Proofs.Ytlgfkjaiifkacaa
