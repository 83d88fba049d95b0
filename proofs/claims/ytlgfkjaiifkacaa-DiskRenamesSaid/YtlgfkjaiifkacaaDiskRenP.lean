/-
  DiskRenames in plain words: a file that is written beside another one, synced, renamed over it. No condition of its own.
-/
import Derived.Test.YtlgfkjaiifkacaaDiskArmedP
namespace Go.Proofs.Ytlgfkjaiifkacaa
open Go Go.RowKit

def nmA : ByteArray := ⟨#[97]⟩
def nmB : ByteArray := ⟨#[98]⟩
/-- The old file. -/
def oldF (O : List ByteArray) : List (ByteArray × Fl) := if O.length = 0 then [] else [(nmA, ⟨0, O, O, true⟩)]
def idB (O : List ByteArray) : Nat := if O.length = 0 then 0 else 1
def wrsB (O F : List ByteArray) (sa i : Nat) : List Wr := (List.range' sa (i - sa)).map fun k => ⟨idB O, k, F.getD k ByteArray.empty⟩
/-- The old file, and i sectors of the new one, of which the first sa are safe. -/
def twoD (O F : List ByteArray) (sa i : Nat) (l : Int) (keep : List Int) : Ds :=
  ⟨oldF O ++ (if i = 0 then [] else [(nmB, ⟨idB O, F.take i, F.take sa, decide (0 < sa)⟩)]), wrsB O F sa i, false, 0, true, l, keep, if i = 0 then idB O else idB O + 1⟩
theorem wrsB_succ (O F : List ByteArray) {sa i : Nat} (h : sa ≤ i) : wrsB O F sa (i + 1) = wrsB O F sa i ++ [⟨idB O, i, F.getD i ByteArray.empty⟩] := by
  unfold wrsB
  rw [show i + 1 - sa = (i - sa) + 1 by omega, List.range'_concat, List.map_append]
  rw [show sa + 1 * (i - sa) = i by omega]; rfl
theorem wrsB_none (O F : List ByteArray) (i : Nat) : wrsB O F i i = [] := by unfold wrsB; simp
theorem wrsB_len (O F : List ByteArray) (sa i : Nat) : (wrsB O F sa i).length = i - sa := by unfold wrsB; simp
theorem two_start {O : List ByteArray} (F : List ByteArray) {l : Int} (hl : 0 ≤ l) (keep : List Int) : armD (oneD nmA O O.length O.length) l keep = twoD O F 0 0 l keep := by
  rw [armed_ok hl]
  unfold armed oneD twoD oldF idB
  by_cases h : O.length = 0
  · simp only [if_pos h, wrs_none, wrsB_none, if_pos, List.append_nil]
  · simp only [if_neg h, wrs_none, wrsB_none, if_pos, List.append_nil, List.take_length, decide_eq_true (by omega : 0 < O.length)]
theorem two_finds (O F : List ByteArray) (sa i : Nat) (l : Int) (keep : List Int) : (twoD O F sa i l keep).find nmB = if i = 0 then none else some ⟨idB O, F.take i, F.take sa, decide (0 < sa)⟩ := by
  unfold twoD Ds.find oldF
  by_cases h : O.length = 0 <;> by_cases hi : i = 0 <;> simp [h, hi, nmA, nmB]
theorem two_old (O F : List ByteArray) (sa i : Nat) (l : Int) (keep : List Int) : (twoD O F sa i l keep).find nmA = if O.length = 0 then none else some ⟨0, O, O, true⟩ := by
  unfold twoD Ds.find oldF
  by_cases h : O.length = 0 <;> by_cases hi : i = 0 <;> simp [h, hi, nmA, nmB]
theorem two_few (O F : List ByteArray) (sa i : Nat) (l : Int) (keep : List Int) : (twoD O F sa i l keep).fs.length ≤ 2 := by
  unfold twoD oldF
  by_cases h : O.length = 0 <;> by_cases hi : i = 0 <;> simp [h, hi]
theorem two_goes (O F : List ByteArray) (sa i : Nat) (l : Int) (keep : List Int) : goesD (twoD O F sa i l keep) = (decide (l - 1 < 0), twoD O F sa i (l - 1) keep) := rfl
theorem two_upd (O F : List ByteArray) {i sa : Nat} (h0 : i ≠ 0) (l : Int) (keep : List Int) (g : Fl → Fl) : updF (twoD O F sa i l keep).fs (idB O) g = oldF O ++ [(nmB, g ⟨idB O, F.take i, F.take sa, decide (0 < sa)⟩)] := by
  unfold twoD oldF idB updF
  by_cases h : O.length = 0 <;> simp [h, h0]
/-- The next sector is written, or the power goes behind it. -/
theorem two_write {O F : List ByteArray} {sa i : Nat} {x : ByteArray} {l : Int} {keep : List Int} (hx : F[i]? = some x) (h6 : x.size = 256) (hsa : sa ≤ i) (hi : i ≤ 4000) :
    writeD (twoD O F sa i l keep) nmB i x = if l - 1 < 0 then fallD (twoD O F sa (i + 1) (l - 1) keep) else (0, twoD O F sa (i + 1) (l - 1) keep) := by
  have hil := (List.getElem?_eq_some_iff.1 hx).1
  have hgd : F.getD i ByteArray.empty = x := by rw [List.getD_eq_getElem?_getD, hx]; rfl
  have htl : (F.take i).length = i := by rw [List.length_take]; omega
  have htk : F.take (i + 1) = F.take i ++ [x] := by rw [List.take_add_one, hx]; rfl
  have hmay : mayD (twoD O F sa i l keep) nmB = 0 := rfl
  have hso : sizeOf_ (twoD O F sa i l keep) nmB = i := by
    unfold sizeOf_; rw [two_finds]
    by_cases h0 : i = 0
    · rw [if_pos h0]; simp [h0]
    · rw [if_neg h0]; exact htl
  have hfit : fitsD (twoD O F sa i l keep) nmB (i : Int) = true := by
    unfold fitsD
    have h1 : (twoD O F sa i l keep).room = 0 := rfl
    have h2 := two_few O F sa i l keep
    rw [h1, decide_eq_false (by omega : ¬ 60 ≤ (twoD O F sa i l keep).fs.length)]; simp
  unfold writeD
  rw [hmay, if_neg (by decide), if_neg (by omega), two_goes, hso, if_neg (by omega), hfit, if_neg (by decide), Int.toNat_natCast]
  have hd2 : ({ (withF (twoD O F sa i (l - 1) keep) nmB).1 with fs := updF (withF (twoD O F sa i (l - 1) keep) nmB).1.fs (withF (twoD O F sa i (l - 1) keep) nmB).2 (putF i x), ws := (withF (twoD O F sa i (l - 1) keep) nmB).1.ws ++ [⟨(withF (twoD O F sa i (l - 1) keep) nmB).2, i, x⟩] } : Ds) = twoD O F sa (i + 1) (l - 1) keep := by
    by_cases h0 : i = 0
    · subst h0
      obtain rfl : sa = 0 := by omega
      have hwf : withF (twoD O F 0 0 (l - 1) keep) nmB = ({ twoD O F 0 0 (l - 1) keep with fs := (twoD O F 0 0 (l - 1) keep).fs ++ [(nmB, ⟨idB O, [], [], false⟩)], next := idB O + 1 }, idB O) := by
        unfold withF; rw [two_finds, if_pos rfl]; rfl
      have hu : updF ((twoD O F 0 0 (l - 1) keep).fs ++ [(nmB, ⟨idB O, [], [], false⟩)]) (idB O) (putF 0 x) = oldF O ++ [(nmB, ⟨idB O, [x], [], false⟩)] := by
        unfold twoD oldF idB updF putF putSec
        by_cases h : O.length = 0 <;> simp [h]
      rw [hwf]
      show (⟨updF ((twoD O F 0 0 (l - 1) keep).fs ++ [(nmB, ⟨idB O, [], [], false⟩)]) (idB O) (putF 0 x), wrsB O F 0 0 ++ [⟨idB O, 0, x⟩], _, _, _, _, _, _⟩ : Ds) = _
      have hw := wrsB_succ O F (sa := 0) (i := 0) (Nat.le_refl _)
      rw [hgd] at hw
      rw [hu, ← hw]
      unfold twoD
      rw [htk]; rfl
    · have hwf : withF (twoD O F sa i (l - 1) keep) nmB = (twoD O F sa i (l - 1) keep, idB O) := by unfold withF; rw [two_finds, if_neg h0]
      rw [hwf]
      have hw := wrsB_succ O F (sa := sa) (i := i) hsa
      rw [hgd] at hw
      show (⟨updF (twoD O F sa i (l - 1) keep).fs (idB O) (putF i x), wrsB O F sa i ++ [⟨idB O, i, x⟩], _, _, _, _, _, _⟩ : Ds) = _
      rw [two_upd O F h0, ← hw]
      have hput : putSec (F.take i) i x = F.take (i + 1) := by unfold putSec; rw [htl, if_pos rfl, htk]
      unfold putF
      simp only [hput]
      unfold twoD
      simp only [if_neg h0, if_neg (by omega : ¬ i + 1 = 0)]
  have key : ∀ D2 : Ds, D2 = twoD O F sa (i + 1) (l - 1) keep → (if decide (l - 1 < 0) = true then fallD D2 else (0, D2)) = if l - 1 < 0 then fallD (twoD O F sa (i + 1) (l - 1) keep) else (0, twoD O F sa (i + 1) (l - 1) keep) := by
    rintro _ rfl
    by_cases hl : l - 1 < 0
    · rw [if_pos hl, decide_eq_true hl]; rfl
    · rw [if_neg hl, decide_eq_false hl]; rfl
  exact key _ hd2
theorem two_file {O F : List ByteArray} {sa i : Nat} {l : Int} {keep : List Int} (h0 : i ≠ 0) : fileD (twoD O F sa i l keep) nmB = (0, some ⟨idB O, F.take i, F.take sa, decide (0 < sa)⟩) := by
  have hmay : mayD (twoD O F sa i l keep) nmB = 0 := rfl
  unfold fileD; rw [if_neg (by rw [hmay]; decide), two_finds, if_neg h0]
theorem two_sync {O F : List ByteArray} {sa i : Nat} {l : Int} {keep : List Int} (h0 : i ≠ 0) :
    syncD (twoD O F sa i l keep) nmB = if l - 1 < 0 then fallD (twoD O F sa i (l - 1) keep) else (0, twoD O F i i (l - 1) keep) := by
  have hw : (wrsB O F sa i).filter (fun y => !(decide (y.id = idB O) && decide ((0 : Int) ≤ (y.pos : Int)))) = [] := by
    rw [List.filter_eq_nil_iff]
    intro y hy
    unfold wrsB at hy
    obtain ⟨k, _, rfl⟩ := List.mem_map.1 hy
    simp
  have hd2 : forgetD { twoD O F sa i (l - 1) keep with fs := updF (twoD O F sa i (l - 1) keep).fs (idB O) syncF } (idB O) 0 = twoD O F i i (l - 1) keep := by
    show (⟨updF (twoD O F sa i (l - 1) keep).fs (idB O) syncF, (wrsB O F sa i).filter _, _, _, _, _, _, _⟩ : Ds) = _
    rw [two_upd O F h0, hw]
    unfold syncF twoD
    simp only [wrsB_none, if_neg h0, decide_eq_true (by omega : 0 < i)]
  unfold syncD
  rw [two_file h0]
  simp only [two_goes, hd2]
  by_cases hl : l - 1 < 0
  · rw [if_pos hl, decide_eq_true hl]; rfl
  · rw [if_neg hl, decide_eq_false hl]; rfl
/-- What is told of the file "a" with power again. -/
def TellsA (want : List ByteArray) (d : Ds) : Prop :=
  (want.length = 0 ∧ ∃ sz, sizeD d nmA = (sz, 8)) ∨ (0 < want.length ∧ sizeD d nmA = (((want.length : Nat) : Int), 0) ∧ ∀ (i : Nat) (x : ByteArray), want[i]? = some x → readD d nmA (i : Int) = (x, 0))
theorem tellsA_of {d : Ds} {want : List ByteArray} (ho : d.off = false) (h : (want.length = 0 ∧ d.find nmA = none) ∨ (0 < want.length ∧ ∃ f, d.find nmA = some f ∧ f.now = want)) : TellsA want d := by
  have hm : mayD d nmA = 0 := by unfold mayD; rw [ho]; rfl
  rcases h with ⟨h1, h2⟩ | ⟨h1, f, h2, rfl⟩
  · refine .inl ⟨h1, 0, ?_⟩
    unfold sizeD fileD
    rw [if_neg (by rw [hm]; decide), h2]
  · refine .inr ⟨h1, ?_, fun i x hx => ?_⟩
    · unfold sizeD fileD
      rw [if_neg (by rw [hm]; decide), h2]
    · have hl := (List.getElem?_eq_some_iff.1 hx).1
      unfold readD fileD
      rw [if_neg (by rw [hm]; decide), h2]
      simp only
      rw [if_neg (by omega), Int.toNat_natCast, List.getD_eq_getElem?_getD, hx]; rfl
/-- The power stays: the old file is told of. -/
theorem two_tells (O F : List ByteArray) (sa i : Nat) (l : Int) (keep : List Int) : TellsA O (restoreD (twoD O F sa i l keep)) := by
  refine tellsA_of rfl ?_
  have h : (restoreD (twoD O F sa i l keep)).find nmA = (twoD O F sa i l keep).find nmA := rfl
  rw [h, two_old]
  by_cases h0 : O.length = 0
  · exact .inl ⟨h0, if_pos h0⟩
  · exact .inr ⟨by omega, _, if_neg h0, rfl⟩
/-- The first n writes are done on the files: the old one stays. -/
theorem redoN_two (keep : List Int) (O F : List ByteArray) (sa i : Nat) (l : Int) (k : List Int) (n : Nat) : ∃ r, redoN keep (twoD O F sa i l k).fs (wrsB O F sa i) n = oldF O ++ r ∧ ∀ p ∈ r, p.1 = nmB ∧ p.2.id = idB O := by
  induction n with
  | zero =>
    refine ⟨_, rfl, fun p hp => ?_⟩
    split at hp
    · cases hp
    · rw [List.mem_singleton.1 hp]; exact ⟨rfl, rfl⟩
  | succ n ih =>
    obtain ⟨r, hr, hm⟩ := ih
    unfold redoN
    cases hx : (wrsB O F sa i)[n]? with
    | none => exact ⟨r, hr, hm⟩
    | some x =>
      simp only [hr]
      have hid : x.id = idB O := by
        have := List.mem_of_getElem? hx
        unfold wrsB at this
        obtain ⟨k, _, rfl⟩ := List.mem_map.1 this
        rfl
      unfold redo1
      split
      · refine ⟨updF r x.id (redoF x (keptD keep n)), ?_, fun p hp => ?_⟩
        · unfold updF
          rw [List.map_append]
          congr 1
          unfold oldF
          by_cases h : O.length = 0
          · rw [if_pos h]; rfl
          · rw [if_neg h]
            have : ¬ (0 : Nat) = x.id := by rw [hid]; unfold idB; rw [if_neg h]; omega
            simp [this]
        · obtain ⟨q, hq, ⟨_, rfl⟩ | ⟨_, rfl⟩⟩ := updF_mem hp
          · exact hm q hq
          · exact hm _ hq
      · exact ⟨r, rfl, hm⟩
theorem find_app_none {l r : List (ByteArray × Fl)} {s : ByteArray} (h : ∀ p ∈ r, p.1 ≠ s) : (l ++ r).find? (fun p => decide (p.1 = s)) = l.find? fun p => decide (p.1 = s) := by
  rw [List.find?_append]
  have : r.find? (fun p => decide (p.1 = s)) = none := List.find?_eq_none.2 fun p hp => by simp [h p hp]
  rw [this]; simp
/-- The power goes: behind it the old file is told of. -/
structure Gone (O : List ByteArray) (d : Ds) : Prop where
  off : d.off = true
  fine : d.fine
  tells : TellsA O (restoreD d)
theorem two_fall (O F : List ByteArray) (sa i : Nat) (l : Int) (keep : List Int) : ∃ d, fallD (twoD O F sa i l keep) = (14, d) ∧ Gone O d := by
  refine ⟨_, rfl, ?_⟩
  have hk : (twoD O F sa i l keep).keep = keep := rfl
  have hws : (twoD O F sa i l keep).ws = wrsB O F sa i := rfl
  rw [crashD_on (d := twoD O F sa i l keep) rfl, hk, hws]
  refine ⟨rfl, ⟨fun y hy => ?_, fun h => ?_, ?_, ?_⟩, ?_⟩
  · cases hy
  · cases h
  · show ([] : List Wr).length ≤ _; simp
  · show ([] : List Int).length ≤ _; simp
  · refine tellsA_of rfl ?_
    obtain ⟨r, hr, hm⟩ := redoN_two keep O F sa i l keep (wrsB O F sa i).length
    rw [hr]
    have hfind : (restoreD ({ twoD O F sa i l keep with fs := leftF (oldF O ++ r), ws := [], off := true, armed := false, keep := [] } : Ds)).find nmA = (if O.length = 0 then none else some ⟨0, O, O, true⟩) := by
      show ((leftF (oldF O ++ r)).find? fun p => decide (p.1 = nmA)).map (·.2) = _
      unfold leftF
      rw [List.filter_append, List.map_append, find_app_none (fun p hp => by
        obtain ⟨q, hq, rfl⟩ := List.mem_map.1 hp
        have := (hm q (List.mem_filter.1 hq).1).1
        show q.1 ≠ nmA
        rw [this]; decide)]
      unfold oldF
      by_cases h : O.length = 0
      · simp [h]
      · simp [h]
    rw [hfind]
    by_cases h0 : O.length = 0
    · exact .inl ⟨h0, if_pos h0⟩
    · exact .inr ⟨by omega, _, if_neg h0, rfl⟩
/-- Behind the rename. -/
def renmD (O F : List ByteArray) (m : Nat) (l : Int) (keep : List Int) : Ds := ⟨[(nmA, ⟨idB O, F.take m, F.take m, decide (0 < m)⟩)], [], false, 0, true, l, keep, idB O + 1⟩
theorem renmD_tells {O F : List ByteArray} {m : Nat} (hm : F.length = m) (h0 : m ≠ 0) (l : Int) (keep : List Int) : TellsA F (restoreD (renmD O F m l keep)) := by
  refine tellsA_of rfl (.inr ⟨by omega, ⟨idB O, F.take m, F.take m, decide (0 < m)⟩, ?_, ?_⟩)
  · unfold renmD restoreD Ds.find; simp
  · show F.take m = F; rw [← hm, List.take_length]
theorem renmD_fine (O F : List ByteArray) (m : Nat) {l : Int} {keep : List Int} (h0 : 0 ≤ l) (h1 : l ≤ 1000) (hk : keep.length ≤ 1000) : (renmD O F m l keep).fine :=
  ⟨fun y hy => (by cases hy), fun _ => ⟨h0, (by show l ≤ _; omega)⟩, (by show ([] : List Wr).length ≤ _; simp), (by show keep.length ≤ _; omega)⟩
/-- The rename is done, or the power goes. -/
theorem two_rename {O F : List ByteArray} {m : Nat} {l : Int} {keep : List Int} (h0 : m ≠ 0) :
    renameD (twoD O F m m l keep) nmB nmA = if l - 1 < 0 then fallD (twoD O F m m (l - 1) keep) else (0, renmD O F m (l - 1) keep) := by
  have h1 : (twoD O F m m l keep).off = false := rfl
  have h2 : nameOk nmB = true := rfl
  have h3 : nameOk nmA = true := rfl
  unfold renameD
  rw [h1, h2, h3, if_neg (by decide), if_neg (by decide), two_finds, if_neg h0]
  simp only [two_goes]
  by_cases hl : l - 1 < 0
  · simp only [hl, decide_true, if_true]
  · simp only [hl, decide_false, if_false, Bool.false_eq_true, if_neg (by decide : ¬ nmB = nmA), two_old]
    by_cases hO : O.length = 0
    · rw [if_pos hO]
      simp only
      unfold twoD renmD nameF oldF idB
      simp [hO, h0, wrsB_none]
    · rw [if_neg hO]
      simp only
      unfold dropD forgetD twoD renmD nameF oldF idB
      simp [hO, h0, wrsB_none]
theorem twoD_fine (O F : List ByteArray) {sa i : Nat} {l : Int} {keep : List Int} (hs : sa ≤ i) (hi : i ≤ 4000) (h0 : 0 ≤ l) (h1 : l ≤ 1000) (hk : keep.length ≤ 1000) : (twoD O F sa i l keep).fine := by
  refine ⟨fun y hy => ?_, fun _ => ⟨h0, by show l ≤ _; omega⟩, ?_, (by show keep.length ≤ _; omega)⟩
  · have hy' : y ∈ wrsB O F sa i := hy
    unfold wrsB at hy'
    obtain ⟨k, hk, rfl⟩ := List.mem_map.1 hy'
    have h0 : i ≠ 0 := by
      intro e; subst e
      simp at hk
    refine ⟨(nmB, ⟨idB O, F.take i, F.take sa, decide (0 < sa)⟩), ?_, rfl⟩
    show _ ∈ oldF O ++ (if i = 0 then [] else _)
    rw [if_neg h0]; simp
  · show (wrsB O F sa i).length ≤ 900000
    rw [wrsB_len]; omega
end Go.Proofs.Ytlgfkjaiifkacaa
