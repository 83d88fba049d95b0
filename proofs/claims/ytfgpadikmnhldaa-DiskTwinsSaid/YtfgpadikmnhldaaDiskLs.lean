/-
  A disk's List: the names that begin so, rising. Condition: a text that memory holds.
-/
import Derived.Test.YtfgpadikmnhldaaDiskVA
import Derived.Test.YtfgpadikmnhldaaDelS
import Derived.Test.YtfgpadikmnhldaaLaySorted
namespace Go.Proofs.Ytfgpadikmnhldaa
open Go Go.RowKit Go.Sort
attribute [local go_sem] cell_set_if

/-- The names of a disk's files, rising. -/
def namesS (d : Ds) : List ByteArray := ((d.fs.map fun q => bts q.1).mergeSort leB).map bs
def listD (d : Ds) (p : ByteArray) : List ByteArray := if d.off then [] else (namesS d).filter (hasP p)
theorem namesS_mem {d : Ds} {x : ByteArray} : x ∈ namesS d ↔ ∃ q ∈ d.fs, q.1 = x := by
  unfold namesS
  rw [List.mem_map]
  constructor
  · rintro ⟨l, hl, rfl⟩
    rw [List.mem_mergeSort] at hl
    obtain ⟨q, hq, rfl⟩ := List.mem_map.1 hl
    exact ⟨q, hq, (bs_bts _).symm⟩
  · rintro ⟨q, hq, rfl⟩
    exact ⟨bts q.1, by rw [List.mem_mergeSort]; exact List.mem_map.2 ⟨q, hq, rfl⟩, bs_bts _⟩
theorem namesS_len (d : Ds) : (namesS d).length = d.fs.length := by unfold namesS; simp [List.length_mergeSort]
theorem keysD {w : World} {bm : Nat} {D : DataW Unit} {d : Ds} {m : DM} (h : MapAt w bm D (namesD d m)) : (d.fs.map fun q => bts q.1).Perm (strKeys D) := by
  refine Collected.perm (left := fun _ => false) ⟨?_, fun x => ?_⟩ h.own strKeyed Try.underlying9 fun _ => rfl
  · have := h.nd
    unfold namesD at this
    rw [List.map_map] at this
    have e : (d.fs.map fun q => bts q.1) = (d.fs.map ((fun x : ByteArray × Nat => x.1) ∘ fun p => (p.1, m.ρ p.2.id))).map bts := by rw [List.map_map]; rfl
    rw [e]
    exact List.Pairwise.map _ (fun a b hab e => hab (bts_inj e)) this
  · have h1 := h.has (bs x)
    have e : kS (bs x) = .string x := rfl
    rw [e] at h1
    rw [h1]
    unfold namesD
    constructor
    · intro hx
      obtain ⟨q, hq, rfl⟩ := List.mem_map.1 hx
      exact ⟨⟨m.ρ q.2.id, List.mem_map.2 ⟨q, hq, by rw [bs_bts]⟩⟩, rfl⟩
    · rintro ⟨⟨b, hb⟩, _⟩
      obtain ⟨q, hq, e⟩ := List.mem_map.1 hb
      injection e with e1 _
      exact List.mem_map.2 ⟨q, hq, by rw [e1]; rfl⟩
theorem delS_nil (gk : Nat) (p : ByteArray) (w : World) (hk : w.cell? ⟨gk, 0, none⟩ = some (.string p)) (hp : p.size ≤ 281474976710656) :
    Calls Try.prog 27 #[.slice none 0 0, .func (.func 30) #[] #[.pointer (some ⟨gk, 0, none⟩)]] w fun e w' => e = .returned (.slice none 0 0) ∧ w' = w := by
  have hI := ixfS_any none 0 0 gk [] p w (Rd.nil _ _) rfl hk (by omega) (fun x hx => by simp at hx) hp
  rw [ixV_none (fun x hx => by simp at hx)] at hI
  have HI := Lib.hid hI
  clear hI hk hp
  go_enter Try.func27, Try.ntmps27
  go_wp2_with (go_at_call 40; refine HI.out.mono ?_; rintro e w2 ⟨rfl, hw2⟩; obtain rfl := hw2.symm)
  go_ret
  exact ⟨rfl, rfl⟩
theorem strs_enc (l : List (List UInt8)) : strs (l.map bs) = l.map encStr := by unfold strs; rw [List.map_map]; rfl
theorem list_del {w w3 : World} {d : Ds} {p : ByteArray} {v : Value} {ss : List (List UInt8)} (hk : (w.alloc (.cells #[.string p] 9)).cell? ⟨w.heap.size, 0, none⟩ = some (.string p)) (ba : Below w.heap.size w (w.alloc (.cells #[.string p] 9))) (hp : p.size ≤ 281474976710656)
    (hns : ∀ x ∈ namesS d, x.size ≤ 281474976710656) (hnl : (namesS d).length = d.fs.length) (hfew : d.fs.length ≤ 60) (hS : ss.Perm (d.fs.map fun q => bts q.1)) {W : World} (hrow : w3.ownsRow W.heap.size 9 1 v ss.length ((ss.mergeSort (fun x y => decide (x ≤ y))).map encStr))
    (hb : Below W.heap.size W w3) {bm : Option Nat} (hW : W = (w.alloc (.cells #[.string p] 9)).alloc (.cells #[.map bm] 46)) :
    Calls Try.prog 27 #[v, .func (.func 30) #[] #[.pointer (some ⟨w.heap.size, 0, none⟩)]] w3 fun e w' => ∃ v', e = .returned v' ∧ w'.ownsRow w.heap.size 9 1 v' ((namesS d).filter (hasP p)).length (strs ((namesS d).filter (hasP p))) ∧ Below w.heap.size w w' := by
  have hWs : W.heap.size = w.heap.size + 2 := by rw [hW]; simp
  have hWb : Below w.heap.size w W := by rw [hW]; exact ba.alloc ba.size _
  have hB3 : Below w.heap.size w w3 := hWb.trans (hb.mono (by omega))
  have hk3 : w3.cell? ⟨w.heap.size, 0, none⟩ = some (.string p) := by
    have h1 : W.cell? ⟨w.heap.size, 0, none⟩ = some (.string p) := by
      rw [hW]
      exact (((Below.refl _ (w.alloc (.cells #[.string p] 9))).alloc (Nat.le_refl _) _).cell (p := ⟨w.heap.size, 0, none⟩) (by simp)).trans hk
    exact (hb.cell (p := ⟨w.heap.size, 0, none⟩) (by show w.heap.size < W.heap.size; omega)).trans h1
  have hsn : ss.mergeSort (fun x y => decide (x ≤ y)) = (d.fs.map fun q => bts q.1).mergeSort leB := mergeSort_of_perm hS
  have hlen : ss.length = (namesS d).length := by rw [hS.length_eq, hnl, List.length_map]
  rw [hsn, hlen, ← strs_enc] at hrow
  have hrow' : w3.ownsRow W.heap.size 9 1 v (namesS d).length (strs (namesS d)) := hrow
  have hfl : ∀ l : List ByteArray, l.filter (fun x => !(!hasP p x)) = l.filter (hasP p) := fun l => by simp
  rcases hrow'.2 with ⟨hv, h0⟩ | ⟨g, cap, cur, hv, hbg, _⟩
  · have hnil : namesS d = [] := List.eq_nil_of_length_eq_zero h0
    subst hv
    refine (delS_nil w.heap.size p w3 hk3 hp).mono fun e w' ⟨he, hw⟩ => ?_
    subst hw
    rw [hnil]
    exact ⟨_, he, World.ownsRow_nil _ _ _ _, hB3⟩
  · rw [hv] at hrow' ⊢
    refine (delS_any W.heap.size g (namesS d).length cap w.heap.size (namesS d) p w3 hrow' rfl hk3 (by omega) (by omega) hns hp).mono fun e w' ⟨k, h1, h2, h3, h4, h5⟩ => ?_
    rw [hfl] at h2 h4
    refine ⟨_, h3, ?_, below_of (h5.below (B := W.heap.size) (by have := hb.size; exact this) (fun i hi => by have hi : i = g := hi; omega)) hB3 (by omega)⟩
    rw [h2]
    exact own_base h4 (by omega)
set_option maxRecDepth 100000 in
set_option maxHeartbeats 2000000 in
theorem dlist_any {base : Nat} {d : Ds} {m : DM} (p : ByteArray) (w : World) (h : DiskAt w base d m) (hp : p.size ≤ 281474976710656) :
    Calls Try.prog 9 #[.pointer (some ⟨m.g, 0, none⟩), .string p] w fun e w' => ∃ v, e = .returned v ∧ w'.ownsRow w.heap.size 9 1 v (listD d p).length (strs (listD d p)) ∧ Below w.heap.size w w' := by
  have ba : Below w.heap.size w (w.alloc (.cells #[.string p] 9)) := (Below.refl _ _).alloc (Nat.le_refl _) _
  have h1 := h.below ba
  have hsz : (w.alloc (.cells #[.string p] 9)).heap.size = w.heap.size + 1 := by simp
  have c0 : (w.alloc (.cells #[.string p] 9)).cell? ⟨m.g, 0, none⟩ = some (.map (some m.bm)) := h1.blk.cell 0
  have HON := Lib.hid (don_any _ h1)
  cases ho : d.off
  · rw [ho] at HON
    have hlen := h1.map.size
    have hfs : (namesD d m).length = d.fs.length := by unfold namesD; rw [List.length_map]
    have hfew := h.ok.few
    have hso := sorted_any m.bm _ m.D ptrR _ h1.map.own (by unfold maxLen; omega) (by omega)
    rw [hsz] at hso
    have HSO := Lib.hid hso
    clear hso
    have HKP := Lib.hid (keysD h1.map)
    have HL : Hid (listD d p = (namesS d).filter (hasP p)) := by unfold Hid listD; rw [ho]; rfl
    have HNL := Lib.hid (namesS_len d)
    have HNS : Hid (∀ x ∈ namesS d, x.size ≤ 281474976710656) := fun x hx => by
      obtain ⟨q, hq, rfl⟩ := namesS_mem.1 hx
      have := (h.ok.short q hq).2; omega
    have HFEW := Lib.hid hfew
    have HK : Hid ((w.alloc (.cells #[.string p] 9)).cell? ⟨w.heap.size, 0, none⟩ = some (.string p)) := by unfold Hid; simp [World.cell?_alloc_new]
    have HBA := Lib.hid ba
    have HP := Lib.hid hp
    have HKEYS := Lib.hid (keys_any (some m.bm) (w.alloc (.cells #[.string p] 9)))
    have HSZ := Lib.hid hsz
    clear h h1 ho hlen hfs hfew ba hp hsz
    go_enter Try.func9, Try.ntmps9
    go_wp2_with (first
      | (go_at_call 13; (refine HON.out.mono ?_); rintro e w1 ⟨rfl, hw⟩; obtain rfl := hw.symm)
      | (go_at_call 29; (refine HKEYS.out.mono ?_); rintro e w2 ⟨rfl, hw⟩; obtain rfl := hw)
      | (go_at_call 28; (with_reducible refine HSO.out.mono ?_); rintro e w3 ⟨v, ss, rfl, hS, hrow, hnil, hb⟩; have HDEL := Lib.hid (list_del HK.out HBA.out HP.out HNS.out HNL.out HFEW.out (hS.trans HKP.out.symm) hrow hb rfl); clear hS hrow hnil hb)
      | (go_at_call 27; (with_reducible refine HDEL.out.mono ?_); rintro e w4 ⟨v4, rfl, ho4, b4⟩))
    go_ret
    rw [HL.out]
    exact ⟨v4, rfl, ho4, b4⟩
  · rw [ho] at HON
    have HL : Hid (listD d p = []) := by unfold Hid listD; rw [ho]; rfl
    have HBA := Lib.hid ba
    clear h h1 ho ba hp hsz
    go_enter Try.func9, Try.ntmps9
    go_wp2_with (go_at_call 13; (refine HON.out.mono ?_); rintro e w1 ⟨rfl, hw⟩; obtain rfl := hw.symm)
    go_ret
    rw [HL.out]
    exact ⟨_, rfl, World.ownsRow_nil _ _ _ _, HBA.out⟩
end Go.Proofs.Ytfgpadikmnhldaa
