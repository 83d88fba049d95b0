/-
  The law's Plain and Same, of messages that tell the same. Conditions: rows of no more than a hundred thousand.
-/
import Derived.Test.YtgigkekajdgngaaGreatEntsL
import Derived.Test.YtgigkekajdgngaaGreatMtOne
namespace Go.Proofs.YtgigkekajdgngaaGreat
open Go Go.RowKit
attribute [local go_sem] cell_set_if

set_option maxRecDepth 100000 in
set_option maxHeartbeats 4000000 in
theorem plainM_any (m : Ms) (A : Option Addr) (n c : Nat) (w : World) :
    Calls Tryz.prog 10 #[m.v A n c] w fun e w' => e = .returned (m.v A n c) ∧ Below w.heap.size w w' := by
  unfold Ms.v msgV
  go_enter Tryz.func10, Tryz.ntmps10
  go_wp2
  refine bodyPost_ret (v := .agg #[.int .i64 m.kind, .int .i64 m.a, .int .i64 m.b, .int .i64 m.c, .int .i64 m.d, .int .i64 m.r, .bool m.ok, .string m.txt, .slice A n c]) (by simp only [results]; go_simp <;> rfl) rfl ⟨rfl, ?_⟩
  exact ((Below.refl _ _).alloc (Nat.le_refl _) _).alloc (by simp) _
set_option maxRecDepth 100000 in
set_option maxHeartbeats 8000000 in
theorem sameM_yes (m k : Ms) (A B : Option Addr) (n c d : Nat) (w : World) (hp : m.pl = k.pl) (ha : Rd w A (flatEn m.es)) (hb : Rd w B (flatEn k.es)) (hn : m.es.length = n) (hm : n ≤ 1000000) (h1 : ∀ x ∈ m.es, x.has w) (h2 : ∀ y ∈ k.es, y.has w) :
    Calls Tryz.prog 14 #[m.v A n c, k.v B n d] w fun e w' => e = .returned (.bool true) ∧ Below w.heap.size w w' := by
  obtain ⟨kind, a, b, c', d', r, ok, txt, xs⟩ := m
  obtain ⟨kind2, a2, b2, c2, d2, r2, ok2, txt2, ys⟩ := k
  have hes : xs.map plE = ys.map plE := congrArg Ms.es hp
  obtain rfl : kind = kind2 := congrArg Ms.kind hp
  obtain rfl : a = a2 := congrArg Ms.a hp
  obtain rfl : b = b2 := congrArg Ms.b hp
  obtain rfl : c' = c2 := congrArg Ms.c hp
  obtain rfl : d' = d2 := congrArg Ms.d hp
  obtain rfl : r = r2 := congrArg Ms.r hp
  obtain rfl : ok = ok2 := congrArg Ms.ok hp
  obtain rfl : txt = txt2 := congrArg Ms.txt hp
  simp only [] at ha hb hn h1 h2
  have hn2 : ys.length = n := by have := congrArg List.length hes; simp only [List.length_map] at this; omega
  have ba : Below w.heap.size w ((w.alloc (.cells #[.int .i64 kind, .int .i64 a, .int .i64 b, .int .i64 c', .int .i64 d', .int .i64 r, .bool ok, .string txt, .slice A n c] 24)).alloc (.cells #[.int .i64 kind, .int .i64 a, .int .i64 b, .int .i64 c', .int .i64 d', .int .i64 r, .bool ok, .string txt, .slice B n d] 45)) := ((Below.refl _ _).alloc (Nat.le_refl _) _).alloc (by simp) _
  have K1 := (Blk.new w 24 #[.int .i64 kind, .int .i64 a, .int .i64 b, .int .i64 c', .int .i64 d', .int .i64 r, .bool ok, .string txt, .slice A n c]).alloc (.cells #[.int .i64 kind, .int .i64 a, .int .i64 b, .int .i64 c', .int .i64 d', .int .i64 r, .bool ok, .string txt, .slice B n d] 45)
  have K2 : Blk ((w.alloc (.cells #[.int .i64 kind, .int .i64 a, .int .i64 b, .int .i64 c', .int .i64 d', .int .i64 r, .bool ok, .string txt, .slice A n c] 24)).alloc (.cells #[.int .i64 kind, .int .i64 a, .int .i64 b, .int .i64 c', .int .i64 d', .int .i64 r, .bool ok, .string txt, .slice B n d] 45)) (w.heap.size + 1) 45 #[.int .i64 kind, .int .i64 a, .int .i64 b, .int .i64 c', .int .i64 d', .int .i64 r, .bool ok, .string txt, .slice B n d] := by
    have := Blk.new (w.alloc (.cells #[.int .i64 kind, .int .i64 a, .int .i64 b, .int .i64 c', .int .i64 d', .int .i64 r, .bool ok, .string txt, .slice A n c] 24)) 45 #[.int .i64 kind, .int .i64 a, .int .i64 b, .int .i64 c', .int .i64 d', .int .i64 r, .bool ok, .string txt, .slice B n d]
    simpa using this
  have HA := Lib.hid (ha.below ba)
  have HB := Lib.hid (hb.below ba)
  have H1 := Lib.hid fun x hx => (h1 x hx).below ba
  have H2 := Lib.hid fun x hx => (h2 x hx).below ba
  have HN := Lib.hid hn
  have HM := Lib.hid hn2
  have HP := Lib.hid hes
  have hnn : (n : Int) ≤ 1000000 := by omega
  have q0 : (kind != kind) = false := by simp
  have q1 : (a != a) = false := by simp
  have q2 : (b != b) = false := by simp
  have q3 : (c' != c') = false := by simp
  have q4 : (d' != d') = false := by simp
  have q5 : (r != r) = false := by simp
  have q6 : (ok != ok) = false := by simp
  have q7 : (txt.toList != txt.toList) = false := by simp
  have q8 : ((n : Int) != (n : Int)) = false := by simp
  have q9 : (txt.toList == txt.toList) = true := by simp
  clear ha hb hn hn2 h1 h2 hes hp
  unfold Ms.v msgV
  simp only []
  go_enter Tryz.func14, Tryz.ntmps14
  go_upto_region 1 with fail
  have HBA := Lib.hid ba
  generalize (w.alloc (.cells #[.int .i64 kind, .int .i64 a, .int .i64 b, .int .i64 c', .int .i64 d', .int .i64 r, .bool ok, .string txt, .slice A n c] 24)).alloc (.cells #[.int .i64 kind, .int .i64 a, .int .i64 b, .int .i64 c', .int .i64 d', .int .i64 r, .bool ok, .string txt, .slice B n d] 45) = W at ba K1 K2 HA HB HBA H1 H2 ⊢
  have HK1 := Lib.hid K1
  have HK2 := Lib.hid K2
  have a0 := K1.cell 0
  have a1 := K1.cell 1
  have a2 := K1.cell 2
  have a3 := K1.cell 3
  have a4 := K1.cell 4
  have a5 := K1.cell 5
  have a6 := K1.cell 6
  have a7 := K1.cell 7
  have a8 := K1.cell 8
  have b0 := K2.cell 0
  have b1 := K2.cell 1
  have b2 := K2.cell 2
  have b3 := K2.cell 3
  have b4 := K2.cell 4
  have b5 := K2.cell 5
  have b6 := K2.cell 6
  have b7 := K2.cell 7
  have b8 := K2.cell 8
  clear K1 K2 ba
  go_wp2
  go_loopw [4, 5] (fun u4 u5 wr => ∃ k : Nat, k ≤ n ∧ u5 = .int .i64 k ∧ Hid (Below W.heap.size W wr)) (fun _ u5 _ => n - (intOf u5).toNat)
  case atStart => exact ⟨0, by omega, rfl, Below.refl _ _⟩
  case round =>
    clear a0 a1 a2 a3 a4 a5 a6 a7 a8 b0 b1 b2 b3 b4 b5 b6 b7 b8
    obtain ⟨k, hk, rfl, HQ⟩ := hrel
    have a8 : wr.cell? ⟨w.heap.size, 8, none⟩ = some (.slice A n c) := (HK1.out.below HQ.out).cell 8
    have b8 : wr.cell? ⟨w.heap.size + 1, 8, none⟩ = some (.slice B n d) := (HK2.out.below HQ.out).cell 8
    by_cases hlt : k < n
    · obtain ⟨b1, o1, x, rfl, _, hx, d0, d1, d2, d3, d4⟩ := (HA.out.below HQ.out).en (k := k) (by have := HN.out; omega)
      obtain ⟨b2', o2, y, rfl, _, hy, e0, e1, e2, e3, e4⟩ := (HB.out.below HQ.out).en (k := k) (by have := HM.out; omega)
      obtain ⟨p1, p2, p3, p4, p5, p6⟩ := plE_eq (plE_at HP.out hx hy)
      have hxh := (H1.out x (List.mem_of_getElem? hx)).below HQ.out
      have hyh := (H2.out y (List.mem_of_getElem? hy)).below HQ.out
      rw [← p1] at e0
      rw [← p2] at e1
      rw [← p3] at e2
      rw [← p4] at e3
      rw [← p5] at e4
      have hki : (k : Int) < (n : Int) := by omega
      have g0 : (x.index != x.index) = false := by simp
      have g1 : (x.term != x.term) = false := by simp
      have hS : ∀ r : NewM wr, Calls Tryz.prog 47 #[.agg #[.int .i64 x.client, .int .i64 x.seq, .slice x.A x.n x.c], .agg #[.int .i64 x.client, .int .i64 x.seq, .slice y.A x.n y.c]] r.w' fun e w' => e = .returned (.bool true) ∧ Below r.w'.heap.size r.w' w' := fun r =>
        samereq_yes x.client x.seq x.A y.A x.n x.c y.c x.cmds r.w' (hxh.1.below r.h) (by rw [p6]; exact hyh.1.below r.h) hxh.2.1 (by have := hxh.2.2; omega)
      have HS := Lib.hid hS
      clear hx hy p1 p2 p3 p4 p5 p6 hxh hyh hS
      go_wp2
      have n8 := NewM.cell a8
      have k8 := NewM.cell b8
      have f0 := NewM.cell d0
      have f1 := NewM.cell d1
      have f2 := NewM.cell d2
      have f3 := NewM.cell d3
      have f4 := NewM.cell d4
      have h0 := NewM.cell e0
      have h1 := NewM.cell e1
      have h2 := NewM.cell e2
      have h3 := NewM.cell e3
      have h4 := NewM.cell e4
      clear a8 b8 d0 d1 d2 d3 d4 e0 e1 e2 e3 e4
      refine wp_region_quiet_new (by kernel_rfl) (by kernel_rfl) ?_
      repeat (go_big_quiet_step (first
        | (go_at_call 47; with_reducible exact NewM.call (HS.out _))))
      refine wpQuiet_nil ?_
      rintro _ ⟨rr, rfl⟩
      go_wp2
      go_roundw
      case rel => exact ⟨k + 1, by omega, by go_num, HQ.out.trans (rr.h.mono HQ.out.size)⟩
      case measure => simp [intOf]; omega
    · obtain rfl : k = n := by omega
      go_wp2
      go_ret
      exact ⟨rfl, HBA.out.trans (HQ.out.mono HBA.out.size)⟩
end Go.Proofs.YtgigkekajdgngaaGreat
