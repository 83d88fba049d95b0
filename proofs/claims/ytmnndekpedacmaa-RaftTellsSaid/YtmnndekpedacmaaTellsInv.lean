/-
  UNDER WAY: regions 17 and 18 of RaftTells: what is done, and what stays.
-/
import Derived.Test.YtmnndekpedacmaaTellsTwo
namespace Go.Proofs.Ytmnndekpedacmaa
open Go Go.RowKit
attribute [local go_sem] cell_set_if

theorem op17_1 : (ops17.toArray[1]?).map (fun o => (o.dst, o.op, o.guard)) = some (some 134, .move (.tmp 6), none) := by kernel_rfl
theorem op17_2 : (ops17.toArray[2]?).map (fun o => (o.dst, o.op, o.guard)) = some (some 135, .indexAddr 23 (.tmp 134) (.const (.int .i64 0)), none) := by kernel_rfl
theorem op17_3 : (ops17.toArray[3]?).map (fun o => (o.dst, o.op, o.guard)) = some (some 136, .load 3 (.tmp 135), none) := by kernel_rfl
theorem op17_4 : (ops17.toArray[4]?).map (fun o => (o.dst, o.op, o.guard)) = some (some 137, .call { callee := .value (.func 18), args := #[.tmp 133, .tmp 136], argTypes := #[38, 3] }, none) := by kernel_rfl
theorem op17_5 : (ops17.toArray[5]?).map (fun o => (o.dst, o.op, o.guard)) = some (some 138, .load 42 (.tmp 20), none) := by kernel_rfl
theorem op17_6 : (ops17.toArray[6]?).map (fun o => (o.dst, o.op, o.guard)) = some (some 139, .move (.tmp 6), none) := by kernel_rfl
theorem op17_7 : (ops17.toArray[7]?).map (fun o => (o.dst, o.op, o.guard)) = some (some 140, .indexAddr 23 (.tmp 139) (.const (.int .i64 0)), none) := by kernel_rfl
theorem op17_8 : (ops17.toArray[8]?).map (fun o => (o.dst, o.op, o.guard)) = some (some 141, .load 3 (.tmp 140), none) := by kernel_rfl
theorem op17_9 : (ops17.toArray[9]?).map (fun o => (o.dst, o.op, o.guard)) = some (some 142, .call { callee := .value (.func 19), args := #[.tmp 138, .tmp 141], argTypes := #[42, 3] }, none) := by kernel_rfl
theorem op17_11 : (ops17.toArray[11]?).map (fun o => (o.dst, o.op, o.guard)) = some (some 28, .alloc 42, none) := by kernel_rfl
theorem op17_13 : (ops17.toArray[13]?).map (fun o => (o.dst, o.op, o.guard)) = some (none, .store 42 (.tmp 28) (.tmp 142), none) := by kernel_rfl
theorem w17_2_1 : Region.waitsFor .any ops17.toArray 2 1 = true := by kernel_rfl
theorem w17_3_2 : Region.waitsFor .any ops17.toArray 3 2 = true := by kernel_rfl
theorem w17_4_0 : Region.waitsFor .any ops17.toArray 4 0 = true := by kernel_rfl
theorem w17_4_3 : Region.waitsFor .any ops17.toArray 4 3 = true := by kernel_rfl
theorem w17_7_6 : Region.waitsFor .any ops17.toArray 7 6 = true := by kernel_rfl
theorem w17_8_7 : Region.waitsFor .any ops17.toArray 8 7 = true := by kernel_rfl
theorem w17_9_5 : Region.waitsFor .any ops17.toArray 9 5 = true := by kernel_rfl
theorem w17_9_8 : Region.waitsFor .any ops17.toArray 9 8 = true := by kernel_rfl
theorem w17_12_10 : Region.waitsFor .any ops17.toArray 12 10 = true := by kernel_rfl
theorem w17_12_4 : Region.waitsFor .any ops17.toArray 12 4 = true := by kernel_rfl
theorem w17_13_11 : Region.waitsFor .any ops17.toArray 13 11 = true := by kernel_rfl
theorem w17_13_9 : Region.waitsFor .any ops17.toArray 13 9 = true := by kernel_rfl
theorem size17 : ops17.length = 14 := by kernel_rfl
/-- What holds of the j-th operation once it is done. -/
def Did17 (S : World) (b6 o6 c6 gp : Nat) (gt : Nat) (t f z V1 V2 : Int) (a : Act) (w : World) : Nat → Prop
  | 0 => slot a 133 = bal t f
  | 1 => slot a 134 = .slice (some ⟨b6, o6, none⟩) 5 c6
  | 2 => slot a 135 = .pointer (some ⟨b6, o6 + 0, none⟩)
  | 3 => slot a 136 = .int .i64 z
  | 4 => slot a 137 = bal V1 V2
  | 5 => slot a 138 = bal t f
  | 6 => slot a 139 = .slice (some ⟨b6, o6, none⟩) 5 c6
  | 7 => slot a 140 = .pointer (some ⟨b6, o6 + 0, none⟩)
  | 8 => slot a 141 = .int .i64 z
  | 9 => slot a 142 = bal V1 V2
  | 10 => ∃ x c d, S.heap.size ≤ x ∧ slot a 27 = .pointer (some ⟨x, 0, none⟩) ∧ Blk w x 38 #[c, d]
  | 11 => ∃ x c d, S.heap.size ≤ x ∧ slot a 28 = .pointer (some ⟨x, 0, none⟩) ∧ Blk w x 42 #[c, d]
  | 12 => ∃ x, slot a 27 = .pointer (some ⟨x, 0, none⟩) ∧ Blk w x 38 #[.int .i64 V1, .int .i64 V2]
  | 13 => ∃ x, slot a 28 = .pointer (some ⟨x, 0, none⟩) ∧ Blk w x 42 #[.int .i64 V1, .int .i64 V2]
  | _ => True
/-- A step into a slot of its own, and new memory at most: the others stay. -/
theorem Did17.keep {S : World} {b6 o6 c6 gp gt : Nat} {t f z V1 V2 : Int} {a : Act} {w w' : World} {j d : Nat} {v : Value} (h : Did17 S b6 o6 c6 gp gt t f z V1 V2 a w j) (hb : Below w.heap.size w w') (hd : (j, d) ∈ [(0, 133), (1, 134), (2, 135), (3, 136), (4, 137), (5, 138), (6, 139), (7, 140), (8, 141), (9, 142), (10, 27), (11, 28), (12, 27), (13, 28)] → False) : Did17 S b6 o6 c6 gp gt t f z V1 V2 (a.put (some d) v) w' j := by
  have hs : ∀ k, d ≠ k → slot (a.put (some d) v) k = slot a k := fun k hk => slot_other hk v
  match j, h with
  | 0, h => exact (hs _ (by rintro rfl; simp at hd)).trans h
  | 1, h => exact (hs _ (by rintro rfl; simp at hd)).trans h
  | 2, h => exact (hs _ (by rintro rfl; simp at hd)).trans h
  | 3, h => exact (hs _ (by rintro rfl; simp at hd)).trans h
  | 4, h => exact (hs _ (by rintro rfl; simp at hd)).trans h
  | 5, h => exact (hs _ (by rintro rfl; simp at hd)).trans h
  | 6, h => exact (hs _ (by rintro rfl; simp at hd)).trans h
  | 7, h => exact (hs _ (by rintro rfl; simp at hd)).trans h
  | 8, h => exact (hs _ (by rintro rfl; simp at hd)).trans h
  | 9, h => exact (hs _ (by rintro rfl; simp at hd)).trans h
  | 10, ⟨x, c, e, h1, h2, h3⟩ => exact ⟨x, c, e, h1, by rw [hs _ (by rintro rfl; simp at hd)]; exact h2, h3.below hb⟩
  | 11, ⟨x, c, e, h1, h2, h3⟩ => exact ⟨x, c, e, h1, by rw [hs _ (by rintro rfl; simp at hd)]; exact h2, h3.below hb⟩
  | 12, ⟨x, h2, h3⟩ => exact ⟨x, by rw [hs _ (by rintro rfl; simp at hd)]; exact h2, h3.below hb⟩
  | 13, ⟨x, h2, h3⟩ => exact ⟨x, by rw [hs _ (by rintro rfl; simp at hd)]; exact h2, h3.below hb⟩
  | n + 14, _ => exact trivial
noncomputable def ops18 : List Oper := opsAt (Try.f4.body.bind (regionAt 18))
theorem op18_0 : (ops18.toArray[0]?).map (fun o => (o.dst, o.op, o.guard)) = some (some 143, .load 38 (.tmp 8), none) := by kernel_rfl
theorem op18_1 : (ops18.toArray[1]?).map (fun o => (o.dst, o.op, o.guard)) = some (some 144, .move (.tmp 6), none) := by kernel_rfl
theorem op18_2 : (ops18.toArray[2]?).map (fun o => (o.dst, o.op, o.guard)) = some (some 145, .indexAddr 23 (.tmp 144) (.const (.int .i64 1)), none) := by kernel_rfl
theorem op18_3 : (ops18.toArray[3]?).map (fun o => (o.dst, o.op, o.guard)) = some (some 146, .load 3 (.tmp 145), none) := by kernel_rfl
theorem op18_4 : (ops18.toArray[4]?).map (fun o => (o.dst, o.op, o.guard)) = some (some 147, .call { callee := .value (.func 20), args := #[.tmp 143, .tmp 146], argTypes := #[38, 3] }, none) := by kernel_rfl
theorem op18_5 : (ops18.toArray[5]?).map (fun o => (o.dst, o.op, o.guard)) = some (some 148, .load 42 (.tmp 20), none) := by kernel_rfl
theorem op18_6 : (ops18.toArray[6]?).map (fun o => (o.dst, o.op, o.guard)) = some (some 149, .move (.tmp 6), none) := by kernel_rfl
theorem op18_7 : (ops18.toArray[7]?).map (fun o => (o.dst, o.op, o.guard)) = some (some 150, .indexAddr 23 (.tmp 149) (.const (.int .i64 1)), none) := by kernel_rfl
theorem op18_8 : (ops18.toArray[8]?).map (fun o => (o.dst, o.op, o.guard)) = some (some 151, .load 3 (.tmp 150), none) := by kernel_rfl
theorem op18_9 : (ops18.toArray[9]?).map (fun o => (o.dst, o.op, o.guard)) = some (some 152, .call { callee := .value (.func 21), args := #[.tmp 148, .tmp 151], argTypes := #[42, 3] }, none) := by kernel_rfl
theorem op18_10 : (ops18.toArray[10]?).map (fun o => (o.dst, o.op, o.guard)) = some (some 29, .alloc 38, none) := by kernel_rfl
theorem op18_11 : (ops18.toArray[11]?).map (fun o => (o.dst, o.op, o.guard)) = some (some 30, .alloc 42, none) := by kernel_rfl
theorem op18_12 : (ops18.toArray[12]?).map (fun o => (o.dst, o.op, o.guard)) = some (none, .store 38 (.tmp 29) (.tmp 147), none) := by kernel_rfl
theorem op18_13 : (ops18.toArray[13]?).map (fun o => (o.dst, o.op, o.guard)) = some (none, .store 42 (.tmp 30) (.tmp 152), none) := by kernel_rfl
theorem w18_2_1 : Region.waitsFor .any ops18.toArray 2 1 = true := by kernel_rfl
theorem w18_3_2 : Region.waitsFor .any ops18.toArray 3 2 = true := by kernel_rfl
theorem w18_4_0 : Region.waitsFor .any ops18.toArray 4 0 = true := by kernel_rfl
theorem w18_4_3 : Region.waitsFor .any ops18.toArray 4 3 = true := by kernel_rfl
theorem w18_7_6 : Region.waitsFor .any ops18.toArray 7 6 = true := by kernel_rfl
theorem w18_8_7 : Region.waitsFor .any ops18.toArray 8 7 = true := by kernel_rfl
theorem w18_9_5 : Region.waitsFor .any ops18.toArray 9 5 = true := by kernel_rfl
theorem w18_9_8 : Region.waitsFor .any ops18.toArray 9 8 = true := by kernel_rfl
theorem w18_12_10 : Region.waitsFor .any ops18.toArray 12 10 = true := by kernel_rfl
theorem w18_12_4 : Region.waitsFor .any ops18.toArray 12 4 = true := by kernel_rfl
theorem w18_13_11 : Region.waitsFor .any ops18.toArray 13 11 = true := by kernel_rfl
theorem w18_13_9 : Region.waitsFor .any ops18.toArray 13 9 = true := by kernel_rfl
theorem size18 : ops18.length = 14 := by kernel_rfl
/-- What holds of the j-th operation once it is done. -/
def Did18 (S : World) (b6 o6 c6 gp : Nat) (gt : Nat) (t f z V1 V2 : Int) (a : Act) (w : World) : Nat → Prop
  | 0 => slot a 143 = bal t f
  | 1 => slot a 144 = .slice (some ⟨b6, o6, none⟩) 5 c6
  | 2 => slot a 145 = .pointer (some ⟨b6, o6 + 1, none⟩)
  | 3 => slot a 146 = .int .i64 z
  | 4 => slot a 147 = bal V1 V2
  | 5 => slot a 148 = bal t f
  | 6 => slot a 149 = .slice (some ⟨b6, o6, none⟩) 5 c6
  | 7 => slot a 150 = .pointer (some ⟨b6, o6 + 1, none⟩)
  | 8 => slot a 151 = .int .i64 z
  | 9 => slot a 152 = bal V1 V2
  | 10 => ∃ x c d, S.heap.size ≤ x ∧ slot a 29 = .pointer (some ⟨x, 0, none⟩) ∧ Blk w x 38 #[c, d]
  | 11 => ∃ x c d, S.heap.size ≤ x ∧ slot a 30 = .pointer (some ⟨x, 0, none⟩) ∧ Blk w x 42 #[c, d]
  | 12 => ∃ x, slot a 29 = .pointer (some ⟨x, 0, none⟩) ∧ Blk w x 38 #[.int .i64 V1, .int .i64 V2]
  | 13 => ∃ x, slot a 30 = .pointer (some ⟨x, 0, none⟩) ∧ Blk w x 42 #[.int .i64 V1, .int .i64 V2]
  | _ => True
/-- A step into a slot of its own, and new memory at most: the others stay. -/
theorem Did18.keep {S : World} {b6 o6 c6 gp gt : Nat} {t f z V1 V2 : Int} {a : Act} {w w' : World} {j d : Nat} {v : Value} (h : Did18 S b6 o6 c6 gp gt t f z V1 V2 a w j) (hb : Below w.heap.size w w') (hd : (j, d) ∈ [(0, 143), (1, 144), (2, 145), (3, 146), (4, 147), (5, 148), (6, 149), (7, 150), (8, 151), (9, 152), (10, 29), (11, 30), (12, 29), (13, 30)] → False) : Did18 S b6 o6 c6 gp gt t f z V1 V2 (a.put (some d) v) w' j := by
  have hs : ∀ k, d ≠ k → slot (a.put (some d) v) k = slot a k := fun k hk => slot_other hk v
  match j, h with
  | 0, h => exact (hs _ (by rintro rfl; simp at hd)).trans h
  | 1, h => exact (hs _ (by rintro rfl; simp at hd)).trans h
  | 2, h => exact (hs _ (by rintro rfl; simp at hd)).trans h
  | 3, h => exact (hs _ (by rintro rfl; simp at hd)).trans h
  | 4, h => exact (hs _ (by rintro rfl; simp at hd)).trans h
  | 5, h => exact (hs _ (by rintro rfl; simp at hd)).trans h
  | 6, h => exact (hs _ (by rintro rfl; simp at hd)).trans h
  | 7, h => exact (hs _ (by rintro rfl; simp at hd)).trans h
  | 8, h => exact (hs _ (by rintro rfl; simp at hd)).trans h
  | 9, h => exact (hs _ (by rintro rfl; simp at hd)).trans h
  | 10, ⟨x, c, e, h1, h2, h3⟩ => exact ⟨x, c, e, h1, by rw [hs _ (by rintro rfl; simp at hd)]; exact h2, h3.below hb⟩
  | 11, ⟨x, c, e, h1, h2, h3⟩ => exact ⟨x, c, e, h1, by rw [hs _ (by rintro rfl; simp at hd)]; exact h2, h3.below hb⟩
  | 12, ⟨x, h2, h3⟩ => exact ⟨x, by rw [hs _ (by rintro rfl; simp at hd)]; exact h2, h3.below hb⟩
  | 13, ⟨x, h2, h3⟩ => exact ⟨x, by rw [hs _ (by rintro rfl; simp at hd)]; exact h2, h3.below hb⟩
  | n + 14, _ => exact trivial
end Go.Proofs.Ytmnndekpedacmaa
