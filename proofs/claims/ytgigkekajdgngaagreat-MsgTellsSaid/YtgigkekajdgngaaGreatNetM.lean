/-
  A net in memory: packets on their way, and ends that are cut from each other. No condition of its own.
-/
import Derived.Test.YtgigkekajdgngaaGreatTyAt
import Derived.Test.YtgigkekajdgngaaGreatMtOne
import Derived.Test.YtgigkekajdgngaaGreatSliceSz
namespace Go.Proofs.YtgigkekajdgngaaGreat
open Go Go.RowKit

/-- A packet. -/
structure Pk where
  src : Int
  dst : Int
  data : ByteArray
/-- Two ends. -/
structure Ct where
  a : Int
  b : Int
deriving DecidableEq
def Pk.cells (x : Pk) : List Value := [.int .i64 x.src, .int .i64 x.dst, .string x.data]
def flatK (ks : List Pk) : List Value := ks.flatMap Pk.cells
theorem flatK_len (ks : List Pk) : (flatK ks).length = ks.length * 3 := flat_len Pk.cells (fun _ => rfl) ks
theorem flatK_at (ks : List Pk) (k : Nat) (x : Pk) (h : ks[k]? = some x) (j : Nat) (v : Value) (hv : (Pk.cells x)[j]? = some v) : (flatK ks)[k * 3 + j]? = some v := flat_at Pk.cells (fun _ => rfl) ks k x h j v hv
theorem flatK_one (ks : List Pk) : ∀ u ∈ flatK ks, u.oneCell' = true := flat_one Pk.cells (fun x u hu => by unfold Pk.cells at hu; simp at hu; rcases hu with rfl | rfl | rfl <;> rfl) ks
theorem flatK_app (a b : List Pk) : flatK (a ++ b) = flatK a ++ flatK b := by unfold flatK; rw [List.flatMap_append]
theorem flatK_1 (x : Pk) : flatK [x] = [.int .i64 x.src, .int .i64 x.dst, .string x.data] := rfl
theorem Rd.pk {w : World} {A : Option Addr} {ks : List Pk} (h : Rd w A (flatK ks)) {k : Nat} (hk : k < ks.length) : ∃ b o x, A = some ⟨b, o, none⟩ ∧ b < w.heap.size ∧ ks[k]? = some x ∧ w.cell? ⟨b, o + k * 3, none⟩ = some (.int .i64 x.src) ∧ w.cell? ⟨b, o + k * 3 + 1, none⟩ = some (.int .i64 x.dst) ∧ w.cell? ⟨b, o + k * 3 + 2, none⟩ = some (.string x.data) := by
  obtain ⟨b, o, e, hb, hc⟩ := h.flat (by rw [flatK_len]; omega)
  have hx : ks[k]? = some (ks[k]'hk) := List.getElem?_eq_getElem _
  exact ⟨b, o, ks[k], e, hb, hx, hc (k * 3) _ (flatK_at ks k _ hx 0 _ rfl), hc (k * 3 + 1) _ (flatK_at ks k _ hx 1 _ rfl), hc (k * 3 + 2) _ (flatK_at ks k _ hx 2 _ rfl)⟩
def Ct.cells (x : Ct) : List Value := [.int .i64 x.a, .int .i64 x.b]
def flatT (ks : List Ct) : List Value := ks.flatMap Ct.cells
theorem flatT_len (ks : List Ct) : (flatT ks).length = ks.length * 2 := flat_len Ct.cells (fun _ => rfl) ks
theorem flatT_at (ks : List Ct) (k : Nat) (x : Ct) (h : ks[k]? = some x) (j : Nat) (v : Value) (hv : (Ct.cells x)[j]? = some v) : (flatT ks)[k * 2 + j]? = some v := flat_at Ct.cells (fun _ => rfl) ks k x h j v hv
theorem flatT_one (ks : List Ct) : ∀ u ∈ flatT ks, u.oneCell' = true := flat_one Ct.cells (fun x u hu => by unfold Ct.cells at hu; simp at hu; rcases hu with rfl | rfl <;> rfl) ks
theorem flatT_app (a b : List Ct) : flatT (a ++ b) = flatT a ++ flatT b := by unfold flatT; rw [List.flatMap_append]
theorem Rd.ct {w : World} {A : Option Addr} {ks : List Ct} (h : Rd w A (flatT ks)) {k : Nat} (hk : k < ks.length) : ∃ b o x, A = some ⟨b, o, none⟩ ∧ b < w.heap.size ∧ ks[k]? = some x ∧ w.cell? ⟨b, o + k * 2, none⟩ = some (.int .i64 x.a) ∧ w.cell? ⟨b, o + k * 2 + 1, none⟩ = some (.int .i64 x.b) := by
  obtain ⟨b, o, e, hb, hc⟩ := h.flat (by rw [flatT_len]; omega)
  have hx : ks[k]? = some (ks[k]'hk) := List.getElem?_eq_getElem _
  exact ⟨b, o, ks[k], e, hb, hx, hc (k * 2) _ (flatT_at ks k _ hx 0 _ rfl), hc (k * 2 + 1) _ (flatT_at ks k _ hx 1 _ rfl)⟩
def twoT (a b : Int) : Ct := ⟨min a b, max a b⟩

/-- A net at block g: what is on its way, who is cut off. -/
structure NetAt (w : World) (base g : Nat) (l : List Pk) (c : List Ct) (v1 v2 : Value) : Prop where
  blk : Blk w g 121 #[v1, v2]
  low : base ≤ g
  o1 : w.ownsRow base 65 3 v1 l.length (flatK l)
  o2 : w.ownsRow base 123 2 v2 c.length (flatT c)
/-- Its blocks. -/
def mineN (g : Nat) (v1 v2 : Value) : Nat → Prop := fun k => k = g ∨ v1.ownBlock = some k ∨ v2.ownBlock = some k
section
variable {w w' : World} {base base' g : Nat} {l : List Pk} {c : List Ct} {v1 v2 : Value} {S : Nat → Prop}
theorem NetAt.below (h : NetAt w base g l c v1 v2) (k : Below w.heap.size w w') : NetAt w' base g l c v1 v2 :=
  ⟨h.blk.below k, h.low, own_frm h.o1 (Frm.of_below (S := no) k) (fun _ _ => id), own_frm h.o2 (Frm.of_below (S := no) k) (fun _ _ => id)⟩
theorem NetAt.frm (h : NetAt w base g l c v1 v2) (k : Frm S w w') (hS : ∀ q, mineN g v1 v2 q → ¬ S q) : NetAt w' base g l c v1 v2 :=
  ⟨h.blk.frm k (hS g (.inl rfl)), h.low, own_frm h.o1 k (fun q hq => hS q (.inr (.inl hq))), own_frm h.o2 k (fun q hq => hS q (.inr (.inr hq)))⟩
theorem NetAt.mine_lt (h : NetAt w base g l c v1 v2) (q : Nat) (hq : mineN g v1 v2 q) : base ≤ q ∧ q < w.heap.size := by
  rcases hq with rfl | hq | hq
  · exact ⟨h.low, h.blk.lt⟩
  · exact h.o1.lt q hq
  · exact h.o2.lt q hq
theorem NetAt.form (h : NetAt w base g l c v1 v2) : (∃ A n, v1 = .slice A l.length n ∧ l.length ≤ n) ∧ ∃ A n, v2 = .slice A c.length n ∧ c.length ≤ n := ⟨own_form h.o1, own_form h.o2⟩
end
/-- What became of a net: its blocks have turned, others not; what it has now it had, or is new. -/
structure TurnN (g : Nat) (v1 v2 : Value) (w : World) (v1' v2' : Value) (w' : World) : Prop where
  frm : Frm (mineN g v1 v2) w w'
  own : ∀ k, mineN g v1' v2' k → mineN g v1 v2 k ∨ w.heap.size ≤ k
theorem TurnN.refl (g : Nat) (v1 v2 : Value) (w : World) : TurnN g v1 v2 w v1 v2 w := ⟨Frm.refl _ _, fun _ h => .inl h⟩
theorem TurnN.of {g : Nat} {v1 v2 : Value} {w w' : World} (k : Below w.heap.size w w') : TurnN g v1 v2 w v1 v2 w' := ⟨Frm.of_below k, fun _ h => .inl h⟩
theorem TurnN.step {g : Nat} {v1 v2 v1' v2' : Value} {w w1 w2 : World} (h : TurnN g v1 v2 w v1' v2' w1) (k : Below w1.heap.size w1 w2) : TurnN g v1 v2 w v1' v2' w2 := ⟨h.frm.step k, h.own⟩
theorem TurnN.trans {g : Nat} {v1 v2 v1' v2' v1'' v2'' : Value} {w w1 w2 : World} (h : TurnN g v1 v2 w v1' v2' w1) (k : TurnN g v1' v2' w1 v1'' v2'' w2) : TurnN g v1 v2 w v1'' v2'' w2 :=
  ⟨h.frm.trans k.frm fun i hi hm => by
    rcases h.own i hm with h1 | h1
    · exact h1
    · omega, fun i hi => by
    rcases k.own i hi with h1 | h1
    · exact h.own i h1
    · exact .inr (Nat.le_trans h.frm.size h1)⟩
theorem NetAt.turn_below {w w' : World} {base g : Nat} {l : List Pk} {c : List Ct} {v1 v2 v1' v2' : Value} (h : NetAt w base g l c v1 v2) (t : TurnN g v1 v2 w v1' v2' w') (hb : base ≤ w.heap.size) : Below base w w' := t.frm.below hb fun q hq => (h.mine_lt q hq).1
theorem pkInfo : (Tryz.prog.info? 65).map (fun i => (i.zero, i.size, i.bytes)) = some (some (.agg #[.int .i64 0, .int .i64 0, .string ByteArray.empty]), 3, 32) := by kernel_rfl
theorem ctInfo : (Tryz.prog.info? 123).map (fun i => (i.zero, i.size, i.bytes)) = some (some (.agg #[.int .i64 0, .int .i64 0]), 2, 16) := by kernel_rfl
/-- Two arrays of two numbers. -/
theorem run_eqin_two (w : World) (a b c d : Int) : (Op.equalIn 10000 123 (.agg #[.int .i64 a, .int .i64 b]) (.agg #[.int .i64 c, .int .i64 d])).run Tryz.prog w = .ok (a == c && b == d) w := by
  have ht : Tryz.prog.underlying 123 = some (.array 2 3) := Tryz.underlying123
  have he : Tryz.prog.underlying 3 = some (.int .i64) := Tryz.underlying3
  have hi : (Tryz.prog.info? 3).map (fun i => i.size) = some 1 := by kernel_rfl
  have hsz : (sizeOf 3).run Tryz.prog w = .ok 1 w := by
    cases hj : Tryz.prog.info? 3 with
    | none => rw [hj] at hi; cases hi
    | some j => rw [hj] at hi; simp [sizeOf, typeInfo, hj, Option.some.inj hi]
  have p0 : ∀ x y : Int, (part 3 #[.int .i64 x, .int .i64 y] 0).run Tryz.prog w = .ok (.int .i64 x) w := fun x y => by simp [part, isAgg, run_underlying he]
  have p1 : ∀ x y : Int, (part 3 #[.int .i64 x, .int .i64 y] 1).run Tryz.prog w = .ok (.int .i64 y) w := fun x y => by simp [part, isAgg, run_underlying he]
  have pe : ∀ x y : Int, (Op.equalIn 9999 3 (.int .i64 x) (.int .i64 y)).run Tryz.prog w = .ok (x == y) w := fun x y => run_equalIn_int w 9998 _ .i64 .i64 x y he
  rw [Op.equalIn]
  simp only [Sem.run_bind, run_underlying ht, Result.andThen_ok, hsz, Std.Legacy.Range.forIn_eq_forIn_range', Std.Legacy.Range.size, Nat.sub_zero, Nat.add_sub_cancel, Nat.div_one]
  rw [show List.range' 0 2 1 = [0, 1] from rfl]
  simp only [List.forIn_cons, List.forIn_nil, Sem.run_bind, Nat.zero_mul, Nat.one_mul, p0, pe, Result.andThen_ok, Sem.run_ite]
  cases h1 : (a == c) <;> cases h2 : (b == d) <;> simp [p1, pe, h2]
theorem run_eql_two (w : World) (a b c d : Int) : (binOp .eql 123 (.agg #[.int .i64 a, .int .i64 b]) (.agg #[.int .i64 c, .int .i64 d])).run Tryz.prog w = .ok (.bool (a == c && b == d)) w := by
  rw [run_eql_struct, run_eqin_two]; rfl
theorem run_neq_two (w : World) (a b c d : Int) : (binOp .neq 123 (.agg #[.int .i64 a, .int .i64 b]) (.agg #[.int .i64 c, .int .i64 d])).run Tryz.prog w = .ok (.bool (!(a == c && b == d))) w := by
  rw [run_neq_struct, run_eqin_two]; rfl
end Go.Proofs.YtgigkekajdgngaaGreat
