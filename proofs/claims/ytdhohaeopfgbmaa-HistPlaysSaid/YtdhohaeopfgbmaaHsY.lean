/-
  A log, the document's log and a book side by side: each act; what lies beside them. No condition of its own.
-/
import Derived.Test.YtdhohaeopfgbmaaHsX
namespace Go.Proofs.Ytdhohaeopfgbmaa
open Go Go.RowKit

theorem flatEn_cons (z : En) (zs : List En) : flatEn (z :: zs) = .int .i64 z.index :: .int .i64 z.term :: .int .i64 z.client :: .int .i64 z.seq :: .slice z.A z.n z.c :: flatEn zs := rfl
theorem flatEn_set0 (xs : List En) (k : Nat) (hk : k < xs.length) (z : Int) : (flatEn xs).set (k * 5) (.int .i64 z) = flatEn (xs.set k { xs[k] with index := z }) := by
  induction xs generalizing k with
  | nil => exact absurd hk (by simp)
  | cons y ys ih =>
    cases k with
    | zero => rfl
    | succ k =>
      have h := ih k (by simpa using hk)
      rw [show (k + 1) * 5 = (k * 5) + 1 + 1 + 1 + 1 + 1 by omega, flatEn_cons, List.set_cons_succ, List.set_cons_succ, List.set_cons_succ, List.set_cons_succ, List.set_cons_succ, h]
      rfl
theorem flatEn_set1 (xs : List En) (k : Nat) (hk : k < xs.length) (z : Int) : (flatEn xs).set (k * 5 + 1) (.int .i64 z) = flatEn (xs.set k { xs[k] with term := z }) := by
  induction xs generalizing k with
  | nil => exact absurd hk (by simp)
  | cons y ys ih =>
    cases k with
    | zero => rfl
    | succ k =>
      have h := ih k (by simpa using hk)
      rw [show (k + 1) * 5 + 1 = (k * 5 + 1) + 1 + 1 + 1 + 1 + 1 by omega, flatEn_cons, List.set_cons_succ, List.set_cons_succ, List.set_cons_succ, List.set_cons_succ, List.set_cons_succ, h]
      rfl
/-- What lies beside the logs in an act. -/
structure HRow (w wr : World) (v : Value) (go : Nat) (os : Array Value) (B : Option Addr) (n k : Nat) (news : List En) (g3 c3 : Nat) (ys : List En) : Prop where
  o : Blk wr go 43 os
  og : w.heap.size ≤ go
  row : wr.ownsRow w.heap.size 53 5 (.slice B n k) n (flatEn news)
  old : ∀ x ∈ news, x.has w
  lent : wr.ownsRow w.heap.size 53 5 (.slice (some ⟨g3, 0, none⟩) (n + 1) c3) (n + 1) (flatEn (ys ++ [lentMarkEn]))
  lm : ∀ y ∈ ys, y.mine wr w.heap.size
  d1 : ∀ r, (Value.slice B n k).ownBlock = some r → v.ownBlock ≠ some r
  d2 : v.ownBlock ≠ some g3
section
variable {w wr w' : World} {v : Value} {go : Nat} {os : Array Value} {B : Option Addr} {n k : Nat} {news : List En} {g3 c3 : Nat} {ys : List En}
theorem HRow.frm (h : HRow w wr v go os B n k news g3 c3 ys) {S : Nat → Prop} {Ts : List TypeId} (F : Frm S wr w') (hS : TyS wr S Ts) (hO : 43 ∉ Ts) (hE : 53 ∉ Ts) (hC : 96 ∉ Ts) : HRow w w' v go os B n k news g3 c3 ys :=
  ⟨h.o.frm_ty F hS hO, h.og, own_frm_ty h.row F hS hE, h.old, own_frm_ty h.lent F hS hE, fun y hy => (h.lm y hy).frm F hS hC, h.d1, h.d2⟩
theorem HRow.below (h : HRow w wr v go os B n k news g3 c3 ys) (b : Below wr.heap.size wr w') : HRow w w' v go os B n k news g3 c3 ys := h.frm (Frm.of_below b) (TyS.no wr []) (by simp) (by simp) (by simp)
theorem HRow.qt (h : HRow w wr v go os B n k news g3 c3 ys) (q : Qt wr w') : HRow w w' v go os B n k news g3 c3 ys := h.below (q.below _)
theorem HRow.turn (h : HRow w wr v go os B n k news g3 c3 ys) {base gl : Nat} {idx trm : Int} {es : List En} {v' : Value} (hL : LogM wr base gl idx trm es v) (hT : Turn gl v wr v' w') : HRow w w' v' go os B n k news g3 c3 ys := by
  refine ⟨h.o.frm_ty hT.frm hL.ty (by decide), h.og, own_frm h.row hT.frm (fun r hr e => ?_), h.old, own_frm h.lent hT.frm (fun r hr e => ?_), fun y hy => (h.lm y hy).frm hT.frm hL.ty (by decide), fun r hr e => ?_, fun e => ?_⟩
  · rcases e with e | e
    · exact Blk.own_ne hL.L.blk h.row (by decide) (by rw [hr]; exact congrArg some e)
    · exact h.d1 r hr e
  · rcases e with e | e
    · exact Blk.own_ne hL.L.blk h.lent (by decide) (by rw [hr]; exact congrArg some e)
    · have e2 : r = g3 := by injection hr with hr; exact hr.symm
      exact h.d2 (e2 ▸ e)
  · rcases hT.own r e with e2 | e2
    · exact h.d1 r hr e2
    · have := (h.row.lt r hr).2; omega
  · rcases hT.own g3 e with e2 | e2
    · exact h.d2 e2
    · have := (h.lent.lt g3 rfl).2; omega
end
section
variable {w wr : World} {gl gr gb : Nat} {idx trm : Int} {es : List En} {v : Value} {idx' trm' : Int} {rs : List En} {A : Option Addr} {c N s : Nat}
theorem HPs.mine_low (h : HPs w wr gl gr gb idx trm es v idx' trm' rs A c N s) : ∀ k, mine gl v k → w.heap.size ≤ k := fun k hk => (h.L.L.mine_lt k hk).1
/-- Entries whose commands lie in the arguments stay. -/
theorem HPs.stay_old (h : HPs w wr gl gr gb idx trm es v idx' trm' rs A c N s) {news : List En} (ho : ∀ x ∈ news, x.has w) : Stay gl v wr news := fun _w2 F x hx =>
  (ho x hx).below (h.B.trans (F.below h.B.size h.mine_low))
theorem HPs.stay_mine (h : HPs w wr gl gr gb idx trm es v idx' trm' rs A c N s) {news : List En} (ho : ∀ x ∈ news, x.mine wr w.heap.size) : Stay gl v wr news := fun w2 F x hx => ((ho x hx).frm F h.L.ty (by decide)).has
theorem hp_lappend (h : HPs w wr gl gr gb idx trm es v idx' trm' rs A c N s) (B : Option Addr) (n k : Nat) (news : List En) (hr : Rd wr B (flatEn news)) (hn : news.length = n) (hi : ∀ x ∈ news, i64In x.index) (hh : Stay gl v wr news) (hB : ∀ a, B = some a → a.block ≠ gl ∧ v.ownBlock ≠ some a.block) (hlen : es.length + n ≤ 1000000) :
    Calls Try.prog 12 #[.pointer (some ⟨gl, 0, none⟩), .slice B n k] wr fun e w' => e = .returned (.int .i64 (if riseE (idx + es.length) (lastT trm (ents es)) news then 0 else 15)) ∧ ∃ v' zs, zs.map plE = (if riseE (idx + es.length) (lastT trm (ents es)) news then news.map plE else []) ∧ HPs w w' gl gr gb idx trm (es ++ zs) v' idx' trm' rs A c N s ∧ Turn gl v wr v' w' :=
  (append_gen wr w.heap.size gl idx trm es v h.L B n k news hr hn hi hh hB hlen).mono fun _e _w' ⟨h1, v', zs, h2, h3, h4, h5⟩ => ⟨h1, v', zs, h2, h.logTurn h3 h5 h4, h5⟩
theorem hp_lcut (h : HPs w wr gl gr gb idx trm es v idx' trm' rs A c N s) (i : Int) (hlen : es.length ≤ 1000000) :
    Calls Try.prog 14 #[.pointer (some ⟨gl, 0, none⟩), .int .i64 i] wr fun e w' => e = .returned (.int .i64 ((es.length : Int) - cutK idx es.length i)) ∧ ∃ v', HPs w w' gl gr gb idx trm (es.take (cutK idx es.length i)) v' idx' trm' rs A c N s ∧ Turn gl v wr v' w' :=
  (cut_gen wr w.heap.size gl idx trm es v i h.L hlen).mono fun _e _w' ⟨h1, v', h2, h3, h4⟩ => ⟨h1, v', h.logTurn h2 h4 h3, h4⟩
theorem hp_ltrim (h : HPs w wr gl gr gb idx trm es v idx' trm' rs A c N s) (i : Int) (hlen : es.length ≤ 1000000) (hmax : idx + es.length ≤ 1152921504606846976) :
    Calls Try.prog 16 #[.pointer (some ⟨gl, 0, none⟩), .int .i64 i] wr fun e w' => e = .returned (.int .i64 (trimK idx es.length i)) ∧ ∃ v', HPs w w' gl gr gb (idx + trimK idx es.length i) (trimT idx trm (ents es) i) (es.drop (trimK idx es.length i)) v' idx' trm' rs A c N s ∧ Turn gl v wr v' w' :=
  (trim_gen wr w.heap.size gl idx trm es v i h.L hlen hmax).mono fun _e _w' ⟨h1, v', h2, h3, h4⟩ => ⟨h1, v', h.logTurn h2 h4 h3, h4⟩
theorem hp_rappend (h : HPs w wr gl gr gb idx trm es v idx' trm' rs A c N s) (B : Option Addr) (n k : Nat) (news : List En) (hr : Rd wr B (flatEn news)) (hn : news.length = n) (hi : ∀ x ∈ news, i64In x.index) (hh : ∀ x ∈ news, x.has w) (hlen : rs.length + n ≤ 1000000) :
    Calls Try.prog 13 #[.pointer (some ⟨gr, 0, none⟩), .slice B n k] wr fun e w' => e = .returned (.int .i64 (if riseE (idx' + rs.length) (lastT trm' (ents rs)) news then 0 else 15)) ∧ ∃ A2 c2, HPs w w' gl gr gb idx trm es v idx' trm' (rs ++ if riseE (idx' + rs.length) (lastT trm' (ents rs)) news then news else []) A2 c2 N s ∧ Frm (at1 gr) wr w' := by
  refine (rappend_m wr w.heap.size gr idx' trm' rs A c h.R B n k news hr hn hi hlen).mono fun e w' ⟨h1, A2, c2, h2, h3, h4⟩ => ⟨h1, A2, c2, h.refTurn h2 h3 ?_ (fun x hx => ?_), h3⟩
  · rcases h4 with ⟨e1, _, e2⟩ | h4
    · refine .inl ⟨e1, fun hne => ?_⟩
      rw [e2] at hne; exact hne
    · exact .inr h4
  · rcases List.mem_append.1 hx with hx | hx
    · exact h.old x hx
    · split at hx
      · exact hh x hx
      · exact absurd hx (by simp)
theorem hp_rcut (h : HPs w wr gl gr gb idx trm es v idx' trm' rs A c N s) (i : Int) (hi : i ≤ 9223372036854775807) :
    Calls Try.prog 15 #[.pointer (some ⟨gr, 0, none⟩), .int .i64 i] wr fun e w' => e = .returned (.int .i64 ((rs.length : Int) - cutK idx' rs.length i)) ∧ ∃ c2, HPs w w' gl gr gb idx trm es v idx' trm' (rs.take (cutK idx' rs.length i)) A c2 N s ∧ Frm (at1 gr) wr w' :=
  (rcut_m wr w.heap.size gr idx' trm' rs A c h.R i hi).mono fun e w' ⟨h1, c2, h2, h3⟩ => ⟨h1, c2, h.refTurn h2 h3 (.inl ⟨rfl, fun hne e => by subst e; exact hne (by simp)⟩) (fun x hx => h.old x (List.mem_of_mem_take hx)), h3⟩
theorem hp_rtrim (h : HPs w wr gl gr gb idx trm es v idx' trm' rs A c N s) (i : Int) (hmax : idx' + rs.length ≤ 1152921504606846976) :
    Calls Try.prog 17 #[.pointer (some ⟨gr, 0, none⟩), .int .i64 i] wr fun e w' => e = .returned (.int .i64 (trimK idx' rs.length i)) ∧ ∃ A2 c2, HPs w w' gl gr gb idx trm es v (idx' + trimK idx' rs.length i) (trimT idx' trm' (ents rs) i) (rs.drop (trimK idx' rs.length i)) A2 c2 N s ∧ Frm (at1 gr) wr w' := by
  refine (rtrim_m wr w.heap.size gr idx' trm' rs A c h.R i hmax).mono fun e w' ⟨h1, A2, c2, h2, h3, h4⟩ => ⟨h1, A2, c2, h.refTurn h2 h3 ?_ (fun x hx => h.old x (List.mem_of_mem_drop hx)), h3⟩
  rcases h4 with ⟨e1, e2⟩ | h4
  · refine .inl ⟨e1, fun hne => ?_⟩
    rw [e2] at hne; exact hne
  · exact .inr h4
end
end Go.Proofs.Ytdhohaeopfgbmaa
