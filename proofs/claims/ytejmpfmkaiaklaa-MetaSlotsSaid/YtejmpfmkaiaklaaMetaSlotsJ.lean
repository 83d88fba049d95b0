/-
  MetaSlots for every input: the walks joined. Condition: numbers that are ints.
-/
import Derived.Test.YtejmpfmkaiaklaaMetaSlotsW
namespace Go.Proofs.Ytejmpfmkaiaklaa
open Go Go.RowKit

theorem slots_ok (a r f p a2 r2 f2 p2 : Nat) (w : World) (h1 : okM ⟨a, r, f, p⟩) (h2 : okM ⟨a2, r2, f2, p2⟩) :
    Calls Try.prog 11 #[m4 a r f p, m4 a2 r2 f2 p2] w fun e w' => e = .returned (.bool true) ∧ Below w.heap.size w w' := by
  have hR1 := mread_layM h1
  have hR2 := mread_layM h2
  have t1 : 1 ≤ (a : Int) := h1.1
  have t2 : 1 ≤ (a2 : Int) := h2.1
  have b1 := i64_and1 (a : Int)
  have b2 := i64_and1 (a2 : Int)
  have K3 : ∀ w, Calls Try.prog 44 #[.string ⟨#[]⟩, .string ⟨#[]⟩] w fun e w' => e = .returned (.tuple #[m4 0 0 0 0, .int .i64 25]) ∧ Below w.heap.size w w' := fun w =>
    choose_is _ _ noM noM noM 5 5 25 mread_none mread_none (.inr ⟨by decide, rfl, rfl⟩) w
  have hp1 : (a : Int) % 2 = 0 ∨ (a : Int) % 2 = 1 := by omega
  have hp2 : (a2 : Int) % 2 = 0 ∨ (a2 : Int) % 2 = 1 := by omega
  rcases hp1 with e1 | e1
  · have c1 := ch_one0 (m := ⟨a, r, f, p⟩) e1 t1
    have c2 := ch_bad0 (m := ⟨a, r, f, p⟩) e1
    have K1 := fun w => choose_is _ _ ⟨a, r, f, p⟩ noM ⟨a, r, f, p⟩ 0 5 0 hR1 mread_none (.inl ⟨by rw [c1]; show (a : Int) ≠ 0; omega, c1, rfl⟩) w
    have K2 := fun w => choose_is _ _ noM ⟨a, r, f, p⟩ noM 5 0 25 mread_none hR1 (.inr ⟨by rw [c2]; rfl, rfl, rfl⟩) w
    rcases hp2 with e2 | e2
    · exact slots_core0 a r f p a2 r2 f2 p2 0 0 0 0 _ _ w (fun w => mlay_ok a r f p w h1) (fun w => mlay_ok a2 r2 f2 p2 w h2) (by rw [b1, e1]) K1 K2 K3 (.inl (by rw [b2, e2]))
    · have c4 := ch_two (m := ⟨a, r, f, p⟩) (n := ⟨a2, r2, f2, p2⟩) e1 e2 t1
      by_cases hlt : (a : Int) < a2
      · have c5 : chM ⟨a, r, f, p⟩ 0 ⟨a2, r2, f2, p2⟩ 0 = ⟨a2, r2, f2, p2⟩ := by rw [c4]; exact if_pos hlt
        have K4 := fun w => choose_is _ _ ⟨a, r, f, p⟩ ⟨a2, r2, f2, p2⟩ ⟨a2, r2, f2, p2⟩ 0 0 0 hR1 hR2 (.inl ⟨by rw [c5]; show (a2 : Int) ≠ 0; omega, c5, rfl⟩) w
        exact slots_core0 a r f p a2 r2 f2 p2 a2 r2 f2 p2 _ _ w (fun w => mlay_ok a r f p w h1) (fun w => mlay_ok a2 r2 f2 p2 w h2) (by rw [b1, e1]) K1 K2 K3 (.inr ⟨by rw [b2, e2], K4, .inr ⟨hlt, by omega, rfl, rfl, rfl, rfl⟩⟩)
      · have c5 : chM ⟨a, r, f, p⟩ 0 ⟨a2, r2, f2, p2⟩ 0 = ⟨a, r, f, p⟩ := by rw [c4]; exact if_neg hlt
        have K4 := fun w => choose_is _ _ ⟨a, r, f, p⟩ ⟨a2, r2, f2, p2⟩ ⟨a, r, f, p⟩ 0 0 0 hR1 hR2 (.inl ⟨by rw [c5]; show (a : Int) ≠ 0; omega, c5, rfl⟩) w
        exact slots_core0 a r f p a2 r2 f2 p2 a r f p _ _ w (fun w => mlay_ok a r f p w h1) (fun w => mlay_ok a2 r2 f2 p2 w h2) (by rw [b1, e1]) K1 K2 K3 (.inr ⟨by rw [b2, e2], K4, .inl ⟨by omega, by omega, rfl, rfl, rfl, rfl⟩⟩)
  · have c1 := ch_one1 (m := ⟨a, r, f, p⟩) e1 t1
    have c2 := ch_bad1 (m := ⟨a, r, f, p⟩) e1
    have K1 := fun w => choose_is _ _ noM ⟨a, r, f, p⟩ ⟨a, r, f, p⟩ 5 0 0 mread_none hR1 (.inl ⟨by rw [c1]; show (a : Int) ≠ 0; omega, c1, rfl⟩) w
    have K2 := fun w => choose_is _ _ ⟨a, r, f, p⟩ noM noM 0 5 25 hR1 mread_none (.inr ⟨by rw [c2]; rfl, rfl, rfl⟩) w
    rcases hp2 with e2 | e2
    · have c4 := ch_two (m := ⟨a2, r2, f2, p2⟩) (n := ⟨a, r, f, p⟩) e2 e1 t2
      by_cases hlt : (a2 : Int) < a
      · have c5 : chM ⟨a2, r2, f2, p2⟩ 0 ⟨a, r, f, p⟩ 0 = ⟨a, r, f, p⟩ := by rw [c4]; exact if_pos hlt
        have K4 := fun w => choose_is _ _ ⟨a2, r2, f2, p2⟩ ⟨a, r, f, p⟩ ⟨a, r, f, p⟩ 0 0 0 hR2 hR1 (.inl ⟨by rw [c5]; show (a : Int) ≠ 0; omega, c5, rfl⟩) w
        exact slots_core1 a r f p a2 r2 f2 p2 a r f p _ _ w (fun w => mlay_ok a r f p w h1) (fun w => mlay_ok a2 r2 f2 p2 w h2) (by rw [b1, e1]) K1 K2 K3 (.inr ⟨by rw [b2, e2], K4, .inl ⟨by omega, by omega, rfl, rfl, rfl, rfl⟩⟩)
      · have c5 : chM ⟨a2, r2, f2, p2⟩ 0 ⟨a, r, f, p⟩ 0 = ⟨a2, r2, f2, p2⟩ := by rw [c4]; exact if_neg hlt
        have K4 := fun w => choose_is _ _ ⟨a2, r2, f2, p2⟩ ⟨a, r, f, p⟩ ⟨a2, r2, f2, p2⟩ 0 0 0 hR2 hR1 (.inl ⟨by rw [c5]; show (a2 : Int) ≠ 0; omega, c5, rfl⟩) w
        exact slots_core1 a r f p a2 r2 f2 p2 a2 r2 f2 p2 _ _ w (fun w => mlay_ok a r f p w h1) (fun w => mlay_ok a2 r2 f2 p2 w h2) (by rw [b1, e1]) K1 K2 K3 (.inr ⟨by rw [b2, e2], K4, .inr ⟨by omega, by omega, rfl, rfl, rfl, rfl⟩⟩)
    · exact slots_core1 a r f p a2 r2 f2 p2 0 0 0 0 _ _ w (fun w => mlay_ok a r f p w h1) (fun w => mlay_ok a2 r2 f2 p2 w h2) (by rw [b1, e1]) K1 K2 K3 (.inl (by rw [b2, e2]))

/-- MetaSlots, every input. -/
theorem slots_walk (a r f p a2 r2 f2 p2 : Int) (w : World) :
    Calls Try.prog 11 #[m4 a r f p, m4 a2 r2 f2 p2] w fun e w' => e = .returned (.bool true) ∧ Below w.heap.size w w' := by
  by_cases h : okM ⟨a, r, f, p⟩ ∧ okM ⟨a2, r2, f2, p2⟩
  · obtain ⟨h1, h2⟩ := h
    obtain ⟨a', r', f', p', hm⟩ := okM_nats h1
    obtain ⟨a2', r2', f2', p2', hm2⟩ := okM_nats h2
    injection hm with m1 m2 m3 m4'
    injection hm2 with n1 n2 n3 n4
    subst m1 m2 m3 m4' n1 n2 n3 n4
    exact slots_ok a' r' f' p' a2' r2' f2' p2' w h1 h2
  · exact slots_no a r f p a2 r2 f2 p2 w (by by_cases x : okM ⟨a, r, f, p⟩; exact .inr fun y => h ⟨x, y⟩; exact .inl x)
end Go.Proofs.Ytejmpfmkaiaklaa
