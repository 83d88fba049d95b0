/-
  A book that keeps no list of a kind: what it does with that kind. Condition: the book lies in memory.
-/
import Derived.Test.YtldkhhipfoeckaaChecked
import Derived.Test.YtldkhhipfoeckaaQuietNew
namespace Go.Proofs.Ytldkhhipfoeckaa
open Go Go.RowKit

theorem stillTexts_none (g : Nat) (w : World) (h : w.cell? ⟨g, 0, none⟩ = some (.slice none 0 0)) :
    Calls Try.prog 74 #[.pointer (some ⟨g, 0, none⟩)] w fun e w' => e = .returned (.bool true) ∧ w' = w := by
  go_enter Try.func74, Try.ntmps74
  go_wp2
  go_loopw [2, 3] (fun u2 u3 wr => u3 = .int .i64 0 ∧ wr = w) (fun _ _ _ => 0)
  case atStart => exact ⟨rfl, rfl⟩
  case round =>
    obtain ⟨rfl, rfl⟩ := hrel
    go_wp2
    go_ret
    exact ⟨rfl, rfl⟩
theorem putTexts_none (g : Nat) (w : World) (h : w.cell? ⟨g, 0, none⟩ = some (.slice none 0 0)) :
    Calls Try.prog 85 #[.pointer (some ⟨g, 0, none⟩)] w fun e w' => e = .returned (.tuple #[]) ∧ w' = w := by
  go_enter Try.func85, Try.ntmps85
  go_wp2
  go_loopw [2, 3, 4] (fun u2 u3 u4 wr => u2 = .int .i64 0 ∧ wr = w) (fun _ _ _ _ => 0)
  case atStart => exact ⟨rfl, rfl⟩
  case round =>
    obtain ⟨rfl, rfl⟩ := hrel
    go_wp2
    go_end0
    exact ⟨rfl, rfl⟩
theorem growTexts_none (g : Nat) (w : World) (h : w.cell? ⟨g, 0, none⟩ = some (.slice none 0 0)) :
    Calls Try.prog 92 #[.pointer (some ⟨g, 0, none⟩)] w fun e w' => e = .returned (.slice none 0 0) ∧ w' = w := by
  go_enter Try.func92, Try.ntmps92
  go_wp2
  go_loopw [3, 4, 5, 6] (fun u3 u4 u5 u6 wr => u3 = .slice none 0 0 ∧ u4 = .int .i64 0 ∧ wr = w) (fun _ _ _ _ _ => 0)
  case atStart => exact ⟨rfl, rfl, rfl⟩
  case round =>
    obtain ⟨rfl, rfl, rfl⟩ := hrel
    go_wp2
    go_ret
    exact ⟨rfl, rfl⟩
theorem markedTexts_none (w : World) :
    Calls Try.prog 101 #[.slice none 0 0] w fun e w' => e = .returned (.bool true) ∧ w' = w := by
  go_enter Try.func101, Try.ntmps101
  go_wp2
  go_loopw [2, 3] (fun u2 u3 wr => u3 = .int .i64 0 ∧ wr = w) (fun _ _ _ => 0)
  case atStart => exact ⟨rfl, rfl⟩
  case round =>
    obtain ⟨rfl, rfl⟩ := hrel
    go_wp2
    go_ret
    exact ⟨rfl, rfl⟩
theorem stillInts_none (g : Nat) (w : World) (h : w.cell? ⟨g, 2, none⟩ = some (.slice none 0 0)) :
    Calls Try.prog 75 #[.pointer (some ⟨g, 0, none⟩)] w fun e w' => e = .returned (.bool true) ∧ w' = w := by
  go_enter Try.func75, Try.ntmps75
  go_wp2
  go_loopw [2, 3] (fun u2 u3 wr => u3 = .int .i64 0 ∧ wr = w) (fun _ _ _ => 0)
  case atStart => exact ⟨rfl, rfl⟩
  case round =>
    obtain ⟨rfl, rfl⟩ := hrel
    go_wp2
    go_ret
    exact ⟨rfl, rfl⟩
theorem putInts_none (g : Nat) (w : World) (h : w.cell? ⟨g, 2, none⟩ = some (.slice none 0 0)) :
    Calls Try.prog 86 #[.pointer (some ⟨g, 0, none⟩)] w fun e w' => e = .returned (.tuple #[]) ∧ w' = w := by
  go_enter Try.func86, Try.ntmps86
  go_wp2
  go_loopw [2, 3, 4] (fun u2 u3 u4 wr => u2 = .int .i64 0 ∧ wr = w) (fun _ _ _ _ => 0)
  case atStart => exact ⟨rfl, rfl⟩
  case round =>
    obtain ⟨rfl, rfl⟩ := hrel
    go_wp2
    go_end0
    exact ⟨rfl, rfl⟩
theorem growInts_none (g : Nat) (w : World) (h : w.cell? ⟨g, 2, none⟩ = some (.slice none 0 0)) :
    Calls Try.prog 93 #[.pointer (some ⟨g, 0, none⟩)] w fun e w' => e = .returned (.slice none 0 0) ∧ w' = w := by
  go_enter Try.func93, Try.ntmps93
  go_wp2
  go_loopw [3, 4, 5, 6] (fun u3 u4 u5 u6 wr => u3 = .slice none 0 0 ∧ u4 = .int .i64 0 ∧ wr = w) (fun _ _ _ _ _ => 0)
  case atStart => exact ⟨rfl, rfl, rfl⟩
  case round =>
    obtain ⟨rfl, rfl, rfl⟩ := hrel
    go_wp2
    go_ret
    exact ⟨rfl, rfl⟩
theorem markedInts_none (w : World) :
    Calls Try.prog 102 #[.slice none 0 0] w fun e w' => e = .returned (.bool true) ∧ w' = w := by
  go_enter Try.func102, Try.ntmps102
  go_wp2
  go_loopw [2, 3] (fun u2 u3 wr => u3 = .int .i64 0 ∧ wr = w) (fun _ _ _ => 0)
  case atStart => exact ⟨rfl, rfl⟩
  case round =>
    obtain ⟨rfl, rfl⟩ := hrel
    go_wp2
    go_ret
    exact ⟨rfl, rfl⟩
theorem stillItems_none (g : Nat) (w : World) (h : w.cell? ⟨g, 4, none⟩ = some (.slice none 0 0)) :
    Calls Try.prog 76 #[.pointer (some ⟨g, 0, none⟩)] w fun e w' => e = .returned (.bool true) ∧ w' = w := by
  go_enter Try.func76, Try.ntmps76
  go_wp2
  go_loopw [2, 3] (fun u2 u3 wr => u3 = .int .i64 0 ∧ wr = w) (fun _ _ _ => 0)
  case atStart => exact ⟨rfl, rfl⟩
  case round =>
    obtain ⟨rfl, rfl⟩ := hrel
    go_wp2
    go_ret
    exact ⟨rfl, rfl⟩
theorem putItems_none (g : Nat) (w : World) (h : w.cell? ⟨g, 4, none⟩ = some (.slice none 0 0)) :
    Calls Try.prog 87 #[.pointer (some ⟨g, 0, none⟩)] w fun e w' => e = .returned (.tuple #[]) ∧ w' = w := by
  go_enter Try.func87, Try.ntmps87
  go_wp2
  go_loopw [2, 3, 4] (fun u2 u3 u4 wr => u2 = .int .i64 0 ∧ wr = w) (fun _ _ _ _ => 0)
  case atStart => exact ⟨rfl, rfl⟩
  case round =>
    obtain ⟨rfl, rfl⟩ := hrel
    go_wp2
    go_end0
    exact ⟨rfl, rfl⟩
theorem growItems_none (g : Nat) (w : World) (h : w.cell? ⟨g, 4, none⟩ = some (.slice none 0 0)) :
    Calls Try.prog 94 #[.pointer (some ⟨g, 0, none⟩)] w fun e w' => e = .returned (.slice none 0 0) ∧ w' = w := by
  go_enter Try.func94, Try.ntmps94
  go_wp2
  go_loopw [3, 4, 5, 6] (fun u3 u4 u5 u6 wr => u3 = .slice none 0 0 ∧ u4 = .int .i64 0 ∧ wr = w) (fun _ _ _ _ _ => 0)
  case atStart => exact ⟨rfl, rfl, rfl⟩
  case round =>
    obtain ⟨rfl, rfl, rfl⟩ := hrel
    go_wp2
    go_ret
    exact ⟨rfl, rfl⟩
theorem markedItems_none (w : World) :
    Calls Try.prog 103 #[.slice none 0 0] w fun e w' => e = .returned (.bool true) ∧ w' = w := by
  go_enter Try.func103, Try.ntmps103
  go_wp2
  go_loopw [2, 3] (fun u2 u3 wr => u3 = .int .i64 0 ∧ wr = w) (fun _ _ _ => 0)
  case atStart => exact ⟨rfl, rfl⟩
  case round =>
    obtain ⟨rfl, rfl⟩ := hrel
    go_wp2
    go_ret
    exact ⟨rfl, rfl⟩
theorem stillKids_none (g : Nat) (w : World) (h : w.cell? ⟨g, 6, none⟩ = some (.slice none 0 0)) :
    Calls Try.prog 77 #[.pointer (some ⟨g, 0, none⟩)] w fun e w' => e = .returned (.bool true) ∧ w' = w := by
  go_enter Try.func77, Try.ntmps77
  go_wp2
  go_loopw [2, 3] (fun u2 u3 wr => u3 = .int .i64 0 ∧ wr = w) (fun _ _ _ => 0)
  case atStart => exact ⟨rfl, rfl⟩
  case round =>
    obtain ⟨rfl, rfl⟩ := hrel
    go_wp2
    go_ret
    exact ⟨rfl, rfl⟩
theorem putKids_none (g : Nat) (w : World) (h : w.cell? ⟨g, 6, none⟩ = some (.slice none 0 0)) :
    Calls Try.prog 88 #[.pointer (some ⟨g, 0, none⟩)] w fun e w' => e = .returned (.tuple #[]) ∧ w' = w := by
  go_enter Try.func88, Try.ntmps88
  go_wp2
  go_loopw [2, 3, 4] (fun u2 u3 u4 wr => u2 = .int .i64 0 ∧ wr = w) (fun _ _ _ _ => 0)
  case atStart => exact ⟨rfl, rfl⟩
  case round =>
    obtain ⟨rfl, rfl⟩ := hrel
    go_wp2
    go_end0
    exact ⟨rfl, rfl⟩
theorem growKids_none (g : Nat) (w : World) (h : w.cell? ⟨g, 6, none⟩ = some (.slice none 0 0)) :
    Calls Try.prog 95 #[.pointer (some ⟨g, 0, none⟩)] w fun e w' => e = .returned (.slice none 0 0) ∧ w' = w := by
  go_enter Try.func95, Try.ntmps95
  go_wp2
  go_loopw [3, 4, 5, 6] (fun u3 u4 u5 u6 wr => u3 = .slice none 0 0 ∧ u4 = .int .i64 0 ∧ wr = w) (fun _ _ _ _ _ => 0)
  case atStart => exact ⟨rfl, rfl, rfl⟩
  case round =>
    obtain ⟨rfl, rfl, rfl⟩ := hrel
    go_wp2
    go_ret
    exact ⟨rfl, rfl⟩
theorem markedKids_none (w : World) :
    Calls Try.prog 104 #[.slice none 0 0] w fun e w' => e = .returned (.bool true) ∧ w' = w := by
  go_enter Try.func104, Try.ntmps104
  go_wp2
  go_loopw [2, 3] (fun u2 u3 wr => u3 = .int .i64 0 ∧ wr = w) (fun _ _ _ => 0)
  case atStart => exact ⟨rfl, rfl⟩
  case round =>
    obtain ⟨rfl, rfl⟩ := hrel
    go_wp2
    go_ret
    exact ⟨rfl, rfl⟩
theorem stillPairs_none (g : Nat) (w : World) (h : w.cell? ⟨g, 8, none⟩ = some (.slice none 0 0)) :
    Calls Try.prog 78 #[.pointer (some ⟨g, 0, none⟩)] w fun e w' => e = .returned (.bool true) ∧ w' = w := by
  go_enter Try.func78, Try.ntmps78
  go_wp2
  go_loopw [2, 3] (fun u2 u3 wr => u3 = .int .i64 0 ∧ wr = w) (fun _ _ _ => 0)
  case atStart => exact ⟨rfl, rfl⟩
  case round =>
    obtain ⟨rfl, rfl⟩ := hrel
    go_wp2
    go_ret
    exact ⟨rfl, rfl⟩
theorem putPairs_none (g : Nat) (w : World) (h : w.cell? ⟨g, 8, none⟩ = some (.slice none 0 0)) :
    Calls Try.prog 89 #[.pointer (some ⟨g, 0, none⟩)] w fun e w' => e = .returned (.tuple #[]) ∧ w' = w := by
  go_enter Try.func89, Try.ntmps89
  go_wp2
  go_loopw [2, 3, 4] (fun u2 u3 u4 wr => u2 = .int .i64 0 ∧ wr = w) (fun _ _ _ _ => 0)
  case atStart => exact ⟨rfl, rfl⟩
  case round =>
    obtain ⟨rfl, rfl⟩ := hrel
    go_wp2
    go_end0
    exact ⟨rfl, rfl⟩
theorem growPairs_none (g : Nat) (w : World) (h : w.cell? ⟨g, 8, none⟩ = some (.slice none 0 0)) :
    Calls Try.prog 96 #[.pointer (some ⟨g, 0, none⟩)] w fun e w' => e = .returned (.slice none 0 0) ∧ w' = w := by
  go_enter Try.func96, Try.ntmps96
  go_wp2
  go_loopw [3, 4, 5, 6] (fun u3 u4 u5 u6 wr => u3 = .slice none 0 0 ∧ u4 = .int .i64 0 ∧ wr = w) (fun _ _ _ _ _ => 0)
  case atStart => exact ⟨rfl, rfl, rfl⟩
  case round =>
    obtain ⟨rfl, rfl, rfl⟩ := hrel
    go_wp2
    go_ret
    exact ⟨rfl, rfl⟩
theorem markedPairs_none (w : World) :
    Calls Try.prog 105 #[.slice none 0 0] w fun e w' => e = .returned (.bool true) ∧ w' = w := by
  go_enter Try.func105, Try.ntmps105
  go_wp2
  go_loopw [2, 3] (fun u2 u3 wr => u3 = .int .i64 0 ∧ wr = w) (fun _ _ _ => 0)
  case atStart => exact ⟨rfl, rfl⟩
  case round =>
    obtain ⟨rfl, rfl⟩ := hrel
    go_wp2
    go_ret
    exact ⟨rfl, rfl⟩
theorem stillReplies_none (g : Nat) (w : World) (h : w.cell? ⟨g, 10, none⟩ = some (.slice none 0 0)) :
    Calls Try.prog 79 #[.pointer (some ⟨g, 0, none⟩)] w fun e w' => e = .returned (.bool true) ∧ w' = w := by
  go_enter Try.func79, Try.ntmps79
  go_wp2
  go_loopw [2, 3] (fun u2 u3 wr => u3 = .int .i64 0 ∧ wr = w) (fun _ _ _ => 0)
  case atStart => exact ⟨rfl, rfl⟩
  case round =>
    obtain ⟨rfl, rfl⟩ := hrel
    go_wp2
    go_ret
    exact ⟨rfl, rfl⟩
theorem putReplies_none (g : Nat) (w : World) (h : w.cell? ⟨g, 10, none⟩ = some (.slice none 0 0)) :
    Calls Try.prog 90 #[.pointer (some ⟨g, 0, none⟩)] w fun e w' => e = .returned (.tuple #[]) ∧ w' = w := by
  go_enter Try.func90, Try.ntmps90
  go_wp2
  go_loopw [2, 3, 4] (fun u2 u3 u4 wr => u2 = .int .i64 0 ∧ wr = w) (fun _ _ _ _ => 0)
  case atStart => exact ⟨rfl, rfl⟩
  case round =>
    obtain ⟨rfl, rfl⟩ := hrel
    go_wp2
    go_end0
    exact ⟨rfl, rfl⟩
theorem growReplies_none (g : Nat) (w : World) (h : w.cell? ⟨g, 10, none⟩ = some (.slice none 0 0)) :
    Calls Try.prog 97 #[.pointer (some ⟨g, 0, none⟩)] w fun e w' => e = .returned (.slice none 0 0) ∧ w' = w := by
  go_enter Try.func97, Try.ntmps97
  go_wp2
  go_loopw [3, 4, 5, 6] (fun u3 u4 u5 u6 wr => u3 = .slice none 0 0 ∧ u4 = .int .i64 0 ∧ wr = w) (fun _ _ _ _ _ => 0)
  case atStart => exact ⟨rfl, rfl, rfl⟩
  case round =>
    obtain ⟨rfl, rfl, rfl⟩ := hrel
    go_wp2
    go_ret
    exact ⟨rfl, rfl⟩
theorem markedReplies_none (w : World) :
    Calls Try.prog 106 #[.slice none 0 0] w fun e w' => e = .returned (.bool true) ∧ w' = w := by
  go_enter Try.func106, Try.ntmps106
  go_wp2
  go_loopw [2, 3] (fun u2 u3 wr => u3 = .int .i64 0 ∧ wr = w) (fun _ _ _ => 0)
  case atStart => exact ⟨rfl, rfl⟩
  case round =>
    obtain ⟨rfl, rfl⟩ := hrel
    go_wp2
    go_ret
    exact ⟨rfl, rfl⟩
theorem stillCmds_none (g : Nat) (w : World) (h : w.cell? ⟨g, 12, none⟩ = some (.slice none 0 0)) :
    Calls Try.prog 80 #[.pointer (some ⟨g, 0, none⟩)] w fun e w' => e = .returned (.bool true) ∧ w' = w := by
  go_enter Try.func80, Try.ntmps80
  go_wp2
  go_loopw [2, 3] (fun u2 u3 wr => u3 = .int .i64 0 ∧ wr = w) (fun _ _ _ => 0)
  case atStart => exact ⟨rfl, rfl⟩
  case round =>
    obtain ⟨rfl, rfl⟩ := hrel
    go_wp2
    go_ret
    exact ⟨rfl, rfl⟩
theorem putCmds_none (g : Nat) (w : World) (h : w.cell? ⟨g, 12, none⟩ = some (.slice none 0 0)) :
    Calls Try.prog 91 #[.pointer (some ⟨g, 0, none⟩)] w fun e w' => e = .returned (.tuple #[]) ∧ w' = w := by
  go_enter Try.func91, Try.ntmps91
  go_wp2
  go_loopw [2, 3, 4] (fun u2 u3 u4 wr => u2 = .int .i64 0 ∧ wr = w) (fun _ _ _ _ => 0)
  case atStart => exact ⟨rfl, rfl⟩
  case round =>
    obtain ⟨rfl, rfl⟩ := hrel
    go_wp2
    go_end0
    exact ⟨rfl, rfl⟩
theorem growCmds_none (g : Nat) (w : World) (h : w.cell? ⟨g, 12, none⟩ = some (.slice none 0 0)) :
    Calls Try.prog 98 #[.pointer (some ⟨g, 0, none⟩)] w fun e w' => e = .returned (.slice none 0 0) ∧ w' = w := by
  go_enter Try.func98, Try.ntmps98
  go_wp2
  go_loopw [3, 4, 5, 6] (fun u3 u4 u5 u6 wr => u3 = .slice none 0 0 ∧ u4 = .int .i64 0 ∧ wr = w) (fun _ _ _ _ _ => 0)
  case atStart => exact ⟨rfl, rfl, rfl⟩
  case round =>
    obtain ⟨rfl, rfl, rfl⟩ := hrel
    go_wp2
    go_ret
    exact ⟨rfl, rfl⟩
theorem markedCmds_none (w : World) :
    Calls Try.prog 107 #[.slice none 0 0] w fun e w' => e = .returned (.bool true) ∧ w' = w := by
  go_enter Try.func107, Try.ntmps107
  go_wp2
  go_loopw [2, 3] (fun u2 u3 wr => u3 = .int .i64 0 ∧ wr = w) (fun _ _ _ => 0)
  case atStart => exact ⟨rfl, rfl⟩
  case round =>
    obtain ⟨rfl, rfl⟩ := hrel
    go_wp2
    go_ret
    exact ⟨rfl, rfl⟩
theorem stillSteps_none (g : Nat) (w : World) (h : w.cell? ⟨g, 14, none⟩ = some (.slice none 0 0)) :
    Calls Try.prog 81 #[.pointer (some ⟨g, 0, none⟩)] w fun e w' => e = .returned (.bool true) ∧ w' = w := by
  go_enter Try.func81, Try.ntmps81
  go_wp2
  go_loopw [2, 3] (fun u2 u3 wr => u3 = .int .i64 0 ∧ wr = w) (fun _ _ _ => 0)
  case atStart => exact ⟨rfl, rfl⟩
  case round =>
    obtain ⟨rfl, rfl⟩ := hrel
    go_wp2
    go_ret
    exact ⟨rfl, rfl⟩
theorem putSteps_none (g : Nat) (w : World) (h : w.cell? ⟨g, 14, none⟩ = some (.slice none 0 0)) :
    Calls Try.prog 83 #[.pointer (some ⟨g, 0, none⟩)] w fun e w' => e = .returned (.tuple #[]) ∧ w' = w := by
  go_enter Try.func83, Try.ntmps83
  go_wp2
  go_loopw [2, 3, 4] (fun u2 u3 u4 wr => u2 = .int .i64 0 ∧ wr = w) (fun _ _ _ _ => 0)
  case atStart => exact ⟨rfl, rfl⟩
  case round =>
    obtain ⟨rfl, rfl⟩ := hrel
    go_wp2
    go_end0
    exact ⟨rfl, rfl⟩
theorem growSteps_none (g : Nat) (w : World) (h : w.cell? ⟨g, 14, none⟩ = some (.slice none 0 0)) :
    Calls Try.prog 99 #[.pointer (some ⟨g, 0, none⟩)] w fun e w' => e = .returned (.slice none 0 0) ∧ w' = w := by
  go_enter Try.func99, Try.ntmps99
  go_wp2
  go_loopw [3, 4, 5, 6] (fun u3 u4 u5 u6 wr => u3 = .slice none 0 0 ∧ u4 = .int .i64 0 ∧ wr = w) (fun _ _ _ _ _ => 0)
  case atStart => exact ⟨rfl, rfl, rfl⟩
  case round =>
    obtain ⟨rfl, rfl, rfl⟩ := hrel
    go_wp2
    go_ret
    exact ⟨rfl, rfl⟩
theorem markedSteps_none (w : World) :
    Calls Try.prog 108 #[.slice none 0 0] w fun e w' => e = .returned (.bool true) ∧ w' = w := by
  go_enter Try.func108, Try.ntmps108
  go_wp2
  go_loopw [2, 3] (fun u2 u3 wr => u3 = .int .i64 0 ∧ wr = w) (fun _ _ _ => 0)
  case atStart => exact ⟨rfl, rfl⟩
  case round =>
    obtain ⟨rfl, rfl⟩ := hrel
    go_wp2
    go_ret
    exact ⟨rfl, rfl⟩
theorem stillEntries_none (g : Nat) (w : World) (h : w.cell? ⟨g, 16, none⟩ = some (.slice none 0 0)) :
    Calls Try.prog 82 #[.pointer (some ⟨g, 0, none⟩)] w fun e w' => e = .returned (.bool true) ∧ w' = w := by
  go_enter Try.func82, Try.ntmps82
  go_wp2
  go_loopw [2, 3] (fun u2 u3 wr => u3 = .int .i64 0 ∧ wr = w) (fun _ _ _ => 0)
  case atStart => exact ⟨rfl, rfl⟩
  case round =>
    obtain ⟨rfl, rfl⟩ := hrel
    go_wp2
    go_ret
    exact ⟨rfl, rfl⟩
theorem putEntries_none (g : Nat) (w : World) (h : w.cell? ⟨g, 16, none⟩ = some (.slice none 0 0)) :
    Calls Try.prog 84 #[.pointer (some ⟨g, 0, none⟩)] w fun e w' => e = .returned (.tuple #[]) ∧ w' = w := by
  go_enter Try.func84, Try.ntmps84
  go_wp2
  go_loopw [2, 3, 4] (fun u2 u3 u4 wr => u2 = .int .i64 0 ∧ wr = w) (fun _ _ _ _ => 0)
  case atStart => exact ⟨rfl, rfl⟩
  case round =>
    obtain ⟨rfl, rfl⟩ := hrel
    go_wp2
    go_end0
    exact ⟨rfl, rfl⟩
theorem growEntries_none (g : Nat) (w : World) (h : w.cell? ⟨g, 16, none⟩ = some (.slice none 0 0)) :
    Calls Try.prog 100 #[.pointer (some ⟨g, 0, none⟩)] w fun e w' => e = .returned (.slice none 0 0) ∧ w' = w := by
  go_enter Try.func100, Try.ntmps100
  go_wp2
  go_loopw [3, 4, 5, 6] (fun u3 u4 u5 u6 wr => u3 = .slice none 0 0 ∧ u4 = .int .i64 0 ∧ wr = w) (fun _ _ _ _ _ => 0)
  case atStart => exact ⟨rfl, rfl, rfl⟩
  case round =>
    obtain ⟨rfl, rfl, rfl⟩ := hrel
    go_wp2
    go_ret
    exact ⟨rfl, rfl⟩
theorem markedEntries_none (w : World) :
    Calls Try.prog 109 #[.slice none 0 0] w fun e w' => e = .returned (.bool true) ∧ w' = w := by
  go_enter Try.func109, Try.ntmps109
  go_wp2
  go_loopw [2, 3] (fun u2 u3 wr => u3 = .int .i64 0 ∧ wr = w) (fun _ _ _ => 0)
  case atStart => exact ⟨rfl, rfl⟩
  case round =>
    obtain ⟨rfl, rfl⟩ := hrel
    go_wp2
    go_ret
    exact ⟨rfl, rfl⟩
end Go.Proofs.Ytldkhhipfoeckaa
