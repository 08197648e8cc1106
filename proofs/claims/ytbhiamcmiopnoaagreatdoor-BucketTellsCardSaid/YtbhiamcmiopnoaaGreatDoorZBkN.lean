/- The law's book, for kinds of which it has no list: looked at, marked, grown. Conditions: one goroutine. (Printed by wip/gen/bkn.py.) -/
import Derived.Test.YtbhiamcmiopnoaaGreatDoorZBk0
namespace Go.Proofs.YtbhiamcmiopnoaaGreatDoor.bk
open Go.RowKit

/-- What the book tells of a kind of which it has no list. -/
def Unmoved (v : Value) (w : World) : Ending → World → Prop := fun e w' => e = .returned v ∧ w = w'

set_option maxRecDepth 100000 in
theorem stillTexts_none (w : World) (k : Nat) (h : w.cell? ⟨k, 0, none⟩ = some (.slice none 0 0)) : Calls Tryz.prog 51 #[.pointer (some ⟨k, 0, none⟩)] w (Unmoved (.bool true) w) := by
  go_enter Tryz.func51, Tryz.ntmps51
  go_wp2_with fail
  go_loopg [3] 0 (fun _ iv wr => iv = .int .i64 0 ∧ wr = w)
  case atStart => exact ⟨rfl, rfl⟩
  case round =>
    obtain ⟨rfl, rfl⟩ := hrel
    go_wp2_with fail
    go_ret
    exact ⟨rfl, rfl⟩
set_option maxRecDepth 100000 in
theorem putTexts_none (w : World) (k : Nat) (h : w.cell? ⟨k, 0, none⟩ = some (.slice none 0 0)) : Calls Tryz.prog 62 #[.pointer (some ⟨k, 0, none⟩)] w (Unmoved (.tuple #[]) w) := by
  go_enter Tryz.func62, Tryz.ntmps62
  go_wp2_with fail
  go_loopg [2] 0 (fun _ iv wr => iv = .int .i64 0 ∧ wr = w)
  case atStart => exact ⟨rfl, rfl⟩
  case round =>
    obtain ⟨rfl, rfl⟩ := hrel
    go_wp2_with fail
    go_end0
    exact ⟨rfl, rfl⟩
set_option maxRecDepth 100000 in
theorem growTexts_none (w : World) (k : Nat) (h : w.cell? ⟨k, 0, none⟩ = some (.slice none 0 0)) : Calls Tryz.prog 69 #[.pointer (some ⟨k, 0, none⟩)] w (Unmoved (.slice none 0 0) w) := by
  go_enter Tryz.func69, Tryz.ntmps69
  go_wp2_with fail
  go_loopg [3, 4] 0 (fun _ ov iv wr => iv = .int .i64 0 ∧ ov = .slice none 0 0 ∧ wr = w)
  case atStart => exact ⟨rfl, rfl, rfl⟩
  case round =>
    obtain ⟨rfl, rfl, rfl⟩ := hrel
    go_wp2_with fail
    go_ret
    exact ⟨rfl, rfl⟩
set_option maxRecDepth 100000 in
theorem markedTexts_none (w : World) : Calls Tryz.prog 78 #[.slice none 0 0] w (Unmoved (.bool true) w) := by
  go_enter Tryz.func78, Tryz.ntmps78
  go_wp2_with fail
  go_loopg [3] 0 (fun _ iv wr => iv = .int .i64 0 ∧ wr = w)
  case atStart => exact ⟨rfl, rfl⟩
  case round =>
    obtain ⟨rfl, rfl⟩ := hrel
    go_wp2_with fail
    go_ret
    exact ⟨rfl, rfl⟩

set_option maxRecDepth 100000 in
theorem stillInts_none (w : World) (k : Nat) (h : w.cell? ⟨k, 2, none⟩ = some (.slice none 0 0)) : Calls Tryz.prog 52 #[.pointer (some ⟨k, 0, none⟩)] w (Unmoved (.bool true) w) := by
  go_enter Tryz.func52, Tryz.ntmps52
  go_wp2_with fail
  go_loopg [3] 0 (fun _ iv wr => iv = .int .i64 0 ∧ wr = w)
  case atStart => exact ⟨rfl, rfl⟩
  case round =>
    obtain ⟨rfl, rfl⟩ := hrel
    go_wp2_with fail
    go_ret
    exact ⟨rfl, rfl⟩
set_option maxRecDepth 100000 in
theorem putInts_none (w : World) (k : Nat) (h : w.cell? ⟨k, 2, none⟩ = some (.slice none 0 0)) : Calls Tryz.prog 63 #[.pointer (some ⟨k, 0, none⟩)] w (Unmoved (.tuple #[]) w) := by
  go_enter Tryz.func63, Tryz.ntmps63
  go_wp2_with fail
  go_loopg [2] 0 (fun _ iv wr => iv = .int .i64 0 ∧ wr = w)
  case atStart => exact ⟨rfl, rfl⟩
  case round =>
    obtain ⟨rfl, rfl⟩ := hrel
    go_wp2_with fail
    go_end0
    exact ⟨rfl, rfl⟩
set_option maxRecDepth 100000 in
theorem growInts_none (w : World) (k : Nat) (h : w.cell? ⟨k, 2, none⟩ = some (.slice none 0 0)) : Calls Tryz.prog 70 #[.pointer (some ⟨k, 0, none⟩)] w (Unmoved (.slice none 0 0) w) := by
  go_enter Tryz.func70, Tryz.ntmps70
  go_wp2_with fail
  go_loopg [3, 4] 0 (fun _ ov iv wr => iv = .int .i64 0 ∧ ov = .slice none 0 0 ∧ wr = w)
  case atStart => exact ⟨rfl, rfl, rfl⟩
  case round =>
    obtain ⟨rfl, rfl, rfl⟩ := hrel
    go_wp2_with fail
    go_ret
    exact ⟨rfl, rfl⟩
set_option maxRecDepth 100000 in
theorem markedInts_none (w : World) : Calls Tryz.prog 79 #[.slice none 0 0] w (Unmoved (.bool true) w) := by
  go_enter Tryz.func79, Tryz.ntmps79
  go_wp2_with fail
  go_loopg [3] 0 (fun _ iv wr => iv = .int .i64 0 ∧ wr = w)
  case atStart => exact ⟨rfl, rfl⟩
  case round =>
    obtain ⟨rfl, rfl⟩ := hrel
    go_wp2_with fail
    go_ret
    exact ⟨rfl, rfl⟩

set_option maxRecDepth 100000 in
theorem stillItems_none (w : World) (k : Nat) (h : w.cell? ⟨k, 4, none⟩ = some (.slice none 0 0)) : Calls Tryz.prog 53 #[.pointer (some ⟨k, 0, none⟩)] w (Unmoved (.bool true) w) := by
  go_enter Tryz.func53, Tryz.ntmps53
  go_wp2_with fail
  go_loopg [3] 0 (fun _ iv wr => iv = .int .i64 0 ∧ wr = w)
  case atStart => exact ⟨rfl, rfl⟩
  case round =>
    obtain ⟨rfl, rfl⟩ := hrel
    go_wp2_with fail
    go_ret
    exact ⟨rfl, rfl⟩
set_option maxRecDepth 100000 in
theorem putItems_none (w : World) (k : Nat) (h : w.cell? ⟨k, 4, none⟩ = some (.slice none 0 0)) : Calls Tryz.prog 64 #[.pointer (some ⟨k, 0, none⟩)] w (Unmoved (.tuple #[]) w) := by
  go_enter Tryz.func64, Tryz.ntmps64
  go_wp2_with fail
  go_loopg [2] 0 (fun _ iv wr => iv = .int .i64 0 ∧ wr = w)
  case atStart => exact ⟨rfl, rfl⟩
  case round =>
    obtain ⟨rfl, rfl⟩ := hrel
    go_wp2_with fail
    go_end0
    exact ⟨rfl, rfl⟩
set_option maxRecDepth 100000 in
theorem growItems_none (w : World) (k : Nat) (h : w.cell? ⟨k, 4, none⟩ = some (.slice none 0 0)) : Calls Tryz.prog 71 #[.pointer (some ⟨k, 0, none⟩)] w (Unmoved (.slice none 0 0) w) := by
  go_enter Tryz.func71, Tryz.ntmps71
  go_wp2_with fail
  go_loopg [3, 4] 0 (fun _ ov iv wr => iv = .int .i64 0 ∧ ov = .slice none 0 0 ∧ wr = w)
  case atStart => exact ⟨rfl, rfl, rfl⟩
  case round =>
    obtain ⟨rfl, rfl, rfl⟩ := hrel
    go_wp2_with fail
    go_ret
    exact ⟨rfl, rfl⟩
set_option maxRecDepth 100000 in
theorem markedItems_none (w : World) : Calls Tryz.prog 80 #[.slice none 0 0] w (Unmoved (.bool true) w) := by
  go_enter Tryz.func80, Tryz.ntmps80
  go_wp2_with fail
  go_loopg [3] 0 (fun _ iv wr => iv = .int .i64 0 ∧ wr = w)
  case atStart => exact ⟨rfl, rfl⟩
  case round =>
    obtain ⟨rfl, rfl⟩ := hrel
    go_wp2_with fail
    go_ret
    exact ⟨rfl, rfl⟩

set_option maxRecDepth 100000 in
theorem stillKids_none (w : World) (k : Nat) (h : w.cell? ⟨k, 6, none⟩ = some (.slice none 0 0)) : Calls Tryz.prog 54 #[.pointer (some ⟨k, 0, none⟩)] w (Unmoved (.bool true) w) := by
  go_enter Tryz.func54, Tryz.ntmps54
  go_wp2_with fail
  go_loopg [3] 0 (fun _ iv wr => iv = .int .i64 0 ∧ wr = w)
  case atStart => exact ⟨rfl, rfl⟩
  case round =>
    obtain ⟨rfl, rfl⟩ := hrel
    go_wp2_with fail
    go_ret
    exact ⟨rfl, rfl⟩
set_option maxRecDepth 100000 in
theorem putKids_none (w : World) (k : Nat) (h : w.cell? ⟨k, 6, none⟩ = some (.slice none 0 0)) : Calls Tryz.prog 65 #[.pointer (some ⟨k, 0, none⟩)] w (Unmoved (.tuple #[]) w) := by
  go_enter Tryz.func65, Tryz.ntmps65
  go_wp2_with fail
  go_loopg [2] 0 (fun _ iv wr => iv = .int .i64 0 ∧ wr = w)
  case atStart => exact ⟨rfl, rfl⟩
  case round =>
    obtain ⟨rfl, rfl⟩ := hrel
    go_wp2_with fail
    go_end0
    exact ⟨rfl, rfl⟩
set_option maxRecDepth 100000 in
theorem growKids_none (w : World) (k : Nat) (h : w.cell? ⟨k, 6, none⟩ = some (.slice none 0 0)) : Calls Tryz.prog 72 #[.pointer (some ⟨k, 0, none⟩)] w (Unmoved (.slice none 0 0) w) := by
  go_enter Tryz.func72, Tryz.ntmps72
  go_wp2_with fail
  go_loopg [3, 4] 0 (fun _ ov iv wr => iv = .int .i64 0 ∧ ov = .slice none 0 0 ∧ wr = w)
  case atStart => exact ⟨rfl, rfl, rfl⟩
  case round =>
    obtain ⟨rfl, rfl, rfl⟩ := hrel
    go_wp2_with fail
    go_ret
    exact ⟨rfl, rfl⟩
set_option maxRecDepth 100000 in
theorem markedKids_none (w : World) : Calls Tryz.prog 81 #[.slice none 0 0] w (Unmoved (.bool true) w) := by
  go_enter Tryz.func81, Tryz.ntmps81
  go_wp2_with fail
  go_loopg [3] 0 (fun _ iv wr => iv = .int .i64 0 ∧ wr = w)
  case atStart => exact ⟨rfl, rfl⟩
  case round =>
    obtain ⟨rfl, rfl⟩ := hrel
    go_wp2_with fail
    go_ret
    exact ⟨rfl, rfl⟩

set_option maxRecDepth 100000 in
theorem stillPairs_none (w : World) (k : Nat) (h : w.cell? ⟨k, 8, none⟩ = some (.slice none 0 0)) : Calls Tryz.prog 55 #[.pointer (some ⟨k, 0, none⟩)] w (Unmoved (.bool true) w) := by
  go_enter Tryz.func55, Tryz.ntmps55
  go_wp2_with fail
  go_loopg [3] 0 (fun _ iv wr => iv = .int .i64 0 ∧ wr = w)
  case atStart => exact ⟨rfl, rfl⟩
  case round =>
    obtain ⟨rfl, rfl⟩ := hrel
    go_wp2_with fail
    go_ret
    exact ⟨rfl, rfl⟩
set_option maxRecDepth 100000 in
theorem putPairs_none (w : World) (k : Nat) (h : w.cell? ⟨k, 8, none⟩ = some (.slice none 0 0)) : Calls Tryz.prog 66 #[.pointer (some ⟨k, 0, none⟩)] w (Unmoved (.tuple #[]) w) := by
  go_enter Tryz.func66, Tryz.ntmps66
  go_wp2_with fail
  go_loopg [2] 0 (fun _ iv wr => iv = .int .i64 0 ∧ wr = w)
  case atStart => exact ⟨rfl, rfl⟩
  case round =>
    obtain ⟨rfl, rfl⟩ := hrel
    go_wp2_with fail
    go_end0
    exact ⟨rfl, rfl⟩
set_option maxRecDepth 100000 in
theorem growPairs_none (w : World) (k : Nat) (h : w.cell? ⟨k, 8, none⟩ = some (.slice none 0 0)) : Calls Tryz.prog 73 #[.pointer (some ⟨k, 0, none⟩)] w (Unmoved (.slice none 0 0) w) := by
  go_enter Tryz.func73, Tryz.ntmps73
  go_wp2_with fail
  go_loopg [3, 4] 0 (fun _ ov iv wr => iv = .int .i64 0 ∧ ov = .slice none 0 0 ∧ wr = w)
  case atStart => exact ⟨rfl, rfl, rfl⟩
  case round =>
    obtain ⟨rfl, rfl, rfl⟩ := hrel
    go_wp2_with fail
    go_ret
    exact ⟨rfl, rfl⟩
set_option maxRecDepth 100000 in
theorem markedPairs_none (w : World) : Calls Tryz.prog 82 #[.slice none 0 0] w (Unmoved (.bool true) w) := by
  go_enter Tryz.func82, Tryz.ntmps82
  go_wp2_with fail
  go_loopg [3] 0 (fun _ iv wr => iv = .int .i64 0 ∧ wr = w)
  case atStart => exact ⟨rfl, rfl⟩
  case round =>
    obtain ⟨rfl, rfl⟩ := hrel
    go_wp2_with fail
    go_ret
    exact ⟨rfl, rfl⟩

set_option maxRecDepth 100000 in
theorem stillReplies_none (w : World) (k : Nat) (h : w.cell? ⟨k, 10, none⟩ = some (.slice none 0 0)) : Calls Tryz.prog 56 #[.pointer (some ⟨k, 0, none⟩)] w (Unmoved (.bool true) w) := by
  go_enter Tryz.func56, Tryz.ntmps56
  go_wp2_with fail
  go_loopg [3] 0 (fun _ iv wr => iv = .int .i64 0 ∧ wr = w)
  case atStart => exact ⟨rfl, rfl⟩
  case round =>
    obtain ⟨rfl, rfl⟩ := hrel
    go_wp2_with fail
    go_ret
    exact ⟨rfl, rfl⟩
set_option maxRecDepth 100000 in
theorem putReplies_none (w : World) (k : Nat) (h : w.cell? ⟨k, 10, none⟩ = some (.slice none 0 0)) : Calls Tryz.prog 67 #[.pointer (some ⟨k, 0, none⟩)] w (Unmoved (.tuple #[]) w) := by
  go_enter Tryz.func67, Tryz.ntmps67
  go_wp2_with fail
  go_loopg [2] 0 (fun _ iv wr => iv = .int .i64 0 ∧ wr = w)
  case atStart => exact ⟨rfl, rfl⟩
  case round =>
    obtain ⟨rfl, rfl⟩ := hrel
    go_wp2_with fail
    go_end0
    exact ⟨rfl, rfl⟩
set_option maxRecDepth 100000 in
theorem growReplies_none (w : World) (k : Nat) (h : w.cell? ⟨k, 10, none⟩ = some (.slice none 0 0)) : Calls Tryz.prog 74 #[.pointer (some ⟨k, 0, none⟩)] w (Unmoved (.slice none 0 0) w) := by
  go_enter Tryz.func74, Tryz.ntmps74
  go_wp2_with fail
  go_loopg [3, 4] 0 (fun _ ov iv wr => iv = .int .i64 0 ∧ ov = .slice none 0 0 ∧ wr = w)
  case atStart => exact ⟨rfl, rfl, rfl⟩
  case round =>
    obtain ⟨rfl, rfl, rfl⟩ := hrel
    go_wp2_with fail
    go_ret
    exact ⟨rfl, rfl⟩
set_option maxRecDepth 100000 in
theorem markedReplies_none (w : World) : Calls Tryz.prog 83 #[.slice none 0 0] w (Unmoved (.bool true) w) := by
  go_enter Tryz.func83, Tryz.ntmps83
  go_wp2_with fail
  go_loopg [3] 0 (fun _ iv wr => iv = .int .i64 0 ∧ wr = w)
  case atStart => exact ⟨rfl, rfl⟩
  case round =>
    obtain ⟨rfl, rfl⟩ := hrel
    go_wp2_with fail
    go_ret
    exact ⟨rfl, rfl⟩

set_option maxRecDepth 100000 in
theorem stillCmds_none (w : World) (k : Nat) (h : w.cell? ⟨k, 12, none⟩ = some (.slice none 0 0)) : Calls Tryz.prog 57 #[.pointer (some ⟨k, 0, none⟩)] w (Unmoved (.bool true) w) := by
  go_enter Tryz.func57, Tryz.ntmps57
  go_wp2_with fail
  go_loopg [3] 0 (fun _ iv wr => iv = .int .i64 0 ∧ wr = w)
  case atStart => exact ⟨rfl, rfl⟩
  case round =>
    obtain ⟨rfl, rfl⟩ := hrel
    go_wp2_with fail
    go_ret
    exact ⟨rfl, rfl⟩
set_option maxRecDepth 100000 in
theorem putCmds_none (w : World) (k : Nat) (h : w.cell? ⟨k, 12, none⟩ = some (.slice none 0 0)) : Calls Tryz.prog 68 #[.pointer (some ⟨k, 0, none⟩)] w (Unmoved (.tuple #[]) w) := by
  go_enter Tryz.func68, Tryz.ntmps68
  go_wp2_with fail
  go_loopg [2] 0 (fun _ iv wr => iv = .int .i64 0 ∧ wr = w)
  case atStart => exact ⟨rfl, rfl⟩
  case round =>
    obtain ⟨rfl, rfl⟩ := hrel
    go_wp2_with fail
    go_end0
    exact ⟨rfl, rfl⟩
set_option maxRecDepth 100000 in
theorem growCmds_none (w : World) (k : Nat) (h : w.cell? ⟨k, 12, none⟩ = some (.slice none 0 0)) : Calls Tryz.prog 75 #[.pointer (some ⟨k, 0, none⟩)] w (Unmoved (.slice none 0 0) w) := by
  go_enter Tryz.func75, Tryz.ntmps75
  go_wp2_with fail
  go_loopg [3, 4] 0 (fun _ ov iv wr => iv = .int .i64 0 ∧ ov = .slice none 0 0 ∧ wr = w)
  case atStart => exact ⟨rfl, rfl, rfl⟩
  case round =>
    obtain ⟨rfl, rfl, rfl⟩ := hrel
    go_wp2_with fail
    go_ret
    exact ⟨rfl, rfl⟩
set_option maxRecDepth 100000 in
theorem markedCmds_none (w : World) : Calls Tryz.prog 84 #[.slice none 0 0] w (Unmoved (.bool true) w) := by
  go_enter Tryz.func84, Tryz.ntmps84
  go_wp2_with fail
  go_loopg [3] 0 (fun _ iv wr => iv = .int .i64 0 ∧ wr = w)
  case atStart => exact ⟨rfl, rfl⟩
  case round =>
    obtain ⟨rfl, rfl⟩ := hrel
    go_wp2_with fail
    go_ret
    exact ⟨rfl, rfl⟩

set_option maxRecDepth 100000 in
theorem stillSteps_none (w : World) (k : Nat) (h : w.cell? ⟨k, 14, none⟩ = some (.slice none 0 0)) : Calls Tryz.prog 58 #[.pointer (some ⟨k, 0, none⟩)] w (Unmoved (.bool true) w) := by
  go_enter Tryz.func58, Tryz.ntmps58
  go_wp2_with fail
  go_loopg [3] 0 (fun _ iv wr => iv = .int .i64 0 ∧ wr = w)
  case atStart => exact ⟨rfl, rfl⟩
  case round =>
    obtain ⟨rfl, rfl⟩ := hrel
    go_wp2_with fail
    go_ret
    exact ⟨rfl, rfl⟩
set_option maxRecDepth 100000 in
theorem putSteps_none (w : World) (k : Nat) (h : w.cell? ⟨k, 14, none⟩ = some (.slice none 0 0)) : Calls Tryz.prog 60 #[.pointer (some ⟨k, 0, none⟩)] w (Unmoved (.tuple #[]) w) := by
  go_enter Tryz.func60, Tryz.ntmps60
  go_wp2_with fail
  go_loopg [2] 0 (fun _ iv wr => iv = .int .i64 0 ∧ wr = w)
  case atStart => exact ⟨rfl, rfl⟩
  case round =>
    obtain ⟨rfl, rfl⟩ := hrel
    go_wp2_with fail
    go_end0
    exact ⟨rfl, rfl⟩
set_option maxRecDepth 100000 in
theorem growSteps_none (w : World) (k : Nat) (h : w.cell? ⟨k, 14, none⟩ = some (.slice none 0 0)) : Calls Tryz.prog 76 #[.pointer (some ⟨k, 0, none⟩)] w (Unmoved (.slice none 0 0) w) := by
  go_enter Tryz.func76, Tryz.ntmps76
  go_wp2_with fail
  go_loopg [3, 4] 0 (fun _ ov iv wr => iv = .int .i64 0 ∧ ov = .slice none 0 0 ∧ wr = w)
  case atStart => exact ⟨rfl, rfl, rfl⟩
  case round =>
    obtain ⟨rfl, rfl, rfl⟩ := hrel
    go_wp2_with fail
    go_ret
    exact ⟨rfl, rfl⟩
set_option maxRecDepth 100000 in
theorem markedSteps_none (w : World) : Calls Tryz.prog 85 #[.slice none 0 0] w (Unmoved (.bool true) w) := by
  go_enter Tryz.func85, Tryz.ntmps85
  go_wp2_with fail
  go_loopg [3] 0 (fun _ iv wr => iv = .int .i64 0 ∧ wr = w)
  case atStart => exact ⟨rfl, rfl⟩
  case round =>
    obtain ⟨rfl, rfl⟩ := hrel
    go_wp2_with fail
    go_ret
    exact ⟨rfl, rfl⟩

set_option maxRecDepth 100000 in
theorem stillEntries_none (w : World) (k : Nat) (h : w.cell? ⟨k, 16, none⟩ = some (.slice none 0 0)) : Calls Tryz.prog 59 #[.pointer (some ⟨k, 0, none⟩)] w (Unmoved (.bool true) w) := by
  go_enter Tryz.func59, Tryz.ntmps59
  go_wp2_with fail
  go_loopg [3] 0 (fun _ iv wr => iv = .int .i64 0 ∧ wr = w)
  case atStart => exact ⟨rfl, rfl⟩
  case round =>
    obtain ⟨rfl, rfl⟩ := hrel
    go_wp2_with fail
    go_ret
    exact ⟨rfl, rfl⟩
set_option maxRecDepth 100000 in
theorem putEntries_none (w : World) (k : Nat) (h : w.cell? ⟨k, 16, none⟩ = some (.slice none 0 0)) : Calls Tryz.prog 61 #[.pointer (some ⟨k, 0, none⟩)] w (Unmoved (.tuple #[]) w) := by
  go_enter Tryz.func61, Tryz.ntmps61
  go_wp2_with fail
  go_loopg [2] 0 (fun _ iv wr => iv = .int .i64 0 ∧ wr = w)
  case atStart => exact ⟨rfl, rfl⟩
  case round =>
    obtain ⟨rfl, rfl⟩ := hrel
    go_wp2_with fail
    go_end0
    exact ⟨rfl, rfl⟩
set_option maxRecDepth 100000 in
theorem growEntries_none (w : World) (k : Nat) (h : w.cell? ⟨k, 16, none⟩ = some (.slice none 0 0)) : Calls Tryz.prog 77 #[.pointer (some ⟨k, 0, none⟩)] w (Unmoved (.slice none 0 0) w) := by
  go_enter Tryz.func77, Tryz.ntmps77
  go_wp2_with fail
  go_loopg [3, 4] 0 (fun _ ov iv wr => iv = .int .i64 0 ∧ ov = .slice none 0 0 ∧ wr = w)
  case atStart => exact ⟨rfl, rfl, rfl⟩
  case round =>
    obtain ⟨rfl, rfl, rfl⟩ := hrel
    go_wp2_with fail
    go_ret
    exact ⟨rfl, rfl⟩
set_option maxRecDepth 100000 in
theorem markedEntries_none (w : World) : Calls Tryz.prog 86 #[.slice none 0 0] w (Unmoved (.bool true) w) := by
  go_enter Tryz.func86, Tryz.ntmps86
  go_wp2_with fail
  go_loopg [3] 0 (fun _ iv wr => iv = .int .i64 0 ∧ wr = w)
  case atStart => exact ⟨rfl, rfl⟩
  case round =>
    obtain ⟨rfl, rfl⟩ := hrel
    go_wp2_with fail
    go_ret
    exact ⟨rfl, rfl⟩
end Go.Proofs.YtbhiamcmiopnoaaGreatDoor.bk
