/- The law's items: which are right, are they few; items are put one behind the other. Conditions: one goroutine; the items lie in memory. -/
import Derived.Test.YtklccpaphkpgfaaGreatZTree8
import Derived.BigRegion
namespace Go.Proofs.YtklccpaphkpgfaaGreat
open Go.RowKit

set_option maxRecDepth 100000 in
set_option maxHeartbeats 1000000 in
theorem VItem_is (i : Item) (w : World) : Calls Tryz.prog 33 #[itemV i] w fun e w' => e = .returned (.bool (okItem i)) ∧ Only (fun _ => False) w w' := by
  unfold itemV itemC
  go_enter Tryz.func33, Tryz.ntmps33
  go_wp2_with fail
  all_goals
    go_ret
    refine ⟨congrArg (fun b => Ending.returned (Value.bool b)) ?_, (Only.refl _ w).alloc _⟩
    unfold okItem
    first
    | exact (decide_eq_false (by omega)).symm
    | exact decide_eq_decide.2 (by omega)

/-- How much room is left behind two sizes. -/
def room2 (left a b : Int) : Int := if left < 0 ∨ left < a then -1 else if left - a < 0 ∨ left - a < b then -1 else left - a - b
set_option maxRecDepth 100000 in
set_option maxHeartbeats 1000000 in
theorem Room_is (w : World) (left a b : Int) (g cap : Nat) (hl : -1 ≤ left ∧ left ≤ 100000) (ha : 0 ≤ a ∧ a ≤ 9223372036854775807) (hb : 0 ≤ b ∧ b ≤ 9223372036854775807) (c0 : w.cell? ⟨g, 0, none⟩ = some (.int .i64 a)) (c1 : w.cell? ⟨g, 1, none⟩ = some (.int .i64 b)) :
    Calls Tryz.prog 23 #[.int .i64 left, .slice (some ⟨g, 0, none⟩) 2 cap] w fun e w' => e = .returned (.int .i64 (room2 left a b)) ∧ Only (fun _ => False) w w' := by
  have c0' : w.drew.cell? ⟨g, 0, none⟩ = some (.int .i64 a) := c0
  unfold room2
  by_cases h1 : left < 0
  · rw [if_pos (.inl h1)]
    go_enter Tryz.func23, Tryz.ntmps23
    go_wp2_with fail
    refine wp_loop_rounds 3 ?_
    rw [rounds_succ]
    go_wp2_with fail
    go_ret
    exact ⟨rfl, Only.refl _ w⟩
  · by_cases h2 : left < a
    · rw [if_pos (.inr h2)]
      go_enter Tryz.func23, Tryz.ntmps23
      go_wp2_with fail
      refine wp_loop_rounds 3 ?_
      rw [rounds_succ]
      go_wp2_with fail
      go_ret
      exact ⟨rfl, Only.refl _ w⟩
    · rw [if_neg (by omega)]
      have hw1 : IntKind.i64.wrap (left - a) = left - a := by exact IntWalk.i64_in _ (by omega)
      have h3 : ¬ left - a < 0 := by omega
      have h3b : ¬ left < a := h2
      by_cases h4 : left - a < b
      · rw [if_pos (.inr h4)]
        go_enter Tryz.func23, Tryz.ntmps23
        go_wp2_with fail
        refine wp_loop_rounds 3 ?_
        rw [rounds_succ]
        go_wp2_with fail
        rw [rounds_succ]
        go_wp2_with fail
        go_ret
        exact ⟨rfl, Only.refl _ w⟩
      · rw [if_neg (by omega)]
        have hw2 : IntKind.i64.wrap (left - a - b) = left - a - b := by exact IntWalk.i64_in _ (by omega)
        go_enter Tryz.func23, Tryz.ntmps23
        go_wp2_with fail
        refine wp_loop_rounds 3 ?_
        rw [rounds_succ]
        go_wp2_with fail
        rw [rounds_succ]
        go_wp2_with fail
        rw [rounds_succ]
        go_wp2_with fail
        go_ret
        exact ⟨rfl, Only.refl _ w⟩
end Go.Proofs.YtklccpaphkpgfaaGreat
