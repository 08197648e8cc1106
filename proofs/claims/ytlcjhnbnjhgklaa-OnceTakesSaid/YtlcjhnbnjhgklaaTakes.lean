/- OnceTakes: as many are taken as there is room for, and no more. Conditions: none but those of the statement itself. -/
import Derived.Test.YtlcjhnbnjhgklaaAlive
import Derived.ProofKit
import Derived.OpenShut
namespace Go.Proofs.Ytlcjhnbnjhgklaa.onceTakes
open Go.RowKit Go.MuLone

def took (most more : Int) (k : Nat) : Int := min (max (most - more) 0) k
theorem took_bd (most more : Int) (k : Nat) : 0 ≤ took most more k ∧ took most more k ≤ k := by unfold took; omega
theorem took_yes (most more : Int) (k : Nat) (h : more + took most more k < most) : took most more (k + 1) = took most more k + 1 := by unfold took at *; omega
theorem took_no (most more : Int) (k : Nat) (h : ¬ more + took most more k < most) : took most more (k + 1) = took most more k := by unfold took at *; omega

set_option maxRecDepth 100000 in
set_option maxHeartbeats 800000 in
theorem walk_in (most times more : Int) (h1 : 0 ≤ most) (h2 : most ≤ 100) (h3 : 0 ≤ times) (h4 : times ≤ 200) (h5 : 0 ≤ more) (h6 : more ≤ 100) (w : World) :
    Calls Try.prog 6 #[.int .i64 most, .int .i64 times, .int .i64 more] w fun e w' => e = .returned (.bool true) ∧ Below w.heap.size w w' := by
  go_enter Try.func6, Try.ntmps6
  go_wp2_with fail
  refine (alive_true _).mono ?_
  rintro e w1 ⟨rfl, hb⟩
  have n1 := hb.size
  go_wp2_with fail
  refine (count_adds _ 0 more more _ (by simp) (by simp) (by rw [Int.zero_add]; exact IntWalk.wrap64_in more ⟨by omega, by omega⟩)).mono ?_
  rintro e w' ⟨rfl, rfl⟩
  have b2 : Below w.heap.size w (w1.alloc (.cells #[.int .i64 more] 56)) := hb.alloc n1 _
  have t0 : took most more 0 = 0 := by unfold took; omega
  have T0 := Lib.hid t0
  clear t0
  go_wp2_with fail
  go_loopw [8, 9] (fun n i wr => ∃ k : Nat, (k : Int) ≤ times ∧ i = .int .i64 k ∧ n = .int .i64 (took most more k) ∧ wr.cell? ⟨w1.heap.size, 0, none⟩ = some (.int .i64 (more + took most more k)) ∧ wr.frozen? ⟨w1.heap.size, 0, none⟩ = false ∧ Below w.heap.size w wr) (fun _ i _ => (times - intOf i).toNat)
  case atStart =>
    exact ⟨0, by omega, rfl, by rw [T0.out], by rw [T0.out, Int.add_zero]; simp, by simp, b2⟩
  case round =>
    obtain ⟨k, hk, rfl, rfl, hc, hz, hB⟩ := hrel
    have tb := took_bd most more k
    clear T0
    by_cases hlt : (k : Int) < times
    · by_cases hy : more + took most more k < most
      · have HT := Lib.hid (took_yes most more k hy)
        go_wp2_with (go_at_call 21; refine (count_take_yes _ _ _ _ hc hz hy (by omega) (by omega)).mono ?_; rintro e w' ⟨rfl, rfl⟩)
        go_roundw
        case rel => exact ⟨k + 1, by omega, by go_num, by rw [HT.out], by rw [HT.out, ← Int.add_assoc]; exact same_cell hc _, by simp [hz], hB.setCell n1 _⟩
        case measure => simp [intOf]; omega
      · have HT := Lib.hid (took_no most more k hy)
        go_wp2_with (go_at_call 21; refine (count_take_no _ _ _ _ hc (by omega)).mono ?_; rintro e w' ⟨rfl, rfl⟩)
        go_roundw
        case rel => exact ⟨k + 1, by omega, by go_num, by rw [HT.out], by rw [HT.out]; exact hc, hz, hB⟩
        case measure => simp [intOf]; omega
    · obtain ⟨kt, rfl⟩ : ∃ kt : Nat, times = kt := ⟨k, by omega⟩
      obtain rfl : kt = k := by omega
      have h3 : (most - more < 0 ∧ took most more kt = 0) ∨ (0 ≤ most - more ∧ (kt : Int) < most - more ∧ took most more kt = kt) ∨ (0 ≤ most - more ∧ most - more ≤ kt ∧ took most more kt = most - more) := by unfold took; omega
      generalize took most more kt = t at *
      rcases h3 with ⟨q1, rfl⟩ | ⟨q1, q2, rfl⟩ | ⟨q1, q2, rfl⟩
      all_goals
        go_wp2_with (go_at_call 22; refine (count_now _ _ _ hc).mono ?_; rintro e w' ⟨rfl, rfl⟩)
        go_ret
        exact ⟨rfl, hB⟩

theorem walk_out (most times more : Int) (h : ¬ (0 ≤ most ∧ most ≤ 100 ∧ 0 ≤ times ∧ times ≤ 200 ∧ 0 ≤ more ∧ more ≤ 100)) (w : World) :
    Calls Try.prog 6 #[.int .i64 most, .int .i64 times, .int .i64 more] w fun e w' => e = .returned (.bool true) ∧ Below w.heap.size w w' := by
  have h3 : most < 0 ∨ (0 ≤ most ∧ 100 < most) ∨ (0 ≤ most ∧ most ≤ 100 ∧ times < 0) ∨ (0 ≤ most ∧ most ≤ 100 ∧ 0 ≤ times ∧ 200 < times) ∨ (0 ≤ most ∧ most ≤ 100 ∧ 0 ≤ times ∧ times ≤ 200 ∧ more < 0) ∨ (0 ≤ most ∧ most ≤ 100 ∧ 0 ≤ times ∧ times ≤ 200 ∧ 0 ≤ more ∧ 100 < more) := by omega
  clear h
  rcases h3 with h | ⟨h1, h⟩ | ⟨h1, h2, h⟩ | ⟨h1, h2, h3, h⟩ | ⟨h1, h2, h3, h4, h⟩ | ⟨h1, h2, h3, h4, h5, h⟩
  all_goals
    go_enter Try.func6, Try.ntmps6
    go_wp2_with (go_at_call 9; refine (alive_true _).mono ?_; rintro e w' ⟨rfl, hb⟩)
    go_ret
    exact ⟨rfl, hb⟩

theorem walk (most times more : Int) (w : World) (_ : (Lit.int .i64 most).wf = true) (_ : (Lit.int .i64 times).wf = true) (_ : (Lit.int .i64 more).wf = true) :
    Calls Try.prog 6 #[.int .i64 most, .int .i64 times, .int .i64 more] w fun e w' => e = .returned (.bool true) ∧ Below w.heap.size w w' := by
  by_cases h : 0 ≤ most ∧ most ≤ 100 ∧ 0 ≤ times ∧ times ≤ 200 ∧ 0 ≤ more ∧ more ≤ 100
  · exact walk_in _ _ _ h.1 h.2.1 h.2.2.1 h.2.2.2.1 h.2.2.2.2.1 h.2.2.2.2.2 w
  · exact walk_out _ _ _ h w
end Go.Proofs.Ytlcjhnbnjhgklaa.onceTakes
