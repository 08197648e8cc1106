/- The counter of package once: what each of its calls does to its one cell. Conditions: one goroutine; the counter's cell is there and may be written. -/
import Derived.Test.YtlcjhnbnjhgklaaRows
import Derived.WalkKit
import Derived.WalkSpells
import Derived.WalkLawsBesides
namespace Go.Proofs.Ytlcjhnbnjhgklaa
open Go.RowKit

set_option maxHeartbeats 400000 in
theorem int64_load (a : Addr) (c : Int) (w : World) (h0 : w.cell? a = some (.int .i64 c)) :
    Calls Try.prog 39 #[.pointer (some a)] w fun e w' => e = .returned (.int .i64 c) ∧ w = w' := by
  have hl := run_call_load (P := Try.prog) Try.func52 (by kernel_rfl) (by kernel_rfl) (by kernel_rfl) .i64 (by kernel_rfl) h0
  go_enter Try.func39, Try.ntmps39
  go_wp2
  go_ret
  exact ⟨rfl, rfl⟩

theorem count_now_nil (w : World) : Calls Try.prog 22 #[.pointer none] w fun e w' => e = .returned (.int .i64 0) ∧ w = w' := by
  go_enter Try.func22, Try.ntmps22
  go_wp2
  go_ret
  exact ⟨rfl, rfl⟩

theorem count_now (a : Addr) (c : Int) (w : World) (h0 : w.cell? a = some (.int .i64 c)) :
    Calls Try.prog 22 #[.pointer (some a)] w fun e w' => e = .returned (.int .i64 c) ∧ w = w' := by
  go_enter Try.func22, Try.ntmps22
  go_wp2_with (go_at_call 39; refine (int64_load _ _ _ h0).mono ?_; rintro e w' ⟨rfl, rfl⟩)
  go_ret
  exact ⟨rfl, rfl⟩

set_option maxHeartbeats 400000 in
theorem int64_add (a : Addr) (c n : Int) (w : World) (h0 : w.cell? a = some (.int .i64 c)) (f0 : w.frozen? a = false) :
    Calls Try.prog 38 #[.pointer (some a), .int .i64 n] w fun e w' => e = .returned (.int .i64 (wrap64 (c + n))) ∧ w.setCell a (.int .i64 (wrap64 (c + n))) = w' := by
  have hl := run_call_add (P := Try.prog) Try.func51 (by kernel_rfl) (by kernel_rfl) (by kernel_rfl) .i64 (by kernel_rfl) h0 f0 (y := n) (s := wrap64 (c + n)) (by simp [go_sem, wrap64, IntKind.wrap_i64])
  go_enter Try.func38, Try.ntmps38
  go_wp2
  go_ret
  exact ⟨rfl, rfl⟩

theorem count_add_nil (n : Int) (w : World) : Calls Try.prog 20 #[.pointer none, .int .i64 n] w fun e w' => e = .returned (.int .i64 0) ∧ w = w' := by
  go_enter Try.func20, Try.ntmps20
  go_wp2
  go_ret
  exact ⟨rfl, rfl⟩

theorem count_add (a : Addr) (c n : Int) (w : World) (h0 : w.cell? a = some (.int .i64 c)) (f0 : w.frozen? a = false) :
    Calls Try.prog 20 #[.pointer (some a), .int .i64 n] w fun e w' => e = .returned (.int .i64 (wrap64 (c + n))) ∧ w.setCell a (.int .i64 (wrap64 (c + n))) = w' := by
  go_enter Try.func20, Try.ntmps20
  go_wp2_with (go_at_call 38; refine (int64_add _ _ _ _ h0 f0).mono ?_; rintro e w' ⟨rfl, rfl⟩)
  go_ret
  exact ⟨rfl, rfl⟩

set_option maxHeartbeats 400000 in
theorem int64_cas (a : Addr) (c n : Int) (w : World) (h0 : w.cell? a = some (.int .i64 c)) (f0 : w.frozen? a = false) :
    Calls Try.prog 40 #[.pointer (some a), .int .i64 c, .int .i64 n] w fun e w' => e = .returned (.bool true) ∧ w.setCell a (.int .i64 n) = w' := by
  have hl := run_call_cas_hit (P := Try.prog) Try.func53 (by kernel_rfl) (by kernel_rfl) (by kernel_rfl) .i64 (by kernel_rfl) h0 f0 (y := n)
  go_enter Try.func40, Try.ntmps40
  go_wp2
  go_ret
  exact ⟨rfl, rfl⟩

theorem count_take_nil (n : Int) (w : World) : Calls Try.prog 21 #[.pointer none, .int .i64 n] w fun e w' => e = .returned (.bool false) ∧ w = w' := by
  go_enter Try.func21, Try.ntmps21
  go_wp2
  go_ret
  exact ⟨rfl, rfl⟩

theorem count_take_no (a : Addr) (c n : Int) (w : World) (h0 : w.cell? a = some (.int .i64 c)) (h : n ≤ c) :
    Calls Try.prog 21 #[.pointer (some a), .int .i64 n] w fun e w' => e = .returned (.bool false) ∧ w = w' := by
  go_enter Try.func21, Try.ntmps21
  go_wp2
  refine wp_loop_rounds 1 ?_
  rw [rounds_succ]
  go_wp2_with (go_at_call 39; refine (int64_load _ _ _ h0).mono ?_; rintro e w' ⟨rfl, rfl⟩)
  go_ret
  exact ⟨rfl, rfl⟩

theorem count_take_yes (a : Addr) (c n : Int) (w : World) (h0 : w.cell? a = some (.int .i64 c)) (f0 : w.frozen? a = false) (h : c < n) (h1 : -9223372036854775808 ≤ c) (h2 : n ≤ 9223372036854775807) :
    Calls Try.prog 21 #[.pointer (some a), .int .i64 n] w fun e w' => e = .returned (.bool true) ∧ w.setCell a (.int .i64 (c + 1)) = w' := by
  go_enter Try.func21, Try.ntmps21
  go_wp2
  refine wp_loop_rounds 1 ?_
  rw [rounds_succ]
  go_wp2_with (first | (go_at_call 39; refine (int64_load _ _ _ h0).mono ?_; rintro e w' ⟨rfl, rfl⟩) | (go_at_call 40; refine (int64_cas _ _ _ _ h0 f0).mono ?_; rintro e w' ⟨rfl, rfl⟩))
  go_ret
  exact ⟨rfl, rfl⟩

theorem count_most_nil (n : Int) (w : World) : Calls Try.prog 23 #[.pointer none, .int .i64 n] w fun e w' => e = .returned (.int .i64 0) ∧ w = w' := by
  go_enter Try.func23, Try.ntmps23
  go_wp2
  go_ret
  exact ⟨rfl, rfl⟩

theorem count_most_no (a : Addr) (c n : Int) (w : World) (h0 : w.cell? a = some (.int .i64 c)) (h : n ≤ c) :
    Calls Try.prog 23 #[.pointer (some a), .int .i64 n] w fun e w' => e = .returned (.int .i64 c) ∧ w = w' := by
  go_enter Try.func23, Try.ntmps23
  go_wp2
  refine wp_loop_rounds 1 ?_
  rw [rounds_succ]
  go_wp2_with (go_at_call 39; refine (int64_load _ _ _ h0).mono ?_; rintro e w' ⟨rfl, rfl⟩)
  go_ret
  exact ⟨rfl, rfl⟩

theorem count_most_yes (a : Addr) (c n : Int) (w : World) (h0 : w.cell? a = some (.int .i64 c)) (f0 : w.frozen? a = false) (h : c < n) :
    Calls Try.prog 23 #[.pointer (some a), .int .i64 n] w fun e w' => e = .returned (.int .i64 n) ∧ w.setCell a (.int .i64 n) = w' := by
  go_enter Try.func23, Try.ntmps23
  go_wp2
  refine wp_loop_rounds 1 ?_
  rw [rounds_succ]
  go_wp2_with (first | (go_at_call 39; refine (int64_load _ _ _ h0).mono ?_; rintro e w' ⟨rfl, rfl⟩) | (go_at_call 40; refine (int64_cas _ _ _ _ h0 f0).mono ?_; rintro e w' ⟨rfl, rfl⟩))
  go_ret
  exact ⟨rfl, rfl⟩

theorem count_adds (a : Addr) (c n s : Int) (w : World) (h0 : w.cell? a = some (.int .i64 c)) (f0 : w.frozen? a = false) (hs : wrap64 (c + n) = s) :
    Calls Try.prog 20 #[.pointer (some a), .int .i64 n] w fun e w' => e = .returned (.int .i64 s) ∧ w.setCell a (.int .i64 s) = w' := by
  subst hs
  exact count_add a c n w h0 f0
end Go.Proofs.Ytlcjhnbnjhgklaa
