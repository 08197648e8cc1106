/- The library's Once in one goroutine: 'Do' on one that is not done yet calls the function that it is handed, and on one that is done calls none. Conditions: its lock is free. -/
import Derived.Test.YtlcjhnbnjhgklaaCount
import Derived.Test.YtlcjhnbnjhgklaaLocks
import Derived.Laws.NewBlocks
import Derived.RegionCalls
import Derived.Lib.Hide
namespace Go.Proofs.Ytlcjhnbnjhgklaa
open Go.RowKit Go.MuLone

/-- '(*sync/atomic.Bool).Store(true)', ENTERED AS A DEFERRED CALL: the cell holds 1. -/
theorem store_deferred (a : Addr) (x : Value) (u : FrameMode) (w : World) (hc : w.cell? a = some x) (hz : w.frozen? a = false) :
    CallsD Try.prog 36 #[.pointer (some a), .bool true] u w fun e u' w' => u' = u ∧ (e = .returned (.tuple #[]) ∧ w' = w.drew.setCell a (.int .u32 1)) := by
  have hc' : w.drew.cell? a = some x := by go_simp
  have hz' : w.drew.frozen? a = false := by go_simp
  have hst := run_call_store (P := Try.prog) Try.func49 (by kernel_rfl) (by kernel_rfl) (by kernel_rfl) (by kernel_rfl) (k := .u32) (y := 1) hc' hz'
  go_enter_d Try.func36, Try.ntmps36
  go_wp2
  go_region_calls
  all_goals (go_end0; exact ⟨rfl, rfl⟩)

theorem store_true (a : Addr) (x : Value) (w : World) (hc : w.cell? a = some x) (hz : w.frozen? a = false) :
    Calls Try.prog 36 #[.pointer (some a), .bool true] w fun e w' => e = .returned (.tuple #[]) ∧ w.drew.setCell a (.int .u32 1) = w' := by
  have hc' : w.drew.cell? a = some x := by go_simp
  have hz' : w.drew.frozen? a = false := by go_simp
  have hst := run_call_store (P := Try.prog) Try.func49 (by kernel_rfl) (by kernel_rfl) (by kernel_rfl) (by kernel_rfl) (k := .u32) (y := 1) hc' hz'
  go_enter Try.func36, Try.ntmps36
  go_wp2
  go_region_calls
  all_goals (go_end0; exact ⟨rfl, rfl⟩)

theorem bool_load (a : Addr) (x : Int) (t : Bool) (w : World) (hc : w.cell? a = some (.int .u32 x)) (ht : (x != 0) = t) :
    Calls Try.prog 33 #[.pointer (some a)] w fun e w' => e = .returned (.bool t) ∧ w = w' := by
  have hl := run_call_load (P := Try.prog) Try.func47 (by kernel_rfl) (by kernel_rfl) (by kernel_rfl) .u32 (by kernel_rfl) hc
  subst ht
  go_enter Try.func33, Try.ntmps33
  go_wp2
  go_ret
  exact ⟨rfl, rfl⟩

/-- The world behind a first 'Do': the function's own world, then 'done' is stored, then the lock is let go. -/
def onceEnd (b off : Nat) (w2 : World) : World := (w2.drew.setCell ⟨b, off, none⟩ (.int .u32 1)).setCell ⟨b, off + 1, none⟩ (.int .i32 0)

def OnceDone (b off : Nat) (R : World → Prop) (e : Ending) (w' : World) : Prop := e = .returned (.tuple #[]) ∧ ∃ w2, R w2 ∧ w' = onceEnd b off w2

set_option maxRecDepth 100000 in
set_option maxHeartbeats 800000 in
theorem slow_any (b off : Nat) (g : Nat) (cap : Array Value) (w : World) (R : World → Prop) (hg : ∀ w, (callFunc g cap).run Try.prog w = .ok (.enter g cap) w)
    (h0 : w.cell? ⟨b, off, none⟩ = some (.int .u32 0)) (h1 : w.cell? ⟨b, off + 1, none⟩ = some (.int .i32 0))
    (f1 : w.frozen? ⟨b, off + 1, none⟩ = false)
    (hf : Calls Try.prog g cap (w.setCell ⟨b, off + 1, none⟩ (.int .i32 1)) fun e w2 => e = .returned (.tuple #[]) ∧ R w2)
    (hR : ∀ w2, R w2 → w2.cell? ⟨b, off, none⟩ = some (.int .u32 0) ∧ w2.cell? ⟨b, off + 1, none⟩ = some (.int .i32 1) ∧ w2.frozen? ⟨b, off, none⟩ = false ∧ w2.frozen? ⟨b, off + 1, none⟩ = false) :
    Calls Try.prog 48 #[.pointer (some ⟨b, off, none⟩), .func (.func g) #[] cap] w (OnceDone b off R) := by
  have hp0 : (w.setCell ⟨b, off + 1, none⟩ (.int .i32 1)).cell? ⟨b, off, none⟩ = some (.int .u32 0) := (World.cell?_setCell_other _ ⟨b, off + 1, none⟩ ⟨b, off, none⟩ _ (by simp)).trans h0
  have hnot : ∀ (x : Bool) (w : World), (Op.unary .not (.bool x)).run Try.prog w = .ok (.bool (!x)) w := fun _ _ => rfl
  go_enter_defers Try.func48, Try.ntmps48
  go_wp2_with (first
    | (go_at_call 41; refine (lock_free Try.muLib ⟨b, off + 1, none⟩ _ h1 f1).mono ?_; rintro e w' ⟨rfl, rfl⟩)
    | (go_at_call 33; refine (bool_load _ 0 false _ hp0 rfl).mono ?_; rintro e w' ⟨rfl, rfl⟩))
  refine hf.mono ?_
  rintro e w2 ⟨rfl, hr⟩
  obtain ⟨c0, c1, z0, z1⟩ := hR w2 hr
  go_wp2
  -- THE DOOR: two deferred calls, the last laid first
  refine leaves_cons (f := 36) (args := #[.pointer (some ⟨b, off, none⟩), .bool true]) (by simp) (by simp [go_sem]) ?_
  refine (store_deferred ⟨b, off, none⟩ (.int .u32 0) .returning _ c0 z0).mono ?_
  rintro e u' w'' ⟨rfl, rfl, rfl⟩
  refine leaves_cons (f := 42) (args := #[.pointer (some ⟨b, off + 1, none⟩)]) (by simp [settle]) (by simp [go_sem]) ?_
  refine (unlock_deferred Try.muLib ⟨b, off + 1, none⟩ _ _ ?_ (by simp [z1])).mono ?_
  · refine (World.cell?_setCell_other _ ⟨b, off, none⟩ ⟨b, off + 1, none⟩ _ (by simp)).trans ?_
    rw [World.cell?_drew]
    exact c1
  rintro e u' w'' ⟨rfl, rfl, rfl⟩
  exact ⟨_, results_none rfl _ _ _, rfl, w2, hr, rfl⟩

/-- '(*sync.Once).Do', not yet done, the lock free. -/
theorem do_first (b off : Nat) (g : Nat) (cap : Array Value) (w : World) (R : World → Prop) (hg : ∀ w, (callFunc g cap).run Try.prog w = .ok (.enter g cap) w)
    (h0 : w.cell? ⟨b, off, none⟩ = some (.int .u32 0)) (h1 : w.cell? ⟨b, off + 1, none⟩ = some (.int .i32 0))
    (f1 : w.frozen? ⟨b, off + 1, none⟩ = false)
    (hf : Calls Try.prog g cap (w.setCell ⟨b, off + 1, none⟩ (.int .i32 1)) fun e w2 => e = .returned (.tuple #[]) ∧ R w2)
    (hR : ∀ w2, R w2 → w2.cell? ⟨b, off, none⟩ = some (.int .u32 0) ∧ w2.cell? ⟨b, off + 1, none⟩ = some (.int .i32 1) ∧ w2.frozen? ⟨b, off, none⟩ = false ∧ w2.frozen? ⟨b, off + 1, none⟩ = false) :
    Calls Try.prog 34 #[.pointer (some ⟨b, off, none⟩), .func (.func g) #[] cap] w (OnceDone b off R) := by
  have hnot : ∀ (x : Bool) (w : World), (Op.unary .not (.bool x)).run Try.prog w = .ok (.bool (!x)) w := fun _ _ => rfl
  have HF := Lib.hid hf
  have HR := Lib.hid hR
  clear hf hR
  go_enter Try.func34, Try.ntmps34
  go_wp2_with (go_at_call 33; refine (bool_load _ 0 false _ h0 rfl).mono ?_; rintro e w' ⟨rfl, rfl⟩)
  refine (slow_any b off g cap _ R hg h0 h1 f1 HF.out HR.out).mono ?_
  rintro e w' ⟨rfl, hr⟩
  go_wp2
  go_end0
  exact ⟨rfl, hr⟩

/-- '(*sync.Once).Do', done already: the function is not called. -/
theorem do_done (a : Addr) (fv : Value) (w : World) (h0 : w.cell? a = some (.int .u32 1)) :
    Calls Try.prog 34 #[.pointer (some a), fv] w fun e w' => e = .returned (.tuple #[]) ∧ w = w' := by
  have hnot : ∀ (x : Bool) (w : World), (Op.unary .not (.bool x)).run Try.prog w = .ok (.bool (!x)) w := fun _ _ => rfl
  go_enter Try.func34, Try.ntmps34
  go_wp2_with (go_at_call 33; refine (bool_load _ 1 true _ h0 rfl).mono ?_; rintro e w' ⟨rfl, rfl⟩)
  go_end0
  exact ⟨rfl, rfl⟩
end Go.Proofs.Ytlcjhnbnjhgklaa
