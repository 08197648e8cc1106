/- A cell of package once, of ints: 'Get' on one that is not made calls the function that it is handed and keeps its answer; on one that is made it calls none. Conditions: one goroutine; the cell's lock is free. -/
import Derived.Test.YtlcjhnbnjhgklaaOnce
import Derived.Deep.RegionWith
namespace Go.Proofs.Ytlcjhnbnjhgklaa
open Go.RowKit Go.MuLone

/-- What a function that a cell calls leaves of the cell and of the variable that names it. -/
structure CellKept (b off : Nat) (pc : Addr) (w2 : World) : Prop where
  c0 : w2.cell? ⟨b, off, none⟩ = some (.int .u32 0)
  c1 : w2.cell? ⟨b, off + 1, none⟩ = some (.int .i32 1)
  c3 : ∃ x, w2.cell? ⟨b, off + 3, none⟩ = some x
  c4 : ∃ x, w2.cell? ⟨b, off + 4, none⟩ = some x
  z0 : w2.frozen? ⟨b, off, none⟩ = false
  z1 : w2.frozen? ⟨b, off + 1, none⟩ = false
  z3 : w2.frozen? ⟨b, off + 3, none⟩ = false
  z4 : w2.frozen? ⟨b, off + 4, none⟩ = false
  cv : w2.cell? pc = some (.pointer (some ⟨b, off, none⟩))
  pcn : ¬ b = pc.block

/-- The world behind the function that 'Get' hands to 'Do': the answer stands in the cell, and that it was made. -/
def madeEnd (b off : Nat) (v : Value) (w2 : World) : World := (w2.setCell ⟨b, off + 4, none⟩ v).drew.setCell ⟨b, off + 3, none⟩ (.int .u32 1)

def Made (b off : Nat) (v : Value) (R : World → Prop) (e : Ending) (w' : World) : Prop := e = .returned (.tuple #[]) ∧ ∃ w2, R w2 ∧ w' = madeEnd b off v w2

section
variable {P : Program}
theorem run_equalIn_func_nil (w : World) (d : Nat) {t : TypeId} {ps rs : Array TypeId} {vd : Bool} {f : Fn} {fi ca : Array Value} (h : P.underlying t = some (.func ps rs vd)) :
    (Op.equalIn (d + 1) t (.func f fi ca) .nilFunc).run P w = .ok false w := by
  simp [Op.equalIn, run_underlying h]
theorem run_equalIn_nil_func_nil (w : World) (d : Nat) {t : TypeId} {ps rs : Array TypeId} {vd : Bool} (h : P.underlying t = some (.func ps rs vd)) :
    (Op.equalIn (d + 1) t .nilFunc .nilFunc).run P w = .ok true w := by
  simp [Op.equalIn, run_underlying h]
theorem run_neq_func_nil {t : TypeId} {ps rs : Array TypeId} {vd : Bool} (h : P.underlying t = some (.func ps rs vd)) (f : Fn) (fi ca : Array Value) (w : World) :
    (binOp .neq t (.func f fi ca) .nilFunc).run P w = .ok (.bool true) w := by
  simp only [binOp]
  simp [Op.equal, Op.maxDepth, run_equalIn_func_nil w 9999 h]
theorem run_neq_nil_func_nil {t : TypeId} {ps rs : Array TypeId} {vd : Bool} (h : P.underlying t = some (.func ps rs vd)) (w : World) :
    (binOp .neq t .nilFunc .nilFunc).run P w = .ok (.bool false) w := by
  simp only [binOp]
  simp [Op.equal, Op.maxDepth, run_equalIn_nil_func_nil w 9999 h]
end

set_option maxRecDepth 100000 in
set_option maxHeartbeats 800000 in
theorem inner_some (b off g : Nat) (pf pc : Addr) (cap : Array Value) (v : Int) (w : World) (R : World → Prop) (hg : ∀ w, (callFunc g cap).run Try.prog w = .ok (.enter g cap) w)
    (hpf : w.cell? pf = some (.func (.func g) #[] cap)) (hpc : w.cell? pc = some (.pointer (some ⟨b, off, none⟩)))
    (hf : Calls Try.prog g cap w.drew fun e w2 => e = .returned (.int .i64 v) ∧ R w2) (hR : ∀ w2, R w2 → CellKept b off pc w2) :
    Calls Try.prog 37 #[.pointer (some pf), .pointer (some pc)] w (Made b off (.int .i64 v) R) := by
  have hne := run_neq_func_nil (P := Try.prog) Try.underlying46
  have HR := Lib.hid hR
  have HF := Lib.hid hf
  clear hR hf
  go_enter Try.func37, Try.ntmps37
  go_wp2_with fail
  go_region_with (refine (HF.out).mono ?_; rintro e w2 ⟨rfl, hr⟩; have hk := HR.out w2 hr; have k1 := hk.cv; have k4 := hk.c4; obtain ⟨x4, k5⟩ := k4; have k6 := hk.z4; clear hk)
  all_goals
    have e1 : (w2.setCell ⟨b, off + 4, none⟩ (.int .i64 v)).cell? pc = some (.pointer (some ⟨b, off, none⟩)) := by
      by_cases hq : (⟨b, off + 4, none⟩ : Addr) = pc
      · subst hq; exact absurd (HR.out w2 hr).pcn (by simp)
      · exact (World.cell?_setCell_other _ _ _ _ hq).trans k1
    obtain ⟨x3, k3⟩ := (HR.out w2 hr).c3
    have e3 : (w2.setCell ⟨b, off + 4, none⟩ (.int .i64 v)).cell? ⟨b, off + 3, none⟩ = some x3 := (World.cell?_setCell_other _ ⟨b, off + 4, none⟩ ⟨b, off + 3, none⟩ _ (by simp)).trans k3
    have z3 := (HR.out w2 hr).z3
    go_wp2_with (go_at_call 36; refine (store_true ⟨b, off + 3, none⟩ x3 _ e3 (by simp [z3])).mono ?_; rintro e w' ⟨rfl, rfl⟩)
    go_end0
    exact ⟨rfl, w2, hr, rfl⟩

set_option maxRecDepth 100000 in
theorem inner_none (b off : Nat) (pf pc : Addr) (x3 : Value) (w : World)
    (hpf : w.cell? pf = some .nilFunc) (hpc : w.cell? pc = some (.pointer (some ⟨b, off, none⟩))) (c3 : w.cell? ⟨b, off + 3, none⟩ = some x3) (z3 : w.frozen? ⟨b, off + 3, none⟩ = false) :
    Calls Try.prog 37 #[.pointer (some pf), .pointer (some pc)] w fun e w' => e = .returned (.tuple #[]) ∧ w.drew.setCell ⟨b, off + 3, none⟩ (.int .u32 1) = w' := by
  have hne := run_neq_nil_func_nil (P := Try.prog) Try.underlying46
  go_enter Try.func37, Try.ntmps37
  go_wp2_with (go_at_call 36; refine (store_true ⟨b, off + 3, none⟩ x3 _ c3 z3).mono ?_; rintro e w' ⟨rfl, rfl⟩)
  go_end0
  exact ⟨rfl, rfl⟩

/-- The world in which the function that 'Get' is handed is called: two variables for its parameters, the lock taken. -/
def getIn (b off : Nat) (tc tf : TypeId) (fv : Value) (w : World) : World := (((w.alloc (.cells #[.pointer (some ⟨b, off, none⟩)] tc)).alloc (.cells #[fv] tf)).setCell ⟨b, off + 1, none⟩ (.int .i32 1)).drew

def Got (b off : Nat) (v : Value) (R : World → Prop) (e : Ending) (w' : World) : Prop := e = .returned v ∧ ∃ w2, R w2 ∧ w' = onceEnd b off (madeEnd b off v w2)

theorem two_cell (w : World) (A B : Obj) (b o : Nat) (hb : b < w.heap.size) : ((w.alloc A).alloc B).cell? ⟨b, o, none⟩ = w.cell? ⟨b, o, none⟩ := by
  rw [World.cell?_alloc_past _ _ _ (by simp; omega), World.cell?_alloc_past _ _ _ hb]
theorem two_frozen (w : World) (A B : Obj) (b o : Nat) (hb : b < w.heap.size) : ((w.alloc A).alloc B).frozen? ⟨b, o, none⟩ = w.frozen? ⟨b, o, none⟩ := by
  rw [World.frozen?_alloc_past _ _ _ (by simp; omega), World.frozen?_alloc_past _ _ _ hb]
theorem ne_off (b i j : Nat) (h : i ≠ j) : (⟨b, i, none⟩ : Addr) ≠ ⟨b, j, none⟩ := fun e => h (congrArg Addr.off e)
theorem ne_block {b b' : Nat} (i j : Nat) (h : b ≠ b') : (⟨b, i, none⟩ : Addr) ≠ ⟨b', j, none⟩ := fun e => h (congrArg Addr.block e)

theorem kept_made {b off : Nat} {pc : Addr} {w2 : World} (v : Value) (h : CellKept b off pc w2) :
    (madeEnd b off v w2).cell? ⟨b, off, none⟩ = some (.int .u32 0) ∧ (madeEnd b off v w2).cell? ⟨b, off + 1, none⟩ = some (.int .i32 1) ∧ (madeEnd b off v w2).frozen? ⟨b, off, none⟩ = false ∧ (madeEnd b off v w2).frozen? ⟨b, off + 1, none⟩ = false := by
  unfold madeEnd
  refine ⟨?_, ?_, by simp [h.z0], by simp [h.z1]⟩
  · rw [World.cell?_setCell_other _ _ _ _ (ne_off _ _ _ (by omega)), World.cell?_drew, World.cell?_setCell_other _ _ _ _ (ne_off _ _ _ (by omega))]; exact h.c0
  · rw [World.cell?_setCell_other _ _ _ _ (ne_off _ _ _ (by omega)), World.cell?_drew, World.cell?_setCell_other _ _ _ _ (ne_off _ _ _ (by omega))]; exact h.c1

theorem kept_end {b off : Nat} {pc : Addr} {w2 : World} (v : Value) (h : CellKept b off pc w2) :
    (onceEnd b off (madeEnd b off v w2)).cell? pc = some (.pointer (some ⟨b, off, none⟩)) ∧ (onceEnd b off (madeEnd b off v w2)).cell? ⟨b, off + 4, none⟩ = some v := by
  have q : ∀ o, (⟨b, o, none⟩ : Addr) ≠ pc := fun o e => h.pcn (by rw [← e])
  obtain ⟨x, hx⟩ := h.c4
  unfold onceEnd madeEnd
  refine ⟨?_, ?_⟩
  · rw [World.cell?_setCell_other _ _ _ _ (q _), World.cell?_setCell_other _ _ _ _ (q _), World.cell?_drew, World.cell?_setCell_other _ _ _ _ (q _), World.cell?_drew, World.cell?_setCell_other _ _ _ _ (q _)]; exact h.cv
  · rw [World.cell?_setCell_other _ _ _ _ (ne_off _ _ _ (by omega)), World.cell?_setCell_other _ _ _ _ (ne_off _ _ _ (by omega)), World.cell?_drew, World.cell?_setCell_other _ _ _ _ (ne_off _ _ _ (by omega)), World.cell?_drew]; exact World.cell?_setCell_same _ _ _ hx

set_option maxRecDepth 100000 in
set_option maxHeartbeats 800000 in
theorem get_first (b off g : Nat) (cap : Array Value) (v : Int) (w : World) (R : World → Prop) (hb : b < w.heap.size) (hg : ∀ w, (callFunc g cap).run Try.prog w = .ok (.enter g cap) w)
    (h0 : w.cell? ⟨b, off, none⟩ = some (.int .u32 0)) (h1 : w.cell? ⟨b, off + 1, none⟩ = some (.int .i32 0)) (f1 : w.frozen? ⟨b, off + 1, none⟩ = false)
    (hf : Calls Try.prog g cap (getIn b off 42 46 (.func (.func g) #[] cap) w) fun e w2 => e = .returned (.int .i64 v) ∧ R w2) (hR : ∀ w2, R w2 → CellKept b off ⟨w.heap.size, 0, none⟩ w2) :
    Calls Try.prog 13 #[.pointer (some ⟨b, off, none⟩), .func (.func g) #[] cap] w (Got b off (.int .i64 v) R) := by
  have hmf : ∀ (fn : Fn) (first cap : Array Value) (w : World), (Instr.makeFunc fn first cap).run Try.prog w = .ok (.func fn first cap) w := fun _ _ _ _ => rfl
  have HR := Lib.hid hR
  have HF := Lib.hid hf
  clear hR hf
  have q0 := (two_cell w (.cells #[.pointer (some ⟨b, off, none⟩)] 42) (.cells #[.func (.func g) #[] cap] 46) b off hb).trans h0
  have q1 := (two_cell w (.cells #[.pointer (some ⟨b, off, none⟩)] 42) (.cells #[.func (.func g) #[] cap] 46) b (off + 1) hb).trans h1
  have r1 := (two_frozen w (.cells #[.pointer (some ⟨b, off, none⟩)] 42) (.cells #[.func (.func g) #[] cap] 46) b (off + 1) hb).trans f1
  have hg37 : ∀ cap w, (callFunc 37 cap).run Try.prog w = .ok (.enter 37 cap) w := fun cap w => run_callFunc_enter Try.func37 (by kernel_rfl) rfl cap w
  have hin := inner_some b off g ⟨w.heap.size + 1, 0, none⟩ ⟨w.heap.size, 0, none⟩ cap v (((w.alloc (.cells #[.pointer (some ⟨b, off, none⟩)] 42)).alloc (.cells #[.func (.func g) #[] cap] 46)).setCell ⟨b, off + 1, none⟩ (.int .i32 1)) R hg
    (by rw [World.cell?_setCell_other _ _ _ _ (ne_block _ _ (by omega))]; simp) (by rw [World.cell?_setCell_other _ _ _ _ (ne_block _ _ (by omega))]; simp) HF.out HR.out
  have hdo := do_first b off 37 #[.pointer (some ⟨w.heap.size + 1, 0, none⟩), .pointer (some ⟨w.heap.size, 0, none⟩)] _ _ (hg37 _) q0 q1 r1 hin (fun w2 ⟨w3, h3, e3⟩ => by rw [e3]; exact kept_made _ (HR.out w3 h3))
  have HDO := Lib.hid hdo
  clear hin hdo hg37 q0 q1 r1 h0 h1 f1 hg
  go_enter Try.func13, Try.ntmps13
  go_wp2_with fail
  refine HDO.out.mono ?_
  rintro e w' ⟨rfl, w3, ⟨w2, hr, rfl⟩, rfl⟩
  obtain ⟨k1, k2⟩ := kept_end (.int .i64 v) (HR.out w2 hr)
  go_wp2
  go_ret
  exact ⟨rfl, w2, hr, rfl⟩

/-- The world behind a first 'Get' of no function. -/
def noneEnd (b off : Nat) (tc tf : TypeId) (w : World) : World :=
  onceEnd b off ((((w.alloc (.cells #[.pointer (some ⟨b, off, none⟩)] tc)).alloc (.cells #[.nilFunc] tf)).setCell ⟨b, off + 1, none⟩ (.int .i32 1)).drew.setCell ⟨b, off + 3, none⟩ (.int .u32 1))

set_option maxRecDepth 100000 in
set_option maxHeartbeats 800000 in
theorem get_none (b off : Nat) (x3 v : Value) (w : World) (hb : b < w.heap.size)
    (h0 : w.cell? ⟨b, off, none⟩ = some (.int .u32 0)) (h1 : w.cell? ⟨b, off + 1, none⟩ = some (.int .i32 0)) (h3 : w.cell? ⟨b, off + 3, none⟩ = some x3) (h4 : w.cell? ⟨b, off + 4, none⟩ = some v)
    (f0 : w.frozen? ⟨b, off, none⟩ = false) (f1 : w.frozen? ⟨b, off + 1, none⟩ = false) (f3 : w.frozen? ⟨b, off + 3, none⟩ = false) :
    Calls Try.prog 13 #[.pointer (some ⟨b, off, none⟩), .nilFunc] w fun e w' => e = .returned v ∧ noneEnd b off 42 46 w = w' := by
  have hmf : ∀ (fn : Fn) (first cap : Array Value) (w : World), (Instr.makeFunc fn first cap).run Try.prog w = .ok (.func fn first cap) w := fun _ _ _ _ => rfl
  have q0 := (two_cell w (.cells #[.pointer (some ⟨b, off, none⟩)] 42) (.cells #[.nilFunc] 46) b off hb).trans h0
  have q1 := (two_cell w (.cells #[.pointer (some ⟨b, off, none⟩)] 42) (.cells #[.nilFunc] 46) b (off + 1) hb).trans h1
  have q3 := (two_cell w (.cells #[.pointer (some ⟨b, off, none⟩)] 42) (.cells #[.nilFunc] 46) b (off + 3) hb).trans h3
  have q4 := (two_cell w (.cells #[.pointer (some ⟨b, off, none⟩)] 42) (.cells #[.nilFunc] 46) b (off + 4) hb).trans h4
  have r0 := (two_frozen w (.cells #[.pointer (some ⟨b, off, none⟩)] 42) (.cells #[.nilFunc] 46) b off hb).trans f0
  have r1 := (two_frozen w (.cells #[.pointer (some ⟨b, off, none⟩)] 42) (.cells #[.nilFunc] 46) b (off + 1) hb).trans f1
  have r3 := (two_frozen w (.cells #[.pointer (some ⟨b, off, none⟩)] 42) (.cells #[.nilFunc] 46) b (off + 3) hb).trans f3
  have hg37 : ∀ cap w, (callFunc 37 cap).run Try.prog w = .ok (.enter 37 cap) w := fun cap w => run_callFunc_enter Try.func37 (by kernel_rfl) rfl cap w
  have hin := inner_none b off ⟨w.heap.size + 1, 0, none⟩ ⟨w.heap.size, 0, none⟩ x3 (((w.alloc (.cells #[.pointer (some ⟨b, off, none⟩)] 42)).alloc (.cells #[.nilFunc] 46)).setCell ⟨b, off + 1, none⟩ (.int .i32 1))
    (by rw [World.cell?_setCell_other _ _ _ _ (ne_block _ _ (by omega))]; simp) (by rw [World.cell?_setCell_other _ _ _ _ (ne_block _ _ (by omega))]; simp)
    ((World.cell?_setCell_other _ _ _ _ (ne_off _ _ _ (by omega))).trans q3) (by simpa using r3)
  have hdo := do_first b off 37 #[.pointer (some ⟨w.heap.size + 1, 0, none⟩), .pointer (some ⟨w.heap.size, 0, none⟩)] _ (fun w3 => _ = w3) (hg37 _) q0 q1 r1 hin (fun w2 e2 => by
    subst e2
    refine ⟨?_, ?_, by simpa using r0, by simpa using r1⟩
    · rw [World.cell?_setCell_other _ _ _ _ (ne_off _ _ _ (by omega)), World.cell?_drew, World.cell?_setCell_other _ _ _ _ (ne_off _ _ _ (by omega))]; exact q0
    · rw [World.cell?_setCell_other _ _ _ _ (ne_off _ _ _ (by omega)), World.cell?_drew]; exact World.cell?_setCell_same _ _ _ q1)
  have e4 : (noneEnd b off 42 46 w).cell? ⟨b, off + 4, none⟩ = some v := by
    unfold noneEnd onceEnd
    rw [World.cell?_setCell_other _ _ _ _ (ne_off _ _ _ (by omega)), World.cell?_setCell_other _ _ _ _ (ne_off _ _ _ (by omega)), World.cell?_drew, World.cell?_setCell_other _ _ _ _ (ne_off _ _ _ (by omega)), World.cell?_drew, World.cell?_setCell_other _ _ _ _ (ne_off _ _ _ (by omega))]
    exact q4
  have ec : (noneEnd b off 42 46 w).cell? ⟨w.heap.size, 0, none⟩ = some (.pointer (some ⟨b, off, none⟩)) := by
    unfold noneEnd onceEnd
    rw [World.cell?_setCell_other _ _ _ _ (ne_block _ _ (by omega)), World.cell?_setCell_other _ _ _ _ (ne_block _ _ (by omega)), World.cell?_drew, World.cell?_setCell_other _ _ _ _ (ne_block _ _ (by omega)), World.cell?_drew, World.cell?_setCell_other _ _ _ _ (ne_block _ _ (by omega))]
    simp
  have HDO := Lib.hid (hdo.mono (R' := fun e w' => e = .returned (.tuple #[]) ∧ noneEnd b off 42 46 w = w') fun e w' ⟨h, w2, h2, h3⟩ => ⟨h, by subst h2; exact h3.symm⟩)
  clear hin hdo hg37 q0 q1 q3 q4 r0 r1 r3 h0 h1 h3 h4 f0 f1 f3
  go_enter Try.func13, Try.ntmps13
  go_wp2_with fail
  refine HDO.out.mono ?_
  rintro e w' ⟨rfl, rfl⟩
  go_wp2
  go_ret
  exact ⟨rfl, rfl⟩

/-- 'Get' of a cell that is made: no function is called. -/
theorem get_done (b off : Nat) (f : Fn) (fi cap : Array Value) (v : Value) (w : World) (hb : b < w.heap.size)
    (h0 : w.cell? ⟨b, off, none⟩ = some (.int .u32 1)) (h4 : w.cell? ⟨b, off + 4, none⟩ = some v) :
    Calls Try.prog 13 #[.pointer (some ⟨b, off, none⟩), .func f fi cap] w fun e w' => e = .returned v ∧ (w.alloc (.cells #[.pointer (some ⟨b, off, none⟩)] 42)).alloc (.cells #[.func f fi cap] 46) = w' := by
  have hmf : ∀ (fn : Fn) (first cap : Array Value) (w : World), (Instr.makeFunc fn first cap).run Try.prog w = .ok (.func fn first cap) w := fun _ _ _ _ => rfl
  have q0 := (two_cell w (.cells #[.pointer (some ⟨b, off, none⟩)] 42) (.cells #[.func f fi cap] 46) b off hb).trans h0
  have q4 := (two_cell w (.cells #[.pointer (some ⟨b, off, none⟩)] 42) (.cells #[.func f fi cap] 46) b (off + 4) hb).trans h4
  go_enter Try.func13, Try.ntmps13
  go_wp2_with (go_at_call 34; refine (do_done _ _ _ q0).mono ?_; rintro e w' ⟨rfl, rfl⟩)
  go_ret
  exact ⟨rfl, rfl⟩

theorem get_done_nil (b off : Nat) (v : Value) (w : World) (hb : b < w.heap.size)
    (h0 : w.cell? ⟨b, off, none⟩ = some (.int .u32 1)) (h4 : w.cell? ⟨b, off + 4, none⟩ = some v) :
    Calls Try.prog 13 #[.pointer (some ⟨b, off, none⟩), .nilFunc] w fun e w' => e = .returned v ∧ (w.alloc (.cells #[.pointer (some ⟨b, off, none⟩)] 42)).alloc (.cells #[.nilFunc] 46) = w' := by
  have hmf : ∀ (fn : Fn) (first cap : Array Value) (w : World), (Instr.makeFunc fn first cap).run Try.prog w = .ok (.func fn first cap) w := fun _ _ _ _ => rfl
  have q0 := (two_cell w (.cells #[.pointer (some ⟨b, off, none⟩)] 42) (.cells #[.nilFunc] 46) b off hb).trans h0
  have q4 := (two_cell w (.cells #[.pointer (some ⟨b, off, none⟩)] 42) (.cells #[.nilFunc] 46) b (off + 4) hb).trans h4
  go_enter Try.func13, Try.ntmps13
  go_wp2_with (go_at_call 34; refine (do_done _ _ _ q0).mono ?_; rintro e w' ⟨rfl, rfl⟩)
  go_ret
  exact ⟨rfl, rfl⟩

end Go.Proofs.Ytlcjhnbnjhgklaa
