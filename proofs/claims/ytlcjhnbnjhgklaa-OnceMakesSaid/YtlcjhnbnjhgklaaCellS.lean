/- A cell of package once, of texts: what is shown of a cell of ints, shown anew of a cell of texts. Conditions: one goroutine; the cell's lock is free. -/
import Derived.Test.YtlcjhnbnjhgklaaAlive
namespace Go.Proofs.Ytlcjhnbnjhgklaa
open Go.RowKit Go.MuLone


set_option maxRecDepth 100000 in
set_option maxHeartbeats 800000 in
theorem s_inner_some (b off g : Nat) (pf pc : Addr) (cap : Array Value) (v : ByteArray) (w : World) (R : World → Prop) (hg : ∀ w, (callFunc g cap).run Try.prog w = .ok (.enter g cap) w)
    (hpf : w.cell? pf = some (.func (.func g) #[] cap)) (hpc : w.cell? pc = some (.pointer (some ⟨b, off, none⟩)))
    (hf : Calls Try.prog g cap w.drew fun e w2 => e = .returned (.string v) ∧ R w2) (hR : ∀ w2, R w2 → CellKept b off pc w2) :
    Calls Try.prog 35 #[.pointer (some pf), .pointer (some pc)] w (Made b off (.string v) R) := by
  have hne := run_neq_func_nil (P := Try.prog) Try.underlying40
  have HR := Lib.hid hR
  have HF := Lib.hid hf
  clear hR hf
  go_enter Try.func35, Try.ntmps35
  go_wp2_with fail
  go_region_with (refine (HF.out).mono ?_; rintro e w2 ⟨rfl, hr⟩; have hk := HR.out w2 hr; have k1 := hk.cv; have k4 := hk.c4; obtain ⟨x4, k5⟩ := k4; have k6 := hk.z4; clear hk)
  all_goals
    have e1 : (w2.setCell ⟨b, off + 4, none⟩ (.string v)).cell? pc = some (.pointer (some ⟨b, off, none⟩)) := by
      by_cases hq : (⟨b, off + 4, none⟩ : Addr) = pc
      · subst hq; exact absurd (HR.out w2 hr).pcn (by simp)
      · exact (World.cell?_setCell_other _ _ _ _ hq).trans k1
    obtain ⟨x3, k3⟩ := (HR.out w2 hr).c3
    have e3 : (w2.setCell ⟨b, off + 4, none⟩ (.string v)).cell? ⟨b, off + 3, none⟩ = some x3 := (World.cell?_setCell_other _ ⟨b, off + 4, none⟩ ⟨b, off + 3, none⟩ _ (by simp)).trans k3
    have z3 := (HR.out w2 hr).z3
    go_wp2_with (go_at_call 36; refine (store_true ⟨b, off + 3, none⟩ x3 _ e3 (by simp [z3])).mono ?_; rintro e w' ⟨rfl, rfl⟩)
    go_end0
    exact ⟨rfl, w2, hr, rfl⟩

set_option maxRecDepth 100000 in
theorem s_inner_none (b off : Nat) (pf pc : Addr) (x3 : Value) (w : World)
    (hpf : w.cell? pf = some .nilFunc) (hpc : w.cell? pc = some (.pointer (some ⟨b, off, none⟩))) (c3 : w.cell? ⟨b, off + 3, none⟩ = some x3) (z3 : w.frozen? ⟨b, off + 3, none⟩ = false) :
    Calls Try.prog 35 #[.pointer (some pf), .pointer (some pc)] w fun e w' => e = .returned (.tuple #[]) ∧ w.drew.setCell ⟨b, off + 3, none⟩ (.int .u32 1) = w' := by
  have hne := run_neq_nil_func_nil (P := Try.prog) Try.underlying40
  go_enter Try.func35, Try.ntmps35
  go_wp2_with (go_at_call 36; refine (store_true ⟨b, off + 3, none⟩ x3 _ c3 z3).mono ?_; rintro e w' ⟨rfl, rfl⟩)
  go_end0
  exact ⟨rfl, rfl⟩

set_option maxRecDepth 100000 in
set_option maxHeartbeats 800000 in
theorem s_get_first (b off g : Nat) (cap : Array Value) (v : ByteArray) (w : World) (R : World → Prop) (hb : b < w.heap.size) (hg : ∀ w, (callFunc g cap).run Try.prog w = .ok (.enter g cap) w)
    (h0 : w.cell? ⟨b, off, none⟩ = some (.int .u32 0)) (h1 : w.cell? ⟨b, off + 1, none⟩ = some (.int .i32 0)) (f1 : w.frozen? ⟨b, off + 1, none⟩ = false)
    (hf : Calls Try.prog g cap (getIn b off 24 40 (.func (.func g) #[] cap) w) fun e w2 => e = .returned (.string v) ∧ R w2) (hR : ∀ w2, R w2 → CellKept b off ⟨w.heap.size, 0, none⟩ w2) :
    Calls Try.prog 11 #[.pointer (some ⟨b, off, none⟩), .func (.func g) #[] cap] w (Got b off (.string v) R) := by
  have hmf : ∀ (fn : Fn) (first cap : Array Value) (w : World), (Instr.makeFunc fn first cap).run Try.prog w = .ok (.func fn first cap) w := fun _ _ _ _ => rfl
  have HR := Lib.hid hR
  have HF := Lib.hid hf
  clear hR hf
  have q0 := (two_cell w (.cells #[.pointer (some ⟨b, off, none⟩)] 24) (.cells #[.func (.func g) #[] cap] 40) b off hb).trans h0
  have q1 := (two_cell w (.cells #[.pointer (some ⟨b, off, none⟩)] 24) (.cells #[.func (.func g) #[] cap] 40) b (off + 1) hb).trans h1
  have r1 := (two_frozen w (.cells #[.pointer (some ⟨b, off, none⟩)] 24) (.cells #[.func (.func g) #[] cap] 40) b (off + 1) hb).trans f1
  have hg35 : ∀ cap w, (callFunc 35 cap).run Try.prog w = .ok (.enter 35 cap) w := fun cap w => run_callFunc_enter Try.func35 (by kernel_rfl) rfl cap w
  have hin := s_inner_some b off g ⟨w.heap.size + 1, 0, none⟩ ⟨w.heap.size, 0, none⟩ cap v (((w.alloc (.cells #[.pointer (some ⟨b, off, none⟩)] 24)).alloc (.cells #[.func (.func g) #[] cap] 40)).setCell ⟨b, off + 1, none⟩ (.int .i32 1)) R hg
    (by rw [World.cell?_setCell_other _ _ _ _ (ne_block _ _ (by omega))]; simp) (by rw [World.cell?_setCell_other _ _ _ _ (ne_block _ _ (by omega))]; simp) HF.out HR.out
  have hdo := do_first b off 35 #[.pointer (some ⟨w.heap.size + 1, 0, none⟩), .pointer (some ⟨w.heap.size, 0, none⟩)] _ _ (hg35 _) q0 q1 r1 hin (fun w2 ⟨w3, h3, e3⟩ => by rw [e3]; exact kept_made _ (HR.out w3 h3))
  have HDO := Lib.hid hdo
  clear hin hdo hg35 q0 q1 r1 h0 h1 f1 hg
  go_enter Try.func11, Try.ntmps11
  go_wp2_with fail
  refine HDO.out.mono ?_
  rintro e w' ⟨rfl, w3, ⟨w2, hr, rfl⟩, rfl⟩
  obtain ⟨k1, k2⟩ := kept_end (.string v) (HR.out w2 hr)
  go_wp2
  go_ret
  exact ⟨rfl, w2, hr, rfl⟩

set_option maxRecDepth 100000 in
set_option maxHeartbeats 800000 in
theorem s_get_none (b off : Nat) (x3 v : Value) (w : World) (hb : b < w.heap.size)
    (h0 : w.cell? ⟨b, off, none⟩ = some (.int .u32 0)) (h1 : w.cell? ⟨b, off + 1, none⟩ = some (.int .i32 0)) (h3 : w.cell? ⟨b, off + 3, none⟩ = some x3) (h4 : w.cell? ⟨b, off + 4, none⟩ = some v)
    (f0 : w.frozen? ⟨b, off, none⟩ = false) (f1 : w.frozen? ⟨b, off + 1, none⟩ = false) (f3 : w.frozen? ⟨b, off + 3, none⟩ = false) :
    Calls Try.prog 11 #[.pointer (some ⟨b, off, none⟩), .nilFunc] w fun e w' => e = .returned v ∧ noneEnd b off 24 40 w = w' := by
  have hmf : ∀ (fn : Fn) (first cap : Array Value) (w : World), (Instr.makeFunc fn first cap).run Try.prog w = .ok (.func fn first cap) w := fun _ _ _ _ => rfl
  have q0 := (two_cell w (.cells #[.pointer (some ⟨b, off, none⟩)] 24) (.cells #[.nilFunc] 40) b off hb).trans h0
  have q1 := (two_cell w (.cells #[.pointer (some ⟨b, off, none⟩)] 24) (.cells #[.nilFunc] 40) b (off + 1) hb).trans h1
  have q3 := (two_cell w (.cells #[.pointer (some ⟨b, off, none⟩)] 24) (.cells #[.nilFunc] 40) b (off + 3) hb).trans h3
  have q4 := (two_cell w (.cells #[.pointer (some ⟨b, off, none⟩)] 24) (.cells #[.nilFunc] 40) b (off + 4) hb).trans h4
  have r0 := (two_frozen w (.cells #[.pointer (some ⟨b, off, none⟩)] 24) (.cells #[.nilFunc] 40) b off hb).trans f0
  have r1 := (two_frozen w (.cells #[.pointer (some ⟨b, off, none⟩)] 24) (.cells #[.nilFunc] 40) b (off + 1) hb).trans f1
  have r3 := (two_frozen w (.cells #[.pointer (some ⟨b, off, none⟩)] 24) (.cells #[.nilFunc] 40) b (off + 3) hb).trans f3
  have hg35 : ∀ cap w, (callFunc 35 cap).run Try.prog w = .ok (.enter 35 cap) w := fun cap w => run_callFunc_enter Try.func35 (by kernel_rfl) rfl cap w
  have hin := s_inner_none b off ⟨w.heap.size + 1, 0, none⟩ ⟨w.heap.size, 0, none⟩ x3 (((w.alloc (.cells #[.pointer (some ⟨b, off, none⟩)] 24)).alloc (.cells #[.nilFunc] 40)).setCell ⟨b, off + 1, none⟩ (.int .i32 1))
    (by rw [World.cell?_setCell_other _ _ _ _ (ne_block _ _ (by omega))]; simp) (by rw [World.cell?_setCell_other _ _ _ _ (ne_block _ _ (by omega))]; simp)
    ((World.cell?_setCell_other _ _ _ _ (ne_off _ _ _ (by omega))).trans q3) (by simpa using r3)
  have hdo := do_first b off 35 #[.pointer (some ⟨w.heap.size + 1, 0, none⟩), .pointer (some ⟨w.heap.size, 0, none⟩)] _ (fun w3 => _ = w3) (hg35 _) q0 q1 r1 hin (fun w2 e2 => by
    subst e2
    refine ⟨?_, ?_, by simpa using r0, by simpa using r1⟩
    · rw [World.cell?_setCell_other _ _ _ _ (ne_off _ _ _ (by omega)), World.cell?_drew, World.cell?_setCell_other _ _ _ _ (ne_off _ _ _ (by omega))]; exact q0
    · rw [World.cell?_setCell_other _ _ _ _ (ne_off _ _ _ (by omega)), World.cell?_drew]; exact World.cell?_setCell_same _ _ _ q1)
  have e4 : (noneEnd b off 24 40 w).cell? ⟨b, off + 4, none⟩ = some v := by
    unfold noneEnd onceEnd
    rw [World.cell?_setCell_other _ _ _ _ (ne_off _ _ _ (by omega)), World.cell?_setCell_other _ _ _ _ (ne_off _ _ _ (by omega)), World.cell?_drew, World.cell?_setCell_other _ _ _ _ (ne_off _ _ _ (by omega)), World.cell?_drew, World.cell?_setCell_other _ _ _ _ (ne_off _ _ _ (by omega))]
    exact q4
  have ec : (noneEnd b off 24 40 w).cell? ⟨w.heap.size, 0, none⟩ = some (.pointer (some ⟨b, off, none⟩)) := by
    unfold noneEnd onceEnd
    rw [World.cell?_setCell_other _ _ _ _ (ne_block _ _ (by omega)), World.cell?_setCell_other _ _ _ _ (ne_block _ _ (by omega)), World.cell?_drew, World.cell?_setCell_other _ _ _ _ (ne_block _ _ (by omega)), World.cell?_drew, World.cell?_setCell_other _ _ _ _ (ne_block _ _ (by omega))]
    simp
  have HDO := Lib.hid (hdo.mono (R' := fun e w' => e = .returned (.tuple #[]) ∧ noneEnd b off 24 40 w = w') fun e w' ⟨h, w2, h2, h3⟩ => ⟨h, by subst h2; exact h3.symm⟩)
  clear hin hdo hg35 q0 q1 q3 q4 r0 r1 r3 h0 h1 h3 h4 f0 f1 f3
  go_enter Try.func11, Try.ntmps11
  go_wp2_with fail
  refine HDO.out.mono ?_
  rintro e w' ⟨rfl, rfl⟩
  go_wp2
  go_ret
  exact ⟨rfl, rfl⟩

/-- 'Get' of a cell that is made: no function is called. -/
theorem s_get_done (b off : Nat) (f : Fn) (fi cap : Array Value) (v : Value) (w : World) (hb : b < w.heap.size)
    (h0 : w.cell? ⟨b, off, none⟩ = some (.int .u32 1)) (h4 : w.cell? ⟨b, off + 4, none⟩ = some v) :
    Calls Try.prog 11 #[.pointer (some ⟨b, off, none⟩), .func f fi cap] w fun e w' => e = .returned v ∧ (w.alloc (.cells #[.pointer (some ⟨b, off, none⟩)] 24)).alloc (.cells #[.func f fi cap] 40) = w' := by
  have hmf : ∀ (fn : Fn) (first cap : Array Value) (w : World), (Instr.makeFunc fn first cap).run Try.prog w = .ok (.func fn first cap) w := fun _ _ _ _ => rfl
  have q0 := (two_cell w (.cells #[.pointer (some ⟨b, off, none⟩)] 24) (.cells #[.func f fi cap] 40) b off hb).trans h0
  have q4 := (two_cell w (.cells #[.pointer (some ⟨b, off, none⟩)] 24) (.cells #[.func f fi cap] 40) b (off + 4) hb).trans h4
  go_enter Try.func11, Try.ntmps11
  go_wp2_with (go_at_call 34; refine (do_done _ _ _ q0).mono ?_; rintro e w' ⟨rfl, rfl⟩)
  go_ret
  exact ⟨rfl, rfl⟩

theorem s_get_facts (b off g : Nat) (cap : Array Value) (v : ByteArray) (v0 : Value) (w : World) (S : Nat → Prop) (F : World → Prop) (hg : ∀ w, (callFunc g cap).run Try.prog w = .ok (.enter g cap) w) (h : CellIs w b off 0 v0)
    (hS : ¬ S b) (hS' : ∀ k, S k → k < w.heap.size)
    (hf : ∀ w1, Only (fun k => k = b) w w1 → w.heap.size < w1.heap.size → Calls Try.prog g cap w1 fun e w2 => e = .returned (.string v) ∧ Only S w1 w2 ∧ F w2)
    (hF : ∀ w2 w', F w2 → Only (fun k => k = b) w2 w' → F w') :
    Calls Try.prog 11 #[.pointer (some ⟨b, off, none⟩), .func (.func g) #[] cap] w fun e w' => e = .returned (.string v) ∧ CellIs w' b off 1 (.string v) ∧ F w' ∧ Only (fun k => k = b ∨ S k) w w' := by
  have hb := lt_of_cell h.c0
  have hk := getIn_kept b off 24 40 (.func (.func g) #[] cap) v0 w h
  have ho := getIn_only b off 24 40 (.func (.func g) #[] cap) w
  have hk2 : ∀ w2, Only S (getIn b off 24 40 (.func (.func g) #[] cap) w) w2 → CellKept b off ⟨w.heap.size, 0, none⟩ w2 := fun w2 o => hk.only o hS (fun q => by have := hS' _ q; simp at this)
  refine (s_get_first b off g cap v w (fun w2 => Only S (getIn b off 24 40 (.func (.func g) #[] cap) w) w2 ∧ F w2) hb hg h.c0 h.c1 h.z1 (hf _ ho (by rw [getIn_size]; omega)) (fun w2 q => hk2 w2 q.1)).mono ?_
  rintro e w' ⟨rfl, w2, ⟨o2, f2⟩, rfl⟩
  refine ⟨rfl, got_is _ (hk2 w2 o2), hF _ _ f2 (got_only _ _ _ _), ?_⟩
  exact ((ho.mono fun _ _ h => .inl h).trans o2 (fun _ _ h => .inr h)).trans (got_only _ _ _ _) fun _ _ h => .inl h


theorem s_done (b off : Nat) (f : Fn) (fi cap : Array Value) (v : Value) (w : World) (h : CellIs w b off 1 v) :
    Calls Try.prog 11 #[.pointer (some ⟨b, off, none⟩), .func f fi cap] w fun e w' => e = .returned v ∧ Only (fun _ => False) w w' := by
  refine (s_get_done b off f fi cap v w (lt_of_cell h.c0) h.c0 h.c4).mono ?_
  rintro e w' ⟨rfl, rfl⟩
  exact ⟨rfl, ((Only.refl _ w).alloc _).alloc _⟩

theorem s_made (b off : Nat) (x : Int) (t : Bool) (w : World) (hc : w.cell? ⟨b, off + 3, none⟩ = some (.int .u32 x)) (ht : (x != 0) = t) :
    Calls Try.prog 10 #[.pointer (some ⟨b, off, none⟩)] w fun e w' => e = .returned (.bool t) ∧ w = w' := by
  go_enter Try.func10, Try.ntmps10
  go_wp2_with (go_at_call 33; refine (bool_load _ x t _ hc ht).mono ?_; rintro e w' ⟨rfl, rfl⟩)
  go_ret
  exact ⟨rfl, rfl⟩

/-- A first 'Get' of no function: nothing is kept but the zero. -/
theorem s_none (b off : Nat) (v : Value) (w : World) (h : CellIs w b off 0 v) :
    Calls Try.prog 11 #[.pointer (some ⟨b, off, none⟩), .nilFunc] w fun e w' => e = .returned v ∧ CellIs w' b off 1 v ∧ Only (fun k => k = b) w w' := by
  have hb := lt_of_cell h.c0
  refine (s_get_none b off _ v w hb h.c0 h.c1 h.c3 h.c4 h.z0 h.z1 h.z3).mono ?_
  rintro e w' ⟨rfl, rfl⟩
  have f : ∀ o, (noneEnd b off 24 40 w).frozen? ⟨b, o, none⟩ = w.frozen? ⟨b, o, none⟩ := fun o => by simp only [noneEnd, onceEnd, World.frozen?_drew, World.frozen?_setCell, two_frozen _ _ _ _ _ hb]
  refine ⟨rfl, ⟨?_, ?_, ?_, ?_, (f _).trans h.z0, (f _).trans h.z1, (f _).trans h.z3, (f _).trans h.z4⟩, ?_⟩
  · unfold noneEnd onceEnd
    rw [World.cell?_setCell_other _ _ _ _ (ne_off _ _ _ (by omega))]
    refine same_cell (u := .int .u32 0) ?_ _
    rw [World.cell?_drew, World.cell?_setCell_other _ _ _ _ (ne_off _ _ _ (by omega)), World.cell?_drew, World.cell?_setCell_other _ _ _ _ (ne_off _ _ _ (by omega)), two_cell _ _ _ _ _ hb]
    exact h.c0
  · unfold noneEnd onceEnd
    refine same_cell (u := .int .i32 1) ?_ _
    rw [World.cell?_setCell_other _ _ _ _ (ne_off _ _ _ (by omega)), World.cell?_drew, World.cell?_setCell_other _ _ _ _ (ne_off _ _ _ (by omega)), World.cell?_drew]
    exact same_cell ((two_cell _ _ _ _ _ hb).trans h.c1) _
  · unfold noneEnd onceEnd
    rw [World.cell?_setCell_other _ _ _ _ (ne_off _ _ _ (by omega)), World.cell?_setCell_other _ _ _ _ (ne_off _ _ _ (by omega)), World.cell?_drew]
    refine same_cell (u := .int .u32 0) ?_ _
    rw [World.cell?_drew, World.cell?_setCell_other _ _ _ _ (ne_off _ _ _ (by omega)), two_cell _ _ _ _ _ hb]
    exact h.c3
  · unfold noneEnd onceEnd
    rw [World.cell?_setCell_other _ _ _ _ (ne_off _ _ _ (by omega)), World.cell?_setCell_other _ _ _ _ (ne_off _ _ _ (by omega)), World.cell?_drew, World.cell?_setCell_other _ _ _ _ (ne_off _ _ _ (by omega)), World.cell?_drew, World.cell?_setCell_other _ _ _ _ (ne_off _ _ _ (by omega)), two_cell _ _ _ _ _ hb]
    exact h.c4
  · unfold noneEnd onceEnd
    exact ((((((((Only.refl (fun k => k = b) w).alloc _).alloc _).put b (off + 1) rfl _).drew).put b (off + 3) rfl _).drew).put b off rfl _).put b (off + 1) rfl _
end Go.Proofs.Ytlcjhnbnjhgklaa
