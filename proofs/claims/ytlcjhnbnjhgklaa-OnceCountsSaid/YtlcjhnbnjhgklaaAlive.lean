/- 'alive': the statements' first call, whose answer is always true; and what a cell is, said by facts. Conditions: one goroutine. -/
import Derived.Test.YtlcjhnbnjhgklaaPins
namespace Go.Proofs.Ytlcjhnbnjhgklaa
open Go.RowKit Go.MuLone

/-- A cell at rest: not made (d = 0) or made (d = 1). -/
structure CellIs (w : World) (b off : Nat) (d : Int) (v : Value) : Prop where
  c0 : w.cell? ⟨b, off, none⟩ = some (.int .u32 d)
  c1 : w.cell? ⟨b, off + 1, none⟩ = some (.int .i32 0)
  c3 : w.cell? ⟨b, off + 3, none⟩ = some (.int .u32 d)
  c4 : w.cell? ⟨b, off + 4, none⟩ = some v
  z0 : w.frozen? ⟨b, off, none⟩ = false
  z1 : w.frozen? ⟨b, off + 1, none⟩ = false
  z3 : w.frozen? ⟨b, off + 3, none⟩ = false
  z4 : w.frozen? ⟨b, off + 4, none⟩ = false

theorem CellIs.only {w w' : World} {b off : Nat} {d : Int} {v : Value} {S : Nat → Prop} (h : CellIs w b off d v) (ho : Only S w w') (hb : ¬ S b) : CellIs w' b off d v := by
  have hl := lt_of_cell h.c0
  exact ⟨(ho.cell hl hb).trans h.c0, (ho.cell hl hb).trans h.c1, (ho.cell hl hb).trans h.c3, (ho.cell hl hb).trans h.c4, (ho.frozen hl hb).trans h.z0, (ho.frozen hl hb).trans h.z1, (ho.frozen hl hb).trans h.z3, (ho.frozen hl hb).trans h.z4⟩
theorem CellKept.only {w w' : World} {b off : Nat} {pc : Addr} {S : Nat → Prop} (h : CellKept b off pc w) (ho : Only S w w') (hb : ¬ S b) (hp : ¬ S pc.block) : CellKept b off pc w' := by
  have hl := lt_of_cell h.c0
  obtain ⟨x3, h3⟩ := h.c3
  obtain ⟨x4, h4⟩ := h.c4
  have hq : pc.block < w.heap.size := by
    have := h.cv
    simp only [World.cell?] at this
    by_cases hb : pc.block < w.heap.size
    · exact hb
    · rw [Array.getElem?_eq_none (by omega)] at this; simp at this
  exact ⟨(ho.cell hl hb).trans h.c0, (ho.cell hl hb).trans h.c1, ⟨x3, (ho.cell hl hb).trans h3⟩, ⟨x4, (ho.cell hl hb).trans h4⟩, (ho.frozen hl hb).trans h.z0, (ho.frozen hl hb).trans h.z1, (ho.frozen hl hb).trans h.z3, (ho.frozen hl hb).trans h.z4, (ho.cell hq hp).trans h.cv, h.pcn⟩

theorem getIn_only (b off : Nat) (tc tf : TypeId) (fv : Value) (w : World) : Only (fun k => k = b) w (getIn b off tc tf fv w) :=
  ((((Only.refl (fun k => k = b) w).alloc _).alloc _).put b (off + 1) rfl _).drew
theorem getIn_size (b off : Nat) (tc tf : TypeId) (fv : Value) (w : World) : (getIn b off tc tf fv w).heap.size = w.heap.size + 2 := by
  unfold getIn; simp [World.setCell]
theorem getIn_kept (b off : Nat) (tc tf : TypeId) (fv v : Value) (w : World) (h : CellIs w b off 0 v) : CellKept b off ⟨w.heap.size, 0, none⟩ (getIn b off tc tf fv w) := by
  have hb := lt_of_cell h.c0
  unfold getIn
  refine ⟨?_, ?_, ⟨.int .u32 0, ?_⟩, ⟨v, ?_⟩, ?_, ?_, ?_, ?_, ?_, by simp; omega⟩
  · rw [World.cell?_drew, World.cell?_setCell_other _ _ _ _ (ne_off _ _ _ (by omega)), two_cell _ _ _ _ _ hb]; exact h.c0
  · rw [World.cell?_drew]; exact World.cell?_setCell_same _ _ _ ((two_cell _ _ _ _ _ hb).trans h.c1)
  · rw [World.cell?_drew, World.cell?_setCell_other _ _ _ _ (ne_off _ _ _ (by omega)), two_cell _ _ _ _ _ hb]; exact h.c3
  · rw [World.cell?_drew, World.cell?_setCell_other _ _ _ _ (ne_off _ _ _ (by omega)), two_cell _ _ _ _ _ hb]; exact h.c4
  · simp only [World.frozen?_drew, World.frozen?_setCell, two_frozen _ _ _ _ _ hb]; exact h.z0
  · simp only [World.frozen?_drew, World.frozen?_setCell, two_frozen _ _ _ _ _ hb]; exact h.z1
  · simp only [World.frozen?_drew, World.frozen?_setCell, two_frozen _ _ _ _ _ hb]; exact h.z3
  · simp only [World.frozen?_drew, World.frozen?_setCell, two_frozen _ _ _ _ _ hb]; exact h.z4
  · rw [World.cell?_drew, World.cell?_setCell_other _ _ _ _ (ne_block _ _ (by omega))]; simp

theorem got_only (b off : Nat) (v : Value) (w2 : World) : Only (fun k => k = b) w2 (onceEnd b off (madeEnd b off v w2)) :=
  ((((((Only.refl (fun k => k = b) w2).put b (off + 4) rfl _).drew).put b (off + 3) rfl _).drew).put b off rfl _).put b (off + 1) rfl _
theorem got_is {b off : Nat} {pc : Addr} {w2 : World} (v : Value) (h : CellKept b off pc w2) : CellIs (onceEnd b off (madeEnd b off v w2)) b off 1 v := by
  obtain ⟨x3, h3⟩ := h.c3
  obtain ⟨q0, q1, _, _⟩ := kept_made v h
  have q3 : (madeEnd b off v w2).cell? ⟨b, off + 3, none⟩ = some (.int .u32 1) := by
    unfold madeEnd
    refine same_cell (u := x3) ?_ _
    rw [World.cell?_drew, World.cell?_setCell_other _ _ _ _ (ne_off _ _ _ (by omega))]; exact h3
  have f : ∀ o, (onceEnd b off (madeEnd b off v w2)).frozen? ⟨b, o, none⟩ = w2.frozen? ⟨b, o, none⟩ := fun o => by simp only [onceEnd, madeEnd, World.frozen?_drew, World.frozen?_setCell]
  refine ⟨?_, ?_, ?_, (kept_end v h).2, (f _).trans h.z0, (f _).trans h.z1, (f _).trans h.z3, (f _).trans h.z4⟩
  · unfold onceEnd
    rw [World.cell?_setCell_other _ _ _ _ (ne_off _ _ _ (by omega))]
    exact same_cell ((World.cell?_drew _ _).trans q0) _
  · unfold onceEnd
    refine same_cell (u := .int .i32 1) ?_ _
    rw [World.cell?_setCell_other _ _ _ _ (ne_off _ _ _ (by omega)), World.cell?_drew]
    exact q1
  · unfold onceEnd
    rw [World.cell?_setCell_other _ _ _ _ (ne_off _ _ _ (by omega)), World.cell?_setCell_other _ _ _ _ (ne_off _ _ _ (by omega)), World.cell?_drew]
    exact q3

def CellGot (b off : Nat) (v : Value) (w : World) (w' : World) : Prop := CellIs w' b off 1 v ∧ Only (fun k => k = b) w w'

/-- A first 'Get', said by facts: what the function leaves (F), what it turns (S). -/
theorem get_facts (b off g : Nat) (cap : Array Value) (v : Int) (v0 : Value) (w : World) (S : Nat → Prop) (F : World → Prop) (hg : ∀ w, (callFunc g cap).run Try.prog w = .ok (.enter g cap) w) (h : CellIs w b off 0 v0)
    (hS : ¬ S b) (hS' : ∀ k, S k → k < w.heap.size)
    (hf : ∀ w1, Only (fun k => k = b) w w1 → w.heap.size < w1.heap.size → Calls Try.prog g cap w1 fun e w2 => e = .returned (.int .i64 v) ∧ Only S w1 w2 ∧ F w2)
    (hF : ∀ w2 w', F w2 → Only (fun k => k = b) w2 w' → F w') :
    Calls Try.prog 13 #[.pointer (some ⟨b, off, none⟩), .func (.func g) #[] cap] w fun e w' => e = .returned (.int .i64 v) ∧ CellIs w' b off 1 (.int .i64 v) ∧ F w' ∧ Only (fun k => k = b ∨ S k) w w' := by
  have hb := lt_of_cell h.c0
  have hk := getIn_kept b off 42 46 (.func (.func g) #[] cap) v0 w h
  have ho := getIn_only b off 42 46 (.func (.func g) #[] cap) w
  have hk2 : ∀ w2, Only S (getIn b off 42 46 (.func (.func g) #[] cap) w) w2 → CellKept b off ⟨w.heap.size, 0, none⟩ w2 := fun w2 o => hk.only o hS (fun q => by have := hS' _ q; simp at this)
  refine (get_first b off g cap v w (fun w2 => Only S (getIn b off 42 46 (.func (.func g) #[] cap) w) w2 ∧ F w2) hb hg h.c0 h.c1 h.z1 (hf _ ho (by rw [getIn_size]; omega)) (fun w2 q => hk2 w2 q.1)).mono ?_
  rintro e w' ⟨rfl, w2, ⟨o2, f2⟩, rfl⟩
  refine ⟨rfl, got_is _ (hk2 w2 o2), hF _ _ f2 (got_only _ _ _ _), ?_⟩
  exact ((ho.mono fun _ _ h => .inl h).trans o2 (fun _ _ h => .inr h)).trans (got_only _ _ _ _) fun _ _ h => .inl h

/-- A first 'Get' of a function that only tells a number. -/
theorem get_const (b off g : Nat) (cap : Array Value) (v : Int) (v0 : Value) (w : World) (hg : ∀ w, (callFunc g cap).run Try.prog w = .ok (.enter g cap) w) (h : CellIs w b off 0 v0)
    (hf : ∀ w1, Only (fun k => k = b) w w1 → w.heap.size < w1.heap.size → Calls Try.prog g cap w1 fun e w2 => e = .returned (.int .i64 v) ∧ w1 = w2) :
    Calls Try.prog 13 #[.pointer (some ⟨b, off, none⟩), .func (.func g) #[] cap] w fun e w' => e = .returned (.int .i64 v) ∧ CellGot b off (.int .i64 v) w w' := by
  have hb := lt_of_cell h.c0
  have hk := getIn_kept b off 42 46 (.func (.func g) #[] cap) v0 w h
  have ho := getIn_only b off 42 46 (.func (.func g) #[] cap) w
  refine (get_first b off g cap v w (fun w2 => getIn b off 42 46 (.func (.func g) #[] cap) w = w2) hb hg h.c0 h.c1 h.z1 (hf _ ho (by rw [getIn_size]; omega)) (fun w2 e => by subst e; exact hk)).mono ?_
  rintro e w' ⟨rfl, w2, rfl, rfl⟩
  exact ⟨rfl, got_is _ hk, ho.trans (got_only _ _ _ _) fun _ _ h => h⟩

theorem got_done (b off : Nat) (f : Fn) (fi cap : Array Value) (v : Value) (w : World) (h : CellIs w b off 1 v) :
    Calls Try.prog 13 #[.pointer (some ⟨b, off, none⟩), .func f fi cap] w fun e w' => e = .returned v ∧ Only (fun _ => False) w w' := by
  refine (get_done b off f fi cap v w (lt_of_cell h.c0) h.c0 h.c4).mono ?_
  rintro e w' ⟨rfl, rfl⟩
  exact ⟨rfl, ((Only.refl _ w).alloc _).alloc _⟩
theorem got_done_nil (b off : Nat) (v : Value) (w : World) (h : CellIs w b off 1 v) :
    Calls Try.prog 13 #[.pointer (some ⟨b, off, none⟩), .nilFunc] w fun e w' => e = .returned v ∧ Only (fun _ => False) w w' := by
  refine (get_done_nil b off v w (lt_of_cell h.c0) h.c0 h.c4).mono ?_
  rintro e w' ⟨rfl, rfl⟩
  exact ⟨rfl, ((Only.refl _ w).alloc _).alloc _⟩

theorem seven (w : World) : Calls Try.prog 31 #[] w fun e w' => e = .returned (.int .i64 7) ∧ w = w' := by
  go_enter Try.func31, Try.ntmps31
  go_wp2
  go_ret
  exact ⟨rfl, rfl⟩

theorem enters31 (cap : Array Value) (w : World) : (callFunc 31 cap).run Try.prog w = .ok (.enter 31 cap) w := run_callFunc_enter Try.func31 (by kernel_rfl) rfl cap w

/-- A new cell of ints. -/
theorem newCell (w : World) : CellIs (w.alloc (.cells #[.int .u32 0, .int .i32 0, .int .u32 0, .int .u32 0, .int .i64 0] 44)) w.heap.size 0 0 (.int .i64 0) := by
  refine ⟨?_, ?_, ?_, ?_, ?_, ?_, ?_, ?_⟩ <;> simp

set_option maxRecDepth 100000 in
set_option maxHeartbeats 800000 in
theorem alive_true (w : World) : Calls Try.prog 9 #[] w fun e w' => e = .returned (.bool true) ∧ Below w.heap.size w w' := by
  have HC := newCell w
  go_enter Try.func9, Try.ntmps9
  go_wp2_with fail
  refine (get_const _ 0 31 #[] 7 _ _ (enters31 #[]) HC (fun w1 _ _ => seven w1)).mono ?_
  rintro e w1 ⟨rfl, hc, ho⟩
  have o1 : Only (fun _ => False) w w1 := ((Only.refl (fun _ => False) w).alloc _).trans ho (fun i hi q => by omega)
  have n1 := ho.size
  simp at n1
  clear ho
  go_wp2_with fail
  refine (got_done _ 0 _ _ _ _ _ hc).mono ?_
  rintro e w2 ⟨rfl, ho⟩
  have c2 := hc.only ho (fun q => q)
  have o2 := o1.trans ho (fun i hi q => q)
  have n2 := ho.size
  clear ho hc o1
  go_wp2_with fail
  have c3 := c2.only ((((Only.refl (fun _ => False) w2).alloc (.cells #[.int .i64 0] 56)).alloc (.cells #[.int .i32 0, .int .u32 0, .int .i64 0, .slice none 0 0] 63))) (fun q => q)
  refine (cell_made _ 0 1 true _ c3.c3 rfl).mono ?_
  rintro e w' ⟨rfl, rfl⟩
  go_wp2_with fail
  refine (count_adds _ 0 3 3 _ (by simp) (by simp) (IntWalk.wrap64_in 3 ⟨by omega, by omega⟩)).mono ?_
  rintro e w' ⟨rfl, rfl⟩
  go_wp2_with fail
  refine (count_now _ 3 _ (by simp)).mono ?_
  rintro e w' ⟨rfl, rfl⟩
  go_wp2_with fail
  have hp : PinsIs ((w2.alloc (.cells #[.int .i64 3] 56)).alloc (.cells #[.int .i32 0, .int .u32 0, .int .i64 0, .slice none 0 0] 63)) (w2.heap.size + 1) (.slice none 0 0) 0 [] := by
    refine ⟨by simp, by simp, by simp, World.ownsRow_nil _ _ _ _, by simp [Value.ownBlock], by simp, by simp, by simp⟩
  refine (pin_any _ _ 0 5 [] _ hp (by omega) (by omega) (by simp)).mono ?_
  rintro e w3 ⟨rfl, sv, hp3, _, ho3⟩
  have o3 : Only (fun _ => False) w w3 := ((o2.alloc (.cells #[.int .i64 3] 56)).alloc (.cells #[.int .i32 0, .int .u32 0, .int .i64 0, .slice none 0 0] 63)).trans ho3 (fun i hi q => by rcases q with q | q; omega; simp [Value.ownBlock] at q)
  clear o2 ho3 hp c2 c3
  go_wp2_with fail
  refine (len_any _ _ _ _ _ hp3).mono ?_
  rintro e w4 ⟨rfl, _, ho4⟩
  have o4 := o3.trans ho4 (fun i hi q => by omega)
  clear o3 ho4 hp3
  go_wp2_with fail
  go_ret
  exact ⟨rfl, o4.below (Nat.le_refl _) fun _ _ q => q⟩
end Go.Proofs.Ytlcjhnbnjhgklaa
