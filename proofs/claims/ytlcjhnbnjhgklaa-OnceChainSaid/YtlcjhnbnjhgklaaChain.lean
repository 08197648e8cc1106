/- OnceChain: cells that stand on one another. Here: a row of cells, the function of each. Conditions: none but those of the statement itself. -/
import Derived.Test.YtlcjhnbnjhgklaaAlive
import Derived.Deep.RegionHeld3
import Derived.Laws.MakeOwn
namespace Go.Proofs.Ytlcjhnbnjhgklaa.onceChain
open Go.RowKit Go.MuLone

theorem end_other (b off o : Nat) (v : Value) (w2 : World) (h0 : o ≠ off) (h1 : o ≠ off + 1) (h3 : o ≠ off + 3) (h4 : o ≠ off + 4) : (onceEnd b off (madeEnd b off v w2)).cell? ⟨b, o, none⟩ = w2.cell? ⟨b, o, none⟩ := by
  unfold onceEnd madeEnd
  rw [World.cell?_setCell_other _ _ _ _ (ne_off _ _ _ h1.symm), World.cell?_setCell_other _ _ _ _ (ne_off _ _ _ h0.symm), World.cell?_drew, World.cell?_setCell_other _ _ _ _ (ne_off _ _ _ h3.symm), World.cell?_drew, World.cell?_setCell_other _ _ _ _ (ne_off _ _ _ h4.symm)]
theorem end_frozen (b off o : Nat) (v : Value) (w2 : World) : (onceEnd b off (madeEnd b off v w2)).frozen? ⟨b, o, none⟩ = w2.frozen? ⟨b, o, none⟩ := by simp only [onceEnd, madeEnd, World.frozen?_drew, World.frozen?_setCell]
theorem in_other (b off o : Nat) (tc tf : TypeId) (fv : Value) (w : World) (hb : b < w.heap.size) (h1 : o ≠ off + 1) : (getIn b off tc tf fv w).cell? ⟨b, o, none⟩ = w.cell? ⟨b, o, none⟩ := by
  unfold getIn
  rw [World.cell?_drew, World.cell?_setCell_other _ _ _ _ (ne_off _ _ _ h1.symm), two_cell _ _ _ _ _ hb]
theorem in_frozen (b off o : Nat) (tc tf : TypeId) (fv : Value) (w : World) (hb : b < w.heap.size) : (getIn b off tc tf fv w).frozen? ⟨b, o, none⟩ = w.frozen? ⟨b, o, none⟩ := by
  unfold getIn
  simp only [World.frozen?_drew, World.frozen?_setCell, two_frozen _ _ _ _ _ hb]

def Apart (off off' : Nat) : Prop := off' + 5 ≤ off ∨ off + 5 ≤ off'

theorem in_is (b off off' : Nat) (tc tf : TypeId) (fv u : Value) (d : Int) (w : World) (h : CellIs w b off' d u) (ha : Apart off off') : CellIs (getIn b off tc tf fv w) b off' d u := by
  have hb := lt_of_cell h.c0
  unfold Apart at ha
  exact ⟨(in_other _ _ _ _ _ _ _ hb (by omega)).trans h.c0, (in_other _ _ _ _ _ _ _ hb (by omega)).trans h.c1, (in_other _ _ _ _ _ _ _ hb (by omega)).trans h.c3, (in_other _ _ _ _ _ _ _ hb (by omega)).trans h.c4,
    (in_frozen _ _ _ _ _ _ _ hb).trans h.z0, (in_frozen _ _ _ _ _ _ _ hb).trans h.z1, (in_frozen _ _ _ _ _ _ _ hb).trans h.z3, (in_frozen _ _ _ _ _ _ _ hb).trans h.z4⟩
theorem end_is (b off off' : Nat) (u v : Value) (d : Int) (w : World) (h : CellIs w b off' d u) (ha : Apart off off') : CellIs (onceEnd b off (madeEnd b off v w)) b off' d u := by
  unfold Apart at ha
  exact ⟨(end_other _ _ _ _ _ (by omega) (by omega) (by omega) (by omega)).trans h.c0, (end_other _ _ _ _ _ (by omega) (by omega) (by omega) (by omega)).trans h.c1, (end_other _ _ _ _ _ (by omega) (by omega) (by omega) (by omega)).trans h.c3, (end_other _ _ _ _ _ (by omega) (by omega) (by omega) (by omega)).trans h.c4,
    (end_frozen _ _ _ _ _).trans h.z0, (end_frozen _ _ _ _ _).trans h.z1, (end_frozen _ _ _ _ _).trans h.z3, (end_frozen _ _ _ _ _).trans h.z4⟩

/-- The cells of the row that lie apart from one stay as they are. -/
def Others (b off : Nat) (w w' : World) : Prop := ∀ off' d u, Apart off off' → CellIs w b off' d u → CellIs w' b off' d u

def RowGot (b off : Nat) (v : Value) (w w' : World) : Prop := CellIs w' b off 1 v ∧ Others b off w w' ∧ Only (fun k => k = b) w w'

/-- A first 'Get' of a cell of a row. -/
theorem get_row (b off g : Nat) (cap : Array Value) (v : Int) (v0 : Value) (w : World) (hg : ∀ w, (callFunc g cap).run Try.prog w = .ok (.enter g cap) w) (h : CellIs w b off 0 v0)
    (hf : ∀ w1, Only (fun k => k = b) w w1 → Others b off w w1 → Calls Try.prog g cap w1 fun e w2 => e = .returned (.int .i64 v) ∧ Only (fun _ => False) w1 w2) :
    Calls Try.prog 13 #[.pointer (some ⟨b, off, none⟩), .func (.func g) #[] cap] w fun e w' => e = .returned (.int .i64 v) ∧ RowGot b off (.int .i64 v) w w' := by
  have hb := lt_of_cell h.c0
  have hk := getIn_kept b off 42 46 (.func (.func g) #[] cap) v0 w h
  have ho := getIn_only b off 42 46 (.func (.func g) #[] cap) w
  have hs : ∀ off' d u, Apart off off' → CellIs w b off' d u → CellIs (getIn b off 42 46 (.func (.func g) #[] cap) w) b off' d u := fun off' d u ha h => in_is _ _ _ _ _ _ _ _ _ h ha
  refine (get_first b off g cap v w (fun w2 => Only (fun _ => False) (getIn b off 42 46 (.func (.func g) #[] cap) w) w2) hb hg h.c0 h.c1 h.z1 (hf _ ho hs) (fun w2 o => hk.only o id id)).mono ?_
  rintro e w' ⟨rfl, w2, o2, rfl⟩
  refine ⟨rfl, got_is _ (hk.only o2 id id), fun off' d u ha h => end_is _ _ _ _ _ _ _ ((hs _ _ _ ha h).only o2 id) ha, ?_⟩
  exact (ho.trans o2 (fun _ _ h => h.elim)).trans (got_only _ _ _ _) fun _ _ h => h

theorem fn17 (w : World) : Calls Try.prog 17 #[] w fun e w' => e = .returned (.int .i64 5) ∧ w = w' := by
  go_enter Try.func17, Try.ntmps17
  go_wp2
  go_ret
  exact ⟨rfl, rfl⟩
theorem enters17 (cap : Array Value) (w : World) : (callFunc 17 cap).run Try.prog w = .ok (.enter 17 cap) w := run_callFunc_enter Try.func17 (by kernel_rfl) rfl cap w
theorem enters18 (cap : Array Value) (w : World) : (callFunc 18 cap).run Try.prog w = .ok (.enter 18 cap) w := run_callFunc_enter Try.func18 (by kernel_rfl) rfl cap w

set_option maxRecDepth 100000 in
set_option maxHeartbeats 400000 in
/-- The function of cell i: what the next one tells, xor the number at i. -/
theorem fn18 (C X L K b off i n cap : Nat) (v x : Int) (w : World) (hC : w.cell? ⟨C, 0, none⟩ = some (.slice (some ⟨K, 0, none⟩) (n + 1) (n + 1))) (hX : w.cell? ⟨X, 0, none⟩ = some (.int .i64 i)) (hL : w.cell? ⟨L, 0, none⟩ = some (.slice (some ⟨b, off, none⟩) n cap))
    (hx : w.cell? ⟨b, off + i, none⟩ = some (.int .i64 x)) (hi : i < n) (hn : n ≤ 30) (h : CellIs w K ((i + 1) * 5) 1 (.int .i64 v)) :
    Calls Try.prog 18 #[.pointer (some ⟨C, 0, none⟩), .pointer (some ⟨X, 0, none⟩), .pointer (some ⟨L, 0, none⟩)] w fun e w' => e = .returned (.int .i64 (bits .xor .i64 v x)) ∧ Only (fun _ => False) w w' := by
  have od : Only (fun _ => False) w w.drew := (Only.refl _ w).drew
  have hd := h.only od id
  have l1 := lt_of_cell hC
  have l2 := lt_of_cell hX
  have l3 := lt_of_cell hL
  have l4 := lt_of_cell hx
  have w1 : IntKind.i64.wrap ((i : Int) + 1) = (i : Int) + 1 := by exact IntWalk.i64_in _ (by omega)
  have w2 : (0 : Int) ≤ (i : Int) + 1 := by omega
  have w3 : ((i : Int) + 1).toNat = i + 1 := by omega
  have w4 : (i : Int) < (n : Int) := by omega
  have w5 : (0 : Int) ≤ (i : Int) := by omega
  go_enter Try.func18, Try.ntmps18
  go_wp2_with fail
  go_region_held3 (fun w' => w'.cell? ⟨C, 0, none⟩ = some (.slice (some ⟨K, 0, none⟩) (n + 1) (n + 1)) ∧ w'.cell? ⟨X, 0, none⟩ = some (.int .i64 i) ∧ w'.cell? ⟨L, 0, none⟩ = some (.slice (some ⟨b, off, none⟩) n cap) ∧ w'.cell? ⟨b, off + i, none⟩ = some (.int .i64 x)) (first | exact ⟨hC, hX, hL, hx⟩ | exact ⟨q1, q2, q3, q4⟩)
    (first | ((with_reducible refine (got_done_nil _ _ _ _ hd).mono ?_); rintro e w9 ⟨rfl, o3⟩; have q0 := od.trans o3 (fun _ _ => id); have q1 := (q0.cell (p := ⟨C, 0, none⟩) l1 id).trans hC; have q2 := (q0.cell (p := ⟨X, 0, none⟩) l2 id).trans hX; have q3 := (q0.cell (p := ⟨L, 0, none⟩) l3 id).trans hL; have q4 := (q0.cell (p := ⟨b, off + i, none⟩) l4 id).trans hx))
  clear w1 w2 w3 w4 w5
  go_wp2
  go_ret
  exact ⟨rfl, q0⟩
end Go.Proofs.Ytlcjhnbnjhgklaa.onceChain
