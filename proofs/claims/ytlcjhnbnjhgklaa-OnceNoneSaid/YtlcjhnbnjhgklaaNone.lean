/- OnceNone: of nil ones nothing is kept, and a cell's function is called each time. Conditions: none but those of the statement itself. -/
import Derived.Test.YtlcjhnbnjhgklaaAlive
import Derived.OpenShut
namespace Go.Proofs.Ytlcjhnbnjhgklaa.onceNone
open Go.RowKit Go.MuLone

set_option maxHeartbeats 400000 in
theorem get_nil (g : Nat) (cap : Array Value) (v : Value) (w : World) (R : World → Prop) (hg : ∀ w, (callFunc g cap).run Try.prog w = .ok (.enter g cap) w)
    (hf : Calls Try.prog g cap ((w.alloc (.cells #[.pointer none] 42)).alloc (.cells #[.func (.func g) #[] cap] 46)) fun e w2 => e = .returned v ∧ R w2) :
    Calls Try.prog 13 #[.pointer none, .func (.func g) #[] cap] w fun e w' => e = .returned v ∧ R w' := by
  have hne := run_neq_func_nil (P := Try.prog) Try.underlying46
  have HF := Lib.hid hf
  clear hf
  go_enter Try.func13, Try.ntmps13
  go_wp2_with fail
  (with_reducible refine HF.out.mono ?_)
  rintro e w2 ⟨rfl, hr⟩
  go_wp2_with fail
  go_ret
  exact ⟨rfl, hr⟩

theorem fn28 (C N : Nat) (c n : Int) (w : World) (hC : w.cell? ⟨C, 0, none⟩ = some (.int .i64 c)) (fC : w.frozen? ⟨C, 0, none⟩ = false) (h1 : 0 ≤ c) (h2 : c ≤ 10) (hN : w.cell? ⟨N, 0, none⟩ = some (.int .i64 n)) (nA : C ≠ N) :
    Calls Try.prog 28 #[.pointer (some ⟨C, 0, none⟩), .pointer (some ⟨N, 0, none⟩)] w fun e w' => e = .returned (.int .i64 n) ∧ w.setCell ⟨C, 0, none⟩ (.int .i64 (c + 1)) = w' := by
  have gN := (World.cell?_setCell_other w _ _ (.int .i64 (c + 1)) (ne_block (b := C) (b' := N) 0 0 nA)).trans hN
  go_enter Try.func28, Try.ntmps28
  go_wp2
  go_ret
  exact ⟨rfl, rfl⟩
theorem fn29 (C N : Nat) (c n : Int) (w : World) (hC : w.cell? ⟨C, 0, none⟩ = some (.int .i64 c)) (fC : w.frozen? ⟨C, 0, none⟩ = false) (h1 : 0 ≤ c) (h2 : c ≤ 10) (hN : w.cell? ⟨N, 0, none⟩ = some (.int .i64 n)) (nA : C ≠ N) :
    Calls Try.prog 29 #[.pointer (some ⟨C, 0, none⟩), .pointer (some ⟨N, 0, none⟩)] w fun e w' => e = .returned (.int .i64 n) ∧ w.setCell ⟨C, 0, none⟩ (.int .i64 (c + 1)) = w' := by
  have gN := (World.cell?_setCell_other w _ _ (.int .i64 (c + 1)) (ne_block (b := C) (b' := N) 0 0 nA)).trans hN
  go_enter Try.func29, Try.ntmps29
  go_wp2
  go_ret
  exact ⟨rfl, rfl⟩
theorem enters28 (cap : Array Value) (w : World) : (callFunc 28 cap).run Try.prog w = .ok (.enter 28 cap) w := run_callFunc_enter Try.func28 (by kernel_rfl) rfl cap w
theorem enters29 (cap : Array Value) (w : World) : (callFunc 29 cap).run Try.prog w = .ok (.enter 29 cap) w := run_callFunc_enter Try.func29 (by kernel_rfl) rfl cap w

def Num (w : World) (b : Nat) (x : Int) : Prop := w.cell? ⟨b, 0, none⟩ = some (.int .i64 x) ∧ w.frozen? ⟨b, 0, none⟩ = false
theorem Num.only {w w' : World} {b : Nat} {x : Int} {S : Nat → Prop} (h : Num w b x) (ho : Only S w w') (hb : ¬ S b) : Num w' b x :=
  ⟨(ho.cell (lt_of_cell h.1) hb).trans h.1, (ho.frozen (lt_of_cell h.1) hb).trans h.2⟩

theorem got28 (C N : Nat) (c n : Int) (w : World) (hC : Num w C c) (h1 : 0 ≤ c) (h2 : c ≤ 10) (hN : Num w N n) (nA : C ≠ N) :
    Calls Try.prog 13 #[.pointer none, .func (.func 28) #[] #[.pointer (some ⟨C, 0, none⟩), .pointer (some ⟨N, 0, none⟩)]] w fun e w' => e = .returned (.int .i64 n) ∧ Num w' C (c + 1) ∧ Only (fun k => k = C) w w' := by
  have o : ∀ A B, Only (fun _ => False) w ((w.alloc A).alloc B) := fun _ _ => ((Only.refl _ w).alloc _).alloc _
  refine get_nil 28 _ _ w _ (enters28 _) ((fn28 C N c n _ (hC.only (o _ _) id).1 (hC.only (o _ _) id).2 h1 h2 (hN.only (o _ _) id).1 nA).mono ?_)
  rintro e w' ⟨rfl, rfl⟩
  exact ⟨rfl, ⟨same_cell (hC.only (o _ _) id).1 _, by simpa using (hC.only (o _ _) id).2⟩, ((o _ _).mono (T := fun k => k = C) fun _ _ h => h.elim).put C 0 rfl _⟩
theorem got29 (C N : Nat) (c n : Int) (w : World) (hC : Num w C c) (h1 : 0 ≤ c) (h2 : c ≤ 10) (hN : Num w N n) (nA : C ≠ N) :
    Calls Try.prog 13 #[.pointer none, .func (.func 29) #[] #[.pointer (some ⟨C, 0, none⟩), .pointer (some ⟨N, 0, none⟩)]] w fun e w' => e = .returned (.int .i64 n) ∧ Num w' C (c + 1) ∧ Only (fun k => k = C) w w' := by
  have o : ∀ A B, Only (fun _ => False) w ((w.alloc A).alloc B) := fun _ _ => ((Only.refl _ w).alloc _).alloc _
  refine get_nil 29 _ _ w _ (enters29 _) ((fn29 C N c n _ (hC.only (o _ _) id).1 (hC.only (o _ _) id).2 h1 h2 (hN.only (o _ _) id).1 nA).mono ?_)
  rintro e w' ⟨rfl, rfl⟩
  exact ⟨rfl, ⟨same_cell (hC.only (o _ _) id).1 _, by simpa using (hC.only (o _ _) id).2⟩, ((o _ _).mono (T := fun k => k = C) fun _ _ h => h.elim).put C 0 rfl _⟩

set_option maxRecDepth 100000 in
set_option maxHeartbeats 1000000 in
theorem walk (n d : Int) (w : World) (_ : (Lit.int .i64 n).wf = true) (_ : (Lit.int .i64 d).wf = true) :
    Calls Try.prog 8 #[.int .i64 n, .int .i64 d] w fun e w' => e = .returned (.bool true) ∧ Below w.heap.size w w' := by
  have hmf : ∀ (fn : Fn) (first cap : Array Value) (w : World), (Instr.makeFunc fn first cap).run Try.prog w = .ok (.func fn first cap) w := fun _ _ _ _ => rfl
  go_enter Try.func8, Try.ntmps8
  go_wp2_with fail
  refine (alive_true _).mono ?_
  rintro e w1 ⟨rfl, hb⟩
  have n1 := hb.size
  simp at n1
  have hN : Num w1 w.heap.size n := ⟨(hb.cell (p := ⟨w.heap.size, 0, none⟩) (by simp; omega)).trans (by go_simp), (hb.frozen (p := ⟨w.heap.size, 0, none⟩) (by simp; omega)).trans (by go_simp)⟩
  have hD : Num w1 (w.heap.size + 1) d := ⟨(hb.cell (p := ⟨w.heap.size + 1, 0, none⟩) (by simp)).trans (by go_simp), (hb.frozen (p := ⟨w.heap.size + 1, 0, none⟩) (by simp)).trans (by go_simp)⟩
  have hB : Below w.heap.size w w1 := (((Below.refl _ w).alloc (Nat.le_refl _) _).alloc (by simp) _).trans (hb.mono (by simp; omega))
  have o1 : Only (fun _ => False) w1 (w1.alloc (.cells #[.int .i64 0] 3)) := (Only.refl _ w1).alloc _
  have hC : Num (w1.alloc (.cells #[.int .i64 0] 3)) w1.heap.size 0 := ⟨by simp, by simp⟩
  have gN := hN.only o1 id
  have gD := hD.only o1 id
  have gB : Below w.heap.size w (w1.alloc (.cells #[.int .i64 0] 3)) := hB.alloc (by omega) _
  clear hb hN hD hB o1
  go_wp2_with fail
  (with_reducible refine (got28 w1.heap.size w.heap.size 0 n _ hC (by omega) (by omega) gN (by omega)).mono ?_)
  rintro e w2 ⟨rfl, hC2, o2⟩
  have gN2 := gN.only o2 (by omega)
  have gD2 := gD.only o2 (by omega)
  have gB2 := gB.trans (o2.below (by simp; omega) fun k _ q => by omega)
  clear hC gN gD gB o2
  go_wp2_with fail
  (with_reducible refine (got29 w1.heap.size (w.heap.size + 1) (0 + 1) d _ hC2 (by omega) (by omega) gD2 (by omega)).mono ?_)
  rintro e w3 ⟨rfl, hC3, o3⟩
  have gN3 := gN2.only o3 (by omega)
  have gD3 := gD2.only o3 (by omega)
  have gB3 := gB2.trans (o3.below (by have := gB2.size; omega) fun k _ q => by omega)
  clear hC2 gN2 gD2 gB2 o3
  obtain ⟨eC, _⟩ := hC3
  obtain ⟨eN, _⟩ := gN3
  obtain ⟨eD, _⟩ := gD3
  go_wp2_with fail
  (with_reducible refine (least_nil _).mono ?_)
  rintro e w' ⟨rfl, rfl⟩
  go_wp2_with fail
  (with_reducible refine (cell_made_nil _).mono ?_)
  rintro e w' ⟨rfl, rfl⟩
  go_wp2_with fail
  (with_reducible refine (count_add_nil _ _).mono ?_)
  rintro e w' ⟨rfl, rfl⟩
  go_wp2_with fail
  (with_reducible refine (count_most_nil _ _).mono ?_)
  rintro e w' ⟨rfl, rfl⟩
  go_wp2_with fail
  (with_reducible refine (count_take_nil _ _).mono ?_)
  rintro e w' ⟨rfl, rfl⟩
  go_wp2_with fail
  (with_reducible refine (count_now_nil _).mono ?_)
  rintro e w' ⟨rfl, rfl⟩
  go_wp2_with fail
  (with_reducible refine (pin_nil _ _).mono ?_)
  rintro e w' ⟨rfl, rfl⟩
  go_wp2_with fail
  (with_reducible refine (drop_nil _ _).mono ?_)
  rintro e w' ⟨rfl, rfl⟩
  go_wp2_with fail
  (with_reducible refine (len_nil _).mono ?_)
  rintro e w' ⟨rfl, rfl⟩
  go_wp2_with fail
  go_ret
  exact ⟨rfl, gB3.alloc gB3.size _⟩
end Go.Proofs.Ytlcjhnbnjhgklaa.onceNone
