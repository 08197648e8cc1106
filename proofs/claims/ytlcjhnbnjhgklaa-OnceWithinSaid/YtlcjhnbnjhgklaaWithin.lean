/- OnceWithin: cells within each other are made once each. Conditions: none but those of the statement itself. -/
import Derived.Test.YtlcjhnbnjhgklaaAlive
namespace Go.Proofs.Ytlcjhnbnjhgklaa.onceWithin
open Go.RowKit Go.MuLone

/-- The inner function: counts, and tells a + i. -/
theorem fn15 (M A X : Nat) (m a i s : Int) (w : World) (hM : w.cell? ⟨M, 0, none⟩ = some (.int .i64 m)) (fM : w.frozen? ⟨M, 0, none⟩ = false) (h1 : 0 ≤ m) (h2 : m ≤ 10) (hA : w.cell? ⟨A, 0, none⟩ = some (.int .i64 a)) (hX : w.cell? ⟨X, 0, none⟩ = some (.int .i64 i)) (nA : M ≠ A) (nX : M ≠ X) (hs : wrap64 (a + i) = s) :
    Calls Try.prog 15 #[.pointer (some ⟨M, 0, none⟩), .pointer (some ⟨A, 0, none⟩), .pointer (some ⟨X, 0, none⟩)] w fun e w' => e = .returned (.int .i64 s) ∧ w.setCell ⟨M, 0, none⟩ (.int .i64 (m + 1)) = w' := by
  subst hs
  have gA := (World.cell?_setCell_other w _ _ (.int .i64 (m + 1)) (ne_block (b := M) (b' := A) 0 0 nA)).trans hA
  have gX := (World.cell?_setCell_other w _ _ (.int .i64 (m + 1)) (ne_block (b := M) (b' := X) 0 0 nX)).trans hX
  go_enter Try.func15, Try.ntmps15
  go_wp2
  go_ret
  exact ⟨rfl, rfl⟩

theorem enters15 (cap : Array Value) (w : World) : (callFunc 15 cap).run Try.prog w = .ok (.enter 15 cap) w := run_callFunc_enter Try.func15 (by kernel_rfl) rfl cap w
theorem enters14 (cap : Array Value) (w : World) : (callFunc 14 cap).run Try.prog w = .ok (.enter 14 cap) w := run_callFunc_enter Try.func14 (by kernel_rfl) rfl cap w

/-- A variable of one number. -/
def Num (w : World) (b : Nat) (x : Int) : Prop := w.cell? ⟨b, 0, none⟩ = some (.int .i64 x) ∧ w.frozen? ⟨b, 0, none⟩ = false
theorem Num.only {w w' : World} {b : Nat} {x : Int} {S : Nat → Prop} (h : Num w b x) (ho : Only S w w') (hb : ¬ S b) : Num w' b x := by
  have hl := lt_of_cell h.1
  exact ⟨(ho.cell hl hb).trans h.1, (ho.frozen hl hb).trans h.2⟩
theorem Num.set {w : World} {b : Nat} {x : Int} (h : Num w b x) (y : Int) : Num (w.setCell ⟨b, 0, none⟩ (.int .i64 y)) b y := ⟨same_cell h.1 _, by simpa using h.2⟩

/-- The inner cell, made. -/
theorem in_first (I M A X : Nat) (a : Int) (v0 : Value) (w : World) (hI : CellIs w I 0 0 v0) (hM : Num w M 0) (hA : Num w A a) (hX : Num w X 0) (n1 : M ≠ I) (n2 : M ≠ A) (n3 : M ≠ X) (n4 : A ≠ I) (n5 : X ≠ I) (ha : wrap64 (a + 0) = a) :
    Calls Try.prog 13 #[.pointer (some ⟨I, 0, none⟩), .func (.func 15) #[] #[.pointer (some ⟨M, 0, none⟩), .pointer (some ⟨A, 0, none⟩), .pointer (some ⟨X, 0, none⟩)]] w fun e w' =>
      e = .returned (.int .i64 a) ∧ CellIs w' I 0 1 (.int .i64 a) ∧ Num w' M 1 ∧ Only (fun k => k = I ∨ k = M) w w' := by
  refine get_facts I 0 15 _ a v0 w (fun k => k = M) (fun w2 => Num w2 M 1) (enters15 _) hI (fun q => n1 q.symm) (fun k q => by subst q; exact lt_of_cell hM.1) (fun w1 ho _ => ?_) (fun w2 w' f o => f.only o n1)
  have gM := hM.only ho n1
  have gA := hA.only ho n4
  have gX := hX.only ho n5
  refine (fn15 M A X 0 a 0 a w1 gM.1 gM.2 (by omega) (by omega) gA.1 gX.1 n2 n3 ha).mono ?_
  rintro e w2 ⟨rfl, rfl⟩
  exact ⟨rfl, (Only.refl (fun k => k = M) w1).put M 0 rfl _, gM.set _⟩

set_option maxRecDepth 100000 in
set_option maxHeartbeats 2000000 in
/-- The outer function, the first time. -/
theorem fn14 (N P M A X B I : Nat) (a b : Int) (v0 : Value) (w : World) (hN : Num w N 0) (hP : w.cell? ⟨P, 0, none⟩ = some (.pointer (some ⟨I, 0, none⟩))) (hM : Num w M 0) (hA : Num w A a) (hX : Num w X 0) (hB : Num w B b) (hI : CellIs w I 0 0 v0)
    (n1 : M ≠ I) (n2 : M ≠ A) (n3 : M ≠ X) (n4 : A ≠ I) (n5 : X ≠ I) (n6 : N ≠ P) (n7 : N ≠ M) (n8 : N ≠ A) (n9 : N ≠ X) (n10 : N ≠ B) (n11 : N ≠ I) (n12 : B ≠ I) (n13 : B ≠ M) (ha : wrap64 (a + 0) = a) :
    Calls Try.prog 14 #[.pointer (some ⟨N, 0, none⟩), .pointer (some ⟨P, 0, none⟩), .pointer (some ⟨M, 0, none⟩), .pointer (some ⟨A, 0, none⟩), .pointer (some ⟨X, 0, none⟩), .pointer (some ⟨B, 0, none⟩)] w fun e w' =>
      e = .returned (.int .i64 (bits .xor .i64 a b)) ∧ Only (fun k => k = N ∨ k = I ∨ k = M) w w' ∧ (CellIs w' I 0 1 (.int .i64 a) ∧ Num w' N 1 ∧ Num w' M 1) := by
  have hmf : ∀ (fn : Fn) (first cap : Array Value) (w : World), (Instr.makeFunc fn first cap).run Try.prog w = .ok (.func fn first cap) w := fun _ _ _ _ => rfl
  have h0 := hN.1
  have f0 := hN.2
  have o1 : Only (fun k => k = N) w (w.setCell ⟨N, 0, none⟩ (.int .i64 1)) := (Only.refl (fun k => k = N) w).put N 0 rfl _
  have gN := hN.set 1
  have gP := (o1.cell (p := ⟨P, 0, none⟩) (lt_of_cell hP) n6.symm).trans hP
  have gM := hM.only o1 n7.symm
  have gA := hA.only o1 n8.symm
  have gX := hX.only o1 n9.symm
  have gB := hB.only o1 n10.symm
  have gI := hI.only o1 n11.symm
  clear hN hP hM hA hX hB hI
  go_enter Try.func14, Try.ntmps14
  go_wp2_with fail
  generalize hw : w.setCell ⟨N, 0, none⟩ (.int .i64 1) = W at *
  clear hw h0 f0
  have gB1 := gB.1
  have od : Only (fun _ => False) W W.drew := (Only.refl _ W).drew
  have dI := gI.only od id
  have dM := gM.only od id
  have dA := gA.only od id
  have dX := gX.only od id
  go_region_with (refine (in_first I M A X a v0 _ dI dM dA dX n1 n2 n3 n4 n5 ha).mono ?_; rintro e w2 ⟨rfl, q1, q2, q3⟩; have q4 := ((gB.only od id).only q3 (fun q => q.elim n12 n13)).1)
  all_goals
    go_wp2
    go_ret
    refine ⟨rfl, (o1.mono fun _ _ h => .inl h).trans ((od.mono fun _ _ h => h.elim).trans q3 fun _ _ h => h) (fun _ _ h => .inr h), q1, (gN.only od id).only q3 (fun q => q.elim n11 n7), q2⟩


end Go.Proofs.Ytlcjhnbnjhgklaa.onceWithin
