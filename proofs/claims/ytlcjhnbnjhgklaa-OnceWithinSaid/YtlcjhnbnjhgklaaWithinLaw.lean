/- OnceWithin: the law itself. Conditions: none but those of the statement itself. -/
import Derived.Test.YtlcjhnbnjhgklaaWithin
import Derived.Deep.LoopGhost
namespace Go.Proofs.Ytlcjhnbnjhgklaa.onceWithin
open Go.RowKit Go.MuLone

theorem fn16 (w : World) : Calls Try.prog 16 #[] w fun e w' => e = .returned (.int .i64 (-1)) ∧ w = w' := by
  go_enter Try.func16, Try.ntmps16
  go_wp2
  go_ret
  exact ⟨rfl, rfl⟩

/-- What stands still, whatever the round: the boxes of a, b and of the inner cell's pointer. -/
structure Still (w : World) (A B P I : Nat) (a b : Int) : Prop where
  hA : Num w A a
  hB : Num w B b
  hP : w.cell? ⟨P, 0, none⟩ = some (.pointer (some ⟨I, 0, none⟩))

theorem Still.only {w w' : World} {A B P I : Nat} {a b : Int} {S : Nat → Prop} (h : Still w A B P I a b) (ho : Only S w w') (nA : ¬ S A) (nB : ¬ S B) (nP : ¬ S P) : Still w' A B P I a b :=
  ⟨h.hA.only ho nA, h.hB.only ho nB, (ho.cell (lt_of_cell h.hP) nP).trans h.hP⟩

/-- The two cells and the two counters: ahead of the first round (d = 0), behind it (d = 1). -/
structure Cells2 (w : World) (I O N M : Nat) (d : Int) (vI vO : Value) : Prop where
  hI : CellIs w I 0 d vI
  hO : CellIs w O 0 d vO
  hN : Num w N d
  hM : Num w M d

theorem Cells2.only {w w' : World} {I O N M : Nat} {d : Int} {vI vO : Value} {S : Nat → Prop} (h : Cells2 w I O N M d vI vO) (ho : Only S w w') (nI : ¬ S I) (nO : ¬ S O) (nN : ¬ S N) (nM : ¬ S M) : Cells2 w' I O N M d vI vO :=
  ⟨h.hI.only ho nI, h.hO.only ho nO, h.hN.only ho nN, h.hM.only ho nM⟩

/-- The outer cell, made. -/
theorem out_first (N P M A X B I O : Nat) (a b : Int) (vI vO : Value) (w : World) (hS : Still w A B P I a b) (hC : Cells2 w I O N M 0 vI vO) (hX : Num w X 0)
    (n1 : M ≠ I) (n2 : M ≠ A) (n3 : M ≠ X) (n4 : A ≠ I) (n5 : X ≠ I) (n6 : N ≠ P) (n7 : N ≠ M) (n8 : N ≠ A) (n9 : N ≠ X) (n10 : N ≠ B) (n11 : N ≠ I) (n12 : B ≠ I) (n13 : B ≠ M)
    (m1 : O ≠ N) (m2 : O ≠ P) (m3 : O ≠ M) (m4 : O ≠ A) (m5 : O ≠ X) (m6 : O ≠ B) (m7 : O ≠ I) (ha : wrap64 (a + 0) = a) :
    Calls Try.prog 13 #[.pointer (some ⟨O, 0, none⟩), .func (.func 14) #[] #[.pointer (some ⟨N, 0, none⟩), .pointer (some ⟨P, 0, none⟩), .pointer (some ⟨M, 0, none⟩), .pointer (some ⟨A, 0, none⟩), .pointer (some ⟨X, 0, none⟩), .pointer (some ⟨B, 0, none⟩)]] w fun e w' =>
      e = .returned (.int .i64 (bits .xor .i64 a b)) ∧ Cells2 w' I O N M 1 (.int .i64 a) (.int .i64 (bits .xor .i64 a b)) ∧ Only (fun k => k = O ∨ k = N ∨ k = I ∨ k = M) w w' := by
  refine (get_facts O 0 14 _ (bits .xor .i64 a b) vO w (fun k => k = N ∨ k = I ∨ k = M) (fun w2 => CellIs w2 I 0 1 (.int .i64 a) ∧ Num w2 N 1 ∧ Num w2 M 1) (enters14 _) hC.hO
    (fun q => by rcases q with q | q | q; exact m1 q; exact m7 q; exact m3 q) (fun k q => by rcases q with q | q | q <;> subst q; exact lt_of_cell hC.hN.1; exact lt_of_cell hC.hI.c0; exact lt_of_cell hC.hM.1) (fun w1 ho _ => ?_)
    (fun w2 w' f o => ⟨f.1.only o m7.symm, f.2.1.only o m1.symm, f.2.2.only o m3.symm⟩)).mono ?_
  · exact fn14 N P M A X B I a b vI w1 (hC.hN.only ho m1.symm) ((ho.cell (lt_of_cell hS.hP) m2.symm).trans hS.hP) (hC.hM.only ho m3.symm) (hS.hA.only ho m4.symm) (hX.only ho m5.symm) (hS.hB.only ho m6.symm) (hC.hI.only ho m7.symm) n1 n2 n3 n4 n5 n6 n7 n8 n9 n10 n11 n12 n13 ha
  · rintro e w' ⟨rfl, q1, ⟨q2, q3, q4⟩, q5⟩
    exact ⟨rfl, ⟨q2, q1, q3, q4⟩, q5⟩

/-- The loop's relation. -/
def Rel (w : World) (A B P I O N M X0 : Nat) (a b times : Int) (x : Value) (k : Nat) (wr : World) : Prop :=
  ∃ X, x = .pointer (some ⟨X, 0, none⟩) ∧ (k : Int) ≤ times + 1 ∧ X0 ≤ X ∧ Num wr X k ∧ Still wr A B P I a b ∧ Below w.heap.size w wr ∧
    ((k = 0 ∧ Cells2 wr I O N M 0 (.int .i64 0) (.int .i64 0)) ∨ (1 ≤ k ∧ Cells2 wr I O N M 1 (.int .i64 a) (.int .i64 (bits .xor .i64 a b))))

set_option maxRecDepth 100000 in
set_option maxHeartbeats 2000000 in
theorem walk_in (a b times : Int) (h1 : 0 ≤ times) (h2 : times ≤ 60) (ha : wrap64 (a + 0) = a) (w : World) :
    Calls Try.prog 4 #[.int .i64 a, .int .i64 b, .int .i64 times] w fun e w' => e = .returned (.bool true) ∧ Below w.heap.size w w' := by
  have hmf : ∀ (fn : Fn) (first cap : Array Value) (w : World), (Instr.makeFunc fn first cap).run Try.prog w = .ok (.func fn first cap) w := fun _ _ _ _ => rfl
  have HA := Lib.hid ha
  clear ha
  go_enter Try.func4, Try.ntmps4
  go_wp2_with fail
  refine (alive_true _).mono ?_
  rintro e w1 ⟨rfl, hb⟩
  have n1 := hb.size
  simp at n1
  have cA := hb.cell (p := ⟨w.heap.size, 0, none⟩) (by simp; omega)
  have cB := hb.cell (p := ⟨w.heap.size + 1, 0, none⟩) (by simp)
  have zA := hb.frozen (p := ⟨w.heap.size, 0, none⟩) (by simp; omega)
  have zB := hb.frozen (p := ⟨w.heap.size + 1, 0, none⟩) (by simp)
  simp at cA cB zA zB
  go_wp2_with fail
  have R0 : Rel w w.heap.size (w.heap.size + 1) (w1.heap.size + 1 + 1) w1.heap.size (w1.heap.size + 1) (w1.heap.size + 1 + 1 + 1) (w1.heap.size + 1 + 1 + 1 + 1) (w1.heap.size + 1 + 1 + 1 + 1 + 1) a b times (.pointer (some ⟨w1.heap.size + 1 + 1 + 1 + 1 + 1, 0, none⟩)) 0 ((((((w1.alloc (.cells #[.int .u32 0, .int .i32 0, .int .u32 0, .int .u32 0, .int .i64 0] 44)).alloc (.cells #[.int .u32 0, .int .i32 0, .int .u32 0, .int .u32 0, .int .i64 0] 44)).alloc (.cells #[.pointer (some ⟨w1.heap.size, 0, none⟩)] 42)).alloc (.cells #[.int .i64 0] 3)).alloc (.cells #[.int .i64 0] 3)).alloc (.cells #[.int .i64 0] 3)) := by
    have q : ∀ (o1 o2 o3 o4 o5 o6 : Obj), Only (fun _ => False) w1 ((((((w1.alloc o1).alloc o2).alloc o3).alloc o4).alloc o5).alloc o6) := fun _ _ _ _ _ _ => (((((((Only.refl _ w1).alloc _).alloc _).alloc _).alloc _).alloc _).alloc _)
    refine ⟨_, rfl, by omega, Nat.le_refl _, ⟨by go_simp, by go_simp⟩, ⟨Num.only ⟨cA, zA⟩ (q _ _ _ _ _ _) id, Num.only ⟨cB, zB⟩ (q _ _ _ _ _ _) id, by go_simp⟩, ?_, .inl ⟨rfl, ⟨?_, ?_, ⟨by go_simp, by go_simp⟩, ⟨by go_simp, by go_simp⟩⟩⟩⟩
    · exact (((Below.refl _ w).alloc (Nat.le_refl _) _).alloc (by simp) _).trans ((hb.mono (by simp; omega)).trans ((q _ _ _ _ _ _).below (by omega) (fun _ _ => id)))
    · refine ⟨?_, ?_, ?_, ?_, ?_, ?_, ?_, ?_⟩ <;> go_simp
    · refine ⟨?_, ?_, ?_, ?_, ?_, ?_, ?_, ?_⟩ <;> go_simp
  have R1 := Lib.hid R0
  clear R0 cA cB zA zB
  go_loopg [11] (times + 1).toNat (fun g x wr => ∃ k : Nat, g + k = (times + 1).toNat ∧ Rel w w.heap.size (w.heap.size + 1) (w1.heap.size + 1 + 1) w1.heap.size (w1.heap.size + 1) (w1.heap.size + 1 + 1 + 1) (w1.heap.size + 1 + 1 + 1 + 1) (w1.heap.size + 1 + 1 + 1 + 1 + 1) a b times x k wr)
  case atStart => exact ⟨0, by omega, R1.out⟩
  case round =>
    obtain ⟨k, hg, X, rfl, hk, hX0, hX, hS, hB, hst⟩ := hrel
    clear R1 hb
    have hout : Calls Try.prog 13 #[.pointer (some ⟨w1.heap.size + 1, 0, none⟩), .func (.func 14) #[] #[.pointer (some ⟨w1.heap.size + 1 + 1 + 1, 0, none⟩), .pointer (some ⟨w1.heap.size + 1 + 1, 0, none⟩), .pointer (some ⟨w1.heap.size + 1 + 1 + 1 + 1, 0, none⟩), .pointer (some ⟨w.heap.size, 0, none⟩), .pointer (some ⟨X, 0, none⟩), .pointer (some ⟨w.heap.size + 1, 0, none⟩)]] wr fun e w' =>
        e = .returned (.int .i64 (bits .xor .i64 a b)) ∧ Cells2 w' w1.heap.size (w1.heap.size + 1) (w1.heap.size + 1 + 1 + 1) (w1.heap.size + 1 + 1 + 1 + 1) 1 (.int .i64 a) (.int .i64 (bits .xor .i64 a b)) ∧ Only (fun k => k = w1.heap.size + 1 ∨ k = w1.heap.size + 1 + 1 + 1 ∨ k = w1.heap.size ∨ k = w1.heap.size + 1 + 1 + 1 + 1) wr w' := by
      rcases hst with ⟨rfl, hc⟩ | ⟨_, hc⟩
      · exact out_first _ _ _ _ _ _ _ _ a b _ _ _ hS hc hX (by omega) (by omega) (by omega) (by omega) (by omega) (by omega) (by omega) (by omega) (by omega) (by omega) (by omega) (by omega) (by omega) (by omega) (by omega) (by omega) (by omega) (by omega) (by omega) (by omega) HA.out
      · refine (got_done _ 0 _ _ _ _ _ hc.hO).mono ?_
        rintro e w' ⟨rfl, ho⟩
        exact ⟨rfl, hc.only ho id id id id, ho.mono fun _ _ h => h.elim⟩
    have HO := Lib.hid hout
    have x1 := hX.1
    clear hout
    by_cases hlt : (k : Int) ≤ times
    · clear hst
      go_wp2_with fail
      refine HO.out.mono ?_
      rintro e w2 ⟨rfl, hc, ho⟩
      have gS := hS.only ho (fun q => by omega) (fun q => by omega) (fun q => by omega)
      have gX := hX.only ho (fun q => by omega)
      have gB : Below w.heap.size w w2 := hB.trans (ho.below (by have := hB.size; omega) (fun k hk q => by omega))
      clear HO hX hS hB ho x1
      go_wp2_with fail
      have od : Only (fun _ => False) w2 w2.drew := (Only.refl _ w2).drew
      have hd := hc.hI.only od id
      have eA := gS.hA.1
      have eB := gS.hB.1
      have eP := gS.hP
      refine wp_calm ?_
      go_region_with (refine (got_done _ 0 _ _ _ _ _ hd).mono ?_; rintro e w3 ⟨rfl, q3⟩; have q4 := ((gS.only od id id id).only q3 id id id); have q5 := q4.hA.1; have q6 := q4.hB.1; have q7 := q4.hP)
      all_goals
        have o3 : Only (fun _ => False) w2 w3 := od.trans q3 (fun _ _ => id)
        have hc3 := hc.only o3 id id id id
        have gX3 := gX.only o3 id
        have gB3 : Below w.heap.size w w3 := gB.trans (o3.below (by have := gB.size; omega) (fun _ _ => id))
        have eX := gX3.1
        have sX := lt_of_cell eX
        clear o3 q3 hc gX gB gS hd od eA eB eP q5 q6 q7
        go_wp2_with fail
        go_roundg (gk - 1)
        case measure => omega
        case rel =>
          refine ⟨k + 1, by omega, w3.heap.size, rfl, by omega, by omega, ?_, ?_, ?_, .inr ⟨by omega, ?_⟩⟩
          · exact ⟨by simp, by simp⟩
          · exact q4.only ((Only.refl (fun _ => False) w3).alloc _) id id id
          · exact gB3.alloc (by have := gB3.size; omega) _
          · exact hc3.only ((Only.refl (fun _ => False) w3).alloc _) id id id id
    · obtain ⟨hk1, hc⟩ : 1 ≤ k ∧ Cells2 wr w1.heap.size (w1.heap.size + 1) (w1.heap.size + 1 + 1 + 1) (w1.heap.size + 1 + 1 + 1 + 1) 1 (.int .i64 a) (.int .i64 (bits .xor .i64 a b)) := by
        rcases hst with ⟨rfl, _⟩ | h
        · omega
        · exact h
      have eN := hc.hN.1
      have eM := hc.hM.1
      clear hst HO
      go_wp2_with fail
      go_ret
      exact ⟨rfl, hB⟩

theorem walk_out (a b times : Int) (h : ¬ (0 ≤ times ∧ times ≤ 60)) (w : World) :
    Calls Try.prog 4 #[.int .i64 a, .int .i64 b, .int .i64 times] w fun e w' => e = .returned (.bool true) ∧ Below w.heap.size w w' := by
  have h3 : times < 0 ∨ (0 ≤ times ∧ 60 < times) := by omega
  clear h
  rcases h3 with h | ⟨h1, h⟩
  all_goals
    go_enter Try.func4, Try.ntmps4
    go_wp2_with (go_at_call 9; refine (alive_true _).mono ?_; rintro e w' ⟨rfl, hb⟩)
    go_ret
    exact ⟨rfl, (((Below.refl _ w).alloc (Nat.le_refl _) _).alloc (by simp) _).trans (hb.mono (by simp; omega))⟩

theorem walk (a b times : Int) (w : World) (wa : (Lit.int .i64 a).wf = true) (_ : (Lit.int .i64 b).wf = true) (_ : (Lit.int .i64 times).wf = true) :
    Calls Try.prog 4 #[.int .i64 a, .int .i64 b, .int .i64 times] w fun e w' => e = .returned (.bool true) ∧ Below w.heap.size w w' := by
  by_cases h : 0 ≤ times ∧ times ≤ 60
  · exact walk_in _ _ _ h.1 h.2 (by rw [Int.add_zero]; exact IntWalk.wrap64_in a (by have h := wa; simp [Lit.wf] at h; exact ⟨h.1, h.2⟩)) w
  · exact walk_out _ _ _ h w
end Go.Proofs.Ytlcjhnbnjhgklaa.onceWithin
