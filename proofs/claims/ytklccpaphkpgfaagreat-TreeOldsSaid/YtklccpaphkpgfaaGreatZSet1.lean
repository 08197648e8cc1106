/- A set of numbers in memory, kept as a map of bools: what a look-up tells, what a store makes. Conditions: one goroutine; the map is the call's own. -/
import Derived.Test.YtklccpaphkpgfaaGreatZTree8
import Derived.Maps.OwnOps
import Derived.Maps.Views
namespace Go.Proofs.YtklccpaphkpgfaaGreat
open Go.RowKit

theorem int_law : Go.Maps.Keyed Tryz.prog 3 := Go.Maps.int_keyed Tryz.underlying3
theorem zero_bool (w : World) : (zeroValue 4).run Tryz.prog w = .ok (.bool false) w := by kernel_rfl
theorem plain_bool_inv {P : Program} {e : TypeId} (he : P.underlying e = some .bool) {v : Value} {z : DataW Unit × List MemPlace} (h : plainElem P e v = some z) : ∃ x, v = .bool x ∧ z = (.lit (.bool x), []) := by
  unfold plainElem at h
  rw [he] at h
  cases v <;> simp at h
  exact ⟨_, rfl, h.symm⟩

/-- Block b is a map of bools in which just the numbers of a list stand, each as true. -/
def SetAt (w : World) (b : Nat) (A : List Int) : Prop :=
  ∃ D : DataW Unit, w.ownsMap Tryz.prog 3 (plainElem Tryz.prog 4) b A.length D ∧ ∀ (x : Int) (zd : DataW Unit), D.atKey (.int .i64 x) zd = if x ∈ A then .lit (.bool true) else zd

theorem SetAt.made (w : World) : SetAt (w.alloc (.map #[] 0)) w.heap.size [] :=
  ⟨.map [], World.ownsMap_made _ _ _ _, fun x zd => by simp; rfl⟩
theorem SetAt.lt {w : World} {b : Nat} {A : List Int} (h : SetAt w b A) : b < w.heap.size := by
  obtain ⟨D, h, _⟩ := h
  exact h.lt
theorem SetAt.only {w w' : World} {b : Nat} {A : List Int} {F : Nat → Prop} (h : SetAt w b A) (ho : Only F w w') (hF : ¬ F b) : SetAt w' b A := by
  have hlt := h.lt
  obtain ⟨D, ⟨es, clock, hb, r⟩, hA⟩ := h
  exact ⟨D, ⟨es, clock, (ho.block b hlt hF).trans hb, r⟩, hA⟩
/-- A look-up. -/
theorem SetAt.look {w : World} {b : Nat} {A : List Int} (h : SetAt w b A) (i : Int) (hw : (Lit.int .i64 i).wf = true) :
    (Instr.lookup 109 (.map (some b)) (.int .i64 i) false).run Tryz.prog w = .ok (.bool (decide (i ∈ A))) w := by
  obtain ⟨D, h, hA⟩ := h
  obtain ⟨v, ps, hrun, hv⟩ := h.lookup int_law Tryz.underlying109 (zero_bool w) (plainElem_bool Tryz.underlying4 false) (Go.Maps.keyOf_int_mk Tryz.underlying3 hw)
  obtain ⟨x, rfl, hx⟩ := plain_bool_inv Tryz.underlying4 hv
  rw [hA i] at hx
  have hx2 : decide (i ∈ A) = x := by
    have h3 := congrArg Prod.fst hx
    simp only at h3
    by_cases hi : i ∈ A
    · rw [if_pos hi] at h3
      simp only [DataW.lit.injEq, Lit.bool.injEq] at h3
      rw [← h3, decide_eq_true hi]
    · rw [if_neg hi] at h3
      simp only [DataW.lit.injEq, Lit.bool.injEq] at h3
      rw [← h3, decide_eq_false hi]
  rw [hx2]
  exact hrun
theorem SetAt.not_in {w : World} {b : Nat} {A : List Int} (h : SetAt w b A) (i : Int) (hw : (Lit.int .i64 i).wf = true) (hn : i ∉ A) :
    (Instr.lookup 109 (.map (some b)) (.int .i64 i) false).run Tryz.prog w = .ok (.bool false) w := by
  rw [h.look i hw, decide_eq_false hn]
/-- A store. -/
theorem SetAt.put {w : World} {b : Nat} {A : List Int} (h : SetAt w b A) (i : Int) (hw : (Lit.int .i64 i).wf = true) (hn : A.length < maxLen) :
    ∃ w', (Instr.mapUpdate 109 (.map (some b)) (.int .i64 i) (.bool true)).run Tryz.prog w = .ok () w' ∧ SetAt w' b (i :: A) ∧ Only (fun k => k = b) w w' := by
  obtain ⟨D, h, hA⟩ := h
  obtain ⟨w', hrun, ho, hg⟩ := h.update int_law Tryz.underlying109 hn (Go.Maps.keyOf_int_mk Tryz.underlying3 hw) (plainElem_bool Tryz.underlying4 true)
  have hm : Go.Maps.IsMap D := by
    obtain ⟨es, clock, _, _, _, rfl⟩ := h
    exact ⟨_, rfl⟩
  refine ⟨w', hrun, ⟨_, ho, fun x zd => ?_⟩, (Only.refl (fun k => k = b) w).grown hg (fun k _ q => (Option.some.inj q).symm)⟩
  by_cases hx : x = i
  · subst hx
    rw [Go.Maps.atKey_put_same hm (int_law.key (Go.Maps.keyOf_int_mk Tryz.underlying3 hw))]
    simp
  · rw [Go.Maps.atKey_put_other (by intro q; injection q with _ q; exact hx q), hA x]
    simp [hx]
/-- A store, as an operation of a list. -/
theorem wpList_set_put (w : World) {ops : Array Oper} {rest : List Oper} {o : Oper} {a : Act} {Q : Exit → Act → World → Prop}
    (hg : o.guard = none) (m x v : Operand) (hop : o.op = Op.mapUpdate 109 m x v) (b : Nat) (A : List Int) (i : Int)
    (hm : a.eval m = .map (some b)) (h : SetAt w b A) (hn : A.length < maxLen) (hx : a.eval x = .int .i64 i) (hw : (Lit.int .i64 i).wf = true) (hv : a.eval v = .bool true)
    (hK : ∀ w', SetAt w' b (i :: A) → Only (fun k => k = b) w w' → wpList Tryz.prog ops Q rest (a.put o.dst undef) w') :
    wpList Tryz.prog ops Q (o :: rest) a w := by
  refine wpList_plain hg fun K' hK' => ?_
  obtain ⟨w', hrun, r1, r2⟩ := h.put i hw hn
  unfold Oper.wp
  simp [execOp, hop, hm, hx, hv, hrun, Result.andThen]
  exact hK' _ _ (hK w' r1 r2)
end Go.Proofs.YtklccpaphkpgfaaGreat
