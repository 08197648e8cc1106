/- Package walk over the law's pages: how a cursor lies in memory. Conditions: one goroutine; the pages lie in memory. -/
import Derived.Test.YtklccpaphkpgfaaGreatZTree8
namespace Go.Proofs.YtklccpaphkpgfaaGreat
open Go.RowKit

/-- A page's row, as a cursor has it. -/
def NodeRow (w : World) (v : Value) : Node → Prop
  | .leaf l => RowC itemC 3 w v l ∧ l ≠ [] ∧ l.length ≤ 255 ∧ rightL l = true
  | .twig l => RowC kidC 2 w v l ∧ l ≠ [] ∧ (∀ k ∈ l, 2 ≤ k.page ∧ k.page < 4000) ∧ l.length ≤ 255 ∧ rightL l = true
theorem NodeRow.only {w w' : World} {v : Value} {n : Node} {S : Nat → Prop} (h : NodeRow w v n) (ho : Only S w w') (hs : ∀ k, rowBlock v = some k → ¬ S k) : NodeRow w' v n := by
  cases n with
  | leaf l => exact ⟨h.1.only ho hs, h.2⟩
  | twig l => exact ⟨h.1.only ho hs, h.2⟩
theorem NodeRow.form {w : World} {v : Value} {n : Node} (h : NodeRow w v n) : ∃ a k c, v = .slice a k c := by
  cases n with
  | leaf l => exact capOk_form h.1.cap
  | twig l => exact capOk_form h.1.cap
theorem NodeRow.lt {w : World} {v : Value} {n : Node} (h : NodeRow w v n) : ∀ j, rowBlock v = some j → j < w.heap.size := by
  cases n with
  | leaf l => exact row_lt h.1.row h.2.1 (fun _ => rfl) (by omega)
  | twig l => exact row_lt h.1.row h.2.1 (fun _ => rfl) (by omega)

def placeC (p : Place) (v : Value) : List Value := match p.node with
  | .leaf _ => [v, .slice none 0 0, .int .i64 p.at_]
  | .twig _ => [.slice none 0 0, v, .int .i64 p.at_]
def placeE (x : Place × Value) : List Value := placeC x.1 x.2
theorem placeE_length (x : Place × Value) : (placeE x).length = 3 := by
  unfold placeE placeC
  split <;> rfl

/-- A cursor in memory: its block, the blocks that are its own, the rows of its pages. -/
structure CurIn (w : World) (x b : Nat) (c : Cur) (F : Nat → Prop) (vS : Value) (vs : List Value) : Prop where
  heap : w.heap[x]? = some (.cells #[pagesV b, .int .i64 c.root, vS, .int .i64 c.e] 82 (0, 0))
  own : w.ownsRow 0 123 3 vS c.stack.length ((c.stack.reverse.zip vs).flatMap placeE)
  len : vs.length = c.stack.length
  rows : ∀ (j : Nat) (p : Place) (v : Value), c.stack.reverse[j]? = some p → vs[j]? = some v → NodeRow w v p.node
  fx : F x
  fS : ∀ k, vS.ownBlock = some k → F k ∧ k ≠ x
  fv : ∀ v ∈ vs, ∀ k, rowBlock v = some k → F k ∧ k ≠ x ∧ vS.ownBlock ≠ some k
  small : ∀ k, F k → k < w.heap.size
  apart : ∀ k, F k → ¬ pown w b k
  pages : PagesAt w b c.p
def CurAt (w : World) (x b : Nat) (c : Cur) (F : Nat → Prop) : Prop := ∃ vS vs, CurIn w x b c F vS vs

/-- What a call on a cursor may change. -/
structure CStep (b : Nat) (F F' : Nat → Prop) (w w' : World) : Prop where
  only : Only (fun k => F k ∨ pown w b k) w w'
  grow : ∀ k, F' k → F k ∨ w.heap.size ≤ k
  own : ∀ k, pown w' b k → pown w b k ∨ w.heap.size ≤ k
theorem CStep.refl (b : Nat) (F : Nat → Prop) (w : World) : CStep b F F w w := ⟨Only.refl _ w, fun _ h => .inl h, fun _ h => .inl h⟩
theorem CStep.trans {b : Nat} {F F1 F2 : Nat → Prop} {w w1 w2 : World} (h : CStep b F F1 w w1) (k : CStep b F1 F2 w1 w2) : CStep b F F2 w w2 := by
  have hs := h.only.size
  refine ⟨h.only.trans k.only fun i hi q => ?_, fun i q => ?_, fun i q => ?_⟩
  · rcases q with q | q
    · exact .inl ((h.grow i q).resolve_right (by omega))
    · exact .inr ((h.own i q).resolve_right (by omega))
  · rcases k.grow i q with q | q
    · exact h.grow i q
    · exact .inr (by omega)
  · rcases k.own i q with q | q
    · exact h.own i q
    · exact .inr (by omega)
theorem CurIn.lt {w : World} {x b : Nat} {c : Cur} {F : Nat → Prop} {vS : Value} {vs : List Value} (h : CurIn w x b c F vS vs) : x < w.heap.size := h.small x h.fx
/-- Where nothing of the cursor's is changed it is as it was. -/
theorem CurIn.beside {w w' : World} {x b : Nat} {c : Cur} {p' : PSt} {F T : Nat → Prop} {vS : Value} {vs : List Value} (h : CurIn w x b c F vS vs) (ho : Only T w w') (hT : ∀ k, F k → ¬ T k) (hp : PagesAt w' b p') (hown : ∀ k, pown w' b k → pown w b k ∨ w.heap.size ≤ k) : CurIn w' x b { c with p := p' } F vS vs :=
  ⟨(ho.block x h.lt (hT x h.fx)).trans h.heap, own_only h.own ho (fun k hk => hT k (h.fS k hk).1), h.len, fun j p v hp hv => (h.rows j p v hp hv).only ho (fun k hk => hT k (h.fv v (List.mem_of_getElem? hv) k hk).1), h.fx, h.fS, h.fv,
    fun k hk => Nat.lt_of_lt_of_le (h.small k hk) ho.size, fun k hk q => (hown k q).elim (h.apart k hk) fun q => by have := h.small k hk; omega, hp⟩
theorem CurIn.still {w w' : World} {x b : Nat} {c : Cur} {F : Nat → Prop} {vS : Value} {vs : List Value} (h : CurIn w x b c F vS vs) (ho : Only (fun _ => False) w w') : CurIn w' x b c F vS vs :=
  h.beside ho (fun _ _ => id) (h.pages.still ho) (fun k q => .inl ((pown_of_heap (ho.block b h.pages.lt id) k).1 q))
theorem CStep.still {b : Nat} {F : Nat → Prop} {w w' : World} (hb : b < w.heap.size) (ho : Only (fun _ => False) w w') : CStep b F F w w' :=
  ⟨ho.mono fun _ _ q => q.elim, fun _ q => .inl q, fun k q => .inl ((pown_of_heap (ho.block b hb id) k).1 q)⟩
theorem CurAt.still {w w' : World} {x b : Nat} {c : Cur} {F : Nat → Prop} (h : CurAt w x b c F) (ho : Only (fun _ => False) w w') : CurAt w' x b c F := by
  obtain ⟨vS, vs, h⟩ := h
  exact ⟨vS, vs, h.still ho⟩
theorem CurAt.lt {w : World} {x b : Nat} {c : Cur} {F : Nat → Prop} (h : CurAt w x b c F) : b < w.heap.size ∧ x < w.heap.size := by
  obtain ⟨vS, vs, h⟩ := h
  exact ⟨h.pages.lt, h.lt⟩

set_option maxRecDepth 100000 in
theorem wErr_is (w : World) (x b : Nat) (c : Cur) (F : Nat → Prop) (h : CurAt w x b c F) :
    Calls Tryz.prog 31 #[.pointer (some ⟨x, 0, none⟩)] w fun e w' => e = .returned (.int .i64 c.e) ∧ w = w' := by
  obtain ⟨vS, vs, h⟩ := h
  have c3 := heap_cell h.heap 3
  simp only [List.getElem?_toArray, List.getElem?_cons_zero, List.getElem?_cons_succ] at c3
  go_enter Tryz.func31, Tryz.ntmps31
  go_wp2_with fail
  go_ret
  exact ⟨rfl, rfl⟩
theorem wErr_nil (w : World) : Calls Tryz.prog 31 #[.pointer none] w fun e w' => e = .returned (.int .i64 1) ∧ w = w' := by
  go_enter Tryz.func31, Tryz.ntmps31
  go_wp2_with fail
  go_ret
  exact ⟨rfl, rfl⟩

set_option maxRecDepth 100000 in
theorem wfail_is (w : World) (x b : Nat) (c : Cur) (F : Nat → Prop) (e : Int) (h : CurAt w x b c F) :
    Calls Tryz.prog 139 #[.pointer (some ⟨x, 0, none⟩), .int .i64 e] w fun r w' => r = .returned (.bool false) ∧ CurAt w' x b { c with e := e, stack := [] } F ∧ CStep b F F w w' := by
  obtain ⟨vS, vs, h⟩ := h
  have c3 := heap_cell h.heap 3
  have c2 := heap_cell h.heap 2
  have z3 := heap_frozen h.heap 3
  have z2 := heap_frozen h.heap 2
  simp only [List.getElem?_toArray, List.getElem?_cons_zero, List.getElem?_cons_succ] at c3 c2
  have ho := ((Only.refl (fun k => k = x) w).put x 3 rfl (.int .i64 e)).put x 2 rfl (.slice none 0 0)
  have hh := heap_setCell (heap_setCell h.heap 3 (.int .i64 e)) 2 (.slice none 0 0)
  have hb : ∀ k, pown w b k → ¬ k = x := fun k q e => h.apart k (e ▸ h.fx) q
  have hP : PagesAt ((w.setCell ⟨x, 3, none⟩ (.int .i64 e)).setCell ⟨x, 2, none⟩ (.slice none 0 0)) b c.p := by
    obtain ⟨vL, vG, hI⟩ := h.pages
    exact ⟨vL, vG, hI.beside ho hb⟩
  have hpw : ∀ k, pown ((w.setCell ⟨x, 3, none⟩ (.int .i64 e)).setCell ⟨x, 2, none⟩ (.slice none 0 0)) b k → pown w b k := fun k q => (pown_of_heap (ho.block b h.pages.lt (hb b (.inl rfl))) k).1 q
  go_enter Tryz.func139, Tryz.ntmps139
  go_wp2_with fail
  go_ret
  refine ⟨rfl, ⟨.slice none 0 0, [], ⟨hh, ⟨rfl, .inl ⟨rfl, rfl⟩⟩, rfl, fun j p v hj _ => by simp at hj, h.fx, (fun k q => by cases q), (fun v hv => by cases hv), fun k hk => Nat.lt_of_lt_of_le (h.small k hk) ho.size, fun k hk q => h.apart k hk (hpw k q), hP⟩⟩, ⟨ho.mono fun k _ q => .inl (q ▸ h.fx), fun k q => .inl q, fun k q => .inl (hpw k q)⟩⟩

/-- The place on top. -/
theorem CurIn.top {w : World} {x b : Nat} {c : Cur} {F : Nat → Prop} {vS : Value} {vs : List Value} (h : CurIn w x b c F vS vs) {p : Place} {st : List Place} (hs : c.stack = p :: st) :
    ∃ g cap us v, vS = .slice (some ⟨g, 0, none⟩) (st.length + 1) cap ∧ vs = us ++ [v] ∧ us.length = st.length ∧ NodeRow w v p.node ∧ (c.stack.reverse.zip vs).flatMap placeE = (st.reverse.zip us).flatMap placeE ++ placeC p v := by
  have hl := h.len
  rw [hs, List.length_cons] at hl
  obtain ⟨us, v, rfl⟩ : ∃ us v, vs = us ++ [v] := by
    rcases List.eq_nil_or_concat vs with q | ⟨us, v, q⟩
    · rw [q] at hl; simp at hl
    · exact ⟨us, v, by rw [q, List.concat_eq_append]⟩
  have hul : us.length = st.length := by simpa using hl
  obtain ⟨g, cap, e⟩ : ∃ g cap, vS = .slice (some ⟨g, 0, none⟩) (st.length + 1) cap := by
    have := h.own.2
    rw [hs, List.length_cons] at this
    rcases this with ⟨_, q⟩ | ⟨g, cap, _, q, _⟩
    · simp at q
    · exact ⟨g, cap, q⟩
  refine ⟨g, cap, us, v, e, rfl, hul, h.rows st.length p v ?_ ?_, ?_⟩
  · rw [hs, List.reverse_cons, List.getElem?_append_right (by simp)]
    simp
  · rw [List.getElem?_append_right (by omega), hul]
    simp
  · rw [hs, List.reverse_cons, List.zip_append (by simp [hul]), List.flatMap_append]
    simp [placeE]

set_option maxRecDepth 100000 in
set_option maxHeartbeats 1000000 in
theorem wtop_is (w : World) (x b : Nat) (c : Cur) (F : Nat → Prop) (g cap : Nat) (vs : List Value) (n : Nat) (h : CurIn w x b c F (.slice (some ⟨g, 0, none⟩) (n + 1) cap) vs) (hn : n ≤ 1000) :
    Calls Tryz.prog 83 #[.pointer (some ⟨x, 0, none⟩)] w fun e w' => e = .returned (.pointer (some ⟨g, n * 3, none⟩)) ∧ Only (fun _ => False) w w' := by
  have c2 := heap_cell h.heap 2
  simp only [List.getElem?_toArray, List.getElem?_cons_zero, List.getElem?_cons_succ] at c2
  have q2 : ∀ p : Grew w, p.u.cell? ⟨x, 2, none⟩ = some (.slice (some ⟨g, 0, none⟩) (n + 1) cap) := fun p => p.cell c2
  have hw : IntKind.i64.wrap (n : Int) = (n : Int) := by exact IntWalk.i64_in _ (by omega)
  have hn1 : (n : Int) < (n : Int) + 1 := by omega
  go_enter Tryz.func83, Tryz.ntmps83
  go_wp2_with fail
  refine wp_region_grew (by kernel_rfl) (by kernel_rfl) (fun _W h0 h1 => ?_)
  repeat (refine h1 _ _ _ (fun K hK => ?_); go_simp; refine hK _ ?_; clear hK K)
  refine h0 _ (fun p => ?_)
  clear h0 h1
  go_wp2_with fail
  go_ret
  exact ⟨rfl, p.h⟩
end Go.Proofs.YtklccpaphkpgfaaGreat
