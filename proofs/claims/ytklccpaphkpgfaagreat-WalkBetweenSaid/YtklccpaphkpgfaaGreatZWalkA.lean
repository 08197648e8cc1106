/- Package walk over the law's pages: how a cursor lies in memory. Conditions: one goroutine; the pages lie in memory. -/
import Derived.Test.YtklccpaphkpgfaaGreatZTree8
namespace Go.Proofs.YtklccpaphkpgfaaGreat
open Go.RowKit

/-- A page's row, as a cursor has it. -/
def NodeRow (w : World) (v : Value) : Node → Prop
  | .leaf l => RowC itemC 3 w v l ∧ l ≠ [] ∧ l.length ≤ 255 ∧ rightL l = true
  | .twig l => RowC kidC 2 w v l ∧ l ≠ [] ∧ (∀ k ∈ l, 2 ≤ k.page ∧ k.page < 4000) ∧ l.length ≤ 255 ∧ rightL l = true
theorem NodeRow.only {w w' : World} {v : Value} {n : Node} {S : Nat → Prop} (h : NodeRow w v n) (ho : Only S w w') (hs : ∀ k, rowBlock v = some k → ¬ S k) : NodeRow w' v n := by
  cases n with
  | leaf l => exact ⟨h.1.only ho hs, h.2⟩
  | twig l => exact ⟨h.1.only ho hs, h.2⟩
theorem NodeRow.form {w : World} {v : Value} {n : Node} (h : NodeRow w v n) : ∃ a k c, v = .slice a k c := by
  cases n with
  | leaf l => exact capOk_form h.1.cap
  | twig l => exact capOk_form h.1.cap
theorem NodeRow.lt {w : World} {v : Value} {n : Node} (h : NodeRow w v n) : ∀ j, rowBlock v = some j → j < w.heap.size := by
  cases n with
  | leaf l => exact row_lt h.1.row h.2.1 (fun _ => rfl) (by omega)
  | twig l => exact row_lt h.1.row h.2.1 (fun _ => rfl) (by omega)

def placeC (p : Place) (v : Value) : List Value := match p.node with
  | .leaf _ => [v, .slice none 0 0, .int .i64 p.at_]
  | .twig _ => [.slice none 0 0, v, .int .i64 p.at_]
def placeE (x : Place × Value) : List Value := placeC x.1 x.2
theorem placeE_length (x : Place × Value) : (placeE x).length = 3 := by
  unfold placeE placeC
  split <;> rfl

/-- A cursor in memory: its block, the blocks that are its own, the rows of its pages. -/
structure CurIn (w : World) (x b : Nat) (c : Cur) (F : Nat → Prop) (vS : Value) (vs : List Value) : Prop where
  heap : w.heap[x]? = some (.cells #[pagesV b, .int .i64 c.root, vS, .int .i64 c.e] 82 (0, 0))
  own : w.ownsRow 0 123 3 vS c.stack.length ((c.stack.reverse.zip vs).flatMap placeE)
  len : vs.length = c.stack.length
  rows : ∀ (j : Nat) (p : Place) (v : Value), c.stack.reverse[j]? = some p → vs[j]? = some v → NodeRow w v p.node
  fx : F x
  fS : ∀ k, vS.ownBlock = some k → F k ∧ k ≠ x
  fv : ∀ v ∈ vs, ∀ k, rowBlock v = some k → F k ∧ k ≠ x ∧ vS.ownBlock ≠ some k
  small : ∀ k, F k → k < w.heap.size
  apart : ∀ k, F k → ¬ pown w b k
  pages : PagesAt w b c.p
def CurAt (w : World) (x b : Nat) (c : Cur) (F : Nat → Prop) : Prop := ∃ vS vs, CurIn w x b c F vS vs

/-- What a call on a cursor may change. -/
structure CStep (b : Nat) (F F' : Nat → Prop) (w w' : World) : Prop where
  only : Only (fun k => F k ∨ pown w b k) w w'
  grow : ∀ k, F' k → F k ∨ w.heap.size ≤ k
  own : ∀ k, pown w' b k → pown w b k ∨ w.heap.size ≤ k
theorem CStep.refl (b : Nat) (F : Nat → Prop) (w : World) : CStep b F F w w := ⟨Only.refl _ w, fun _ h => .inl h, fun _ h => .inl h⟩
theorem CStep.trans {b : Nat} {F F1 F2 : Nat → Prop} {w w1 w2 : World} (h : CStep b F F1 w w1) (k : CStep b F1 F2 w1 w2) : CStep b F F2 w w2 := by
  have hs := h.only.size
  refine ⟨h.only.trans k.only fun i hi q => ?_, fun i q => ?_, fun i q => ?_⟩
  · rcases q with q | q
    · exact .inl ((h.grow i q).resolve_right (by omega))
    · exact .inr ((h.own i q).resolve_right (by omega))
  · rcases k.grow i q with q | q
    · exact h.grow i q
    · exact .inr (by omega)
  · rcases k.own i q with q | q
    · exact h.own i q
    · exact .inr (by omega)
theorem CurIn.lt {w : World} {x b : Nat} {c : Cur} {F : Nat → Prop} {vS : Value} {vs : List Value} (h : CurIn w x b c F vS vs) : x < w.heap.size := h.small x h.fx
/-- Where nothing of the cursor's is changed it is as it was. -/
theorem CurIn.beside {w w' : World} {x b : Nat} {c : Cur} {p' : PSt} {F T : Nat → Prop} {vS : Value} {vs : List Value} (h : CurIn w x b c F vS vs) (ho : Only T w w') (hT : ∀ k, F k → ¬ T k) (hp : PagesAt w' b p') (hown : ∀ k, pown w' b k → pown w b k ∨ w.heap.size ≤ k) : CurIn w' x b { c with p := p' } F vS vs :=
  ⟨(ho.block x h.lt (hT x h.fx)).trans h.heap, own_only h.own ho (fun k hk => hT k (h.fS k hk).1), h.len, fun j p v hp hv => (h.rows j p v hp hv).only ho (fun k hk => hT k (h.fv v (List.mem_of_getElem? hv) k hk).1), h.fx, h.fS, h.fv,
    fun k hk => Nat.lt_of_lt_of_le (h.small k hk) ho.size, fun k hk q => (hown k q).elim (h.apart k hk) fun q => by have := h.small k hk; omega, hp⟩
theorem CurIn.still {w w' : World} {x b : Nat} {c : Cur} {F : Nat → Prop} {vS : Value} {vs : List Value} (h : CurIn w x b c F vS vs) (ho : Only (fun _ => False) w w') : CurIn w' x b c F vS vs :=
  h.beside ho (fun _ _ => id) (h.pages.still ho) (fun k q => .inl ((pown_of_heap (ho.block b h.pages.lt id) k).1 q))
theorem CStep.still {b : Nat} {F : Nat → Prop} {w w' : World} (hb : b < w.heap.size) (ho : Only (fun _ => False) w w') : CStep b F F w w' :=
  ⟨ho.mono fun _ _ q => q.elim, fun _ q => .inl q, fun k q => .inl ((pown_of_heap (ho.block b hb id) k).1 q)⟩
theorem CurAt.still {w w' : World} {x b : Nat} {c : Cur} {F : Nat → Prop} (h : CurAt w x b c F) (ho : Only (fun _ => False) w w') : CurAt w' x b c F := by
  obtain ⟨vS, vs, h⟩ := h
  exact ⟨vS, vs, h.still ho⟩
theorem CurAt.lt {w : World} {x b : Nat} {c : Cur} {F : Nat → Prop} (h : CurAt w x b c F) : b < w.heap.size ∧ x < w.heap.size := by
  obtain ⟨vS, vs, h⟩ := h
  exact ⟨h.pages.lt, h.lt⟩

set_option maxRecDepth 100000 in
theorem wErr_is (w : World) (x b : Nat) (c : Cur) (F : Nat → Prop) (h : CurAt w x b c F) :
    Calls Tryz.prog 31 #[.pointer (some ⟨x, 0, none⟩)] w fun e w' => e = .returned (.int .i64 c.e) ∧ w = w' := by
  obtain ⟨vS, vs, h⟩ := h
  have c3 := heap_cell h.heap 3
  simp only [List.getElem?_toArray, List.getElem?_cons_zero, List.getElem?_cons_succ] at c3
  go_enter Tryz.func31, Tryz.ntmps31
  go_wp2_with fail
  go_ret
  exact ⟨rfl, rfl⟩
theorem wErr_nil (w : World) : Calls Tryz.prog 31 #[.pointer none] w fun e w' => e = .returned (.int .i64 1) ∧ w = w' := by
  go_enter Tryz.func31, Tryz.ntmps31
  go_wp2_with fail
  go_ret
  exact ⟨rfl, rfl⟩

set_option maxRecDepth 100000 in
theorem wfail_is (w : World) (x b : Nat) (c : Cur) (F : Nat → Prop) (e : Int) (h : CurAt w x b c F) :
    Calls Tryz.prog 139 #[.pointer (some ⟨x, 0, none⟩), .int .i64 e] w fun r w' => r = .returned (.bool false) ∧ CurAt w' x b { c with e := e, stack := [] } F ∧ CStep b F F w w' := by
  obtain ⟨vS, vs, h⟩ := h
  have c3 := heap_cell h.heap 3
  have c2 := heap_cell h.heap 2
  have z3 := heap_frozen h.heap 3
  have z2 := heap_frozen h.heap 2
  simp only [List.getElem?_toArray, List.getElem?_cons_zero, List.getElem?_cons_succ] at c3 c2
  have ho := ((Only.refl (fun k => k = x) w).put x 3 rfl (.int .i64 e)).put x 2 rfl (.slice none 0 0)
  have hh := heap_setCell (heap_setCell h.heap 3 (.int .i64 e)) 2 (.slice none 0 0)
  have hb : ∀ k, pown w b k → ¬ k = x := fun k q e => h.apart k (e ▸ h.fx) q
  have hP : PagesAt ((w.setCell ⟨x, 3, none⟩ (.int .i64 e)).setCell ⟨x, 2, none⟩ (.slice none 0 0)) b c.p := by
    obtain ⟨vL, vG, hI⟩ := h.pages
    exact ⟨vL, vG, hI.beside ho hb⟩
  have hpw : ∀ k, pown ((w.setCell ⟨x, 3, none⟩ (.int .i64 e)).setCell ⟨x, 2, none⟩ (.slice none 0 0)) b k → pown w b k := fun k q => (pown_of_heap (ho.block b h.pages.lt (hb b (.inl rfl))) k).1 q
  go_enter Tryz.func139, Tryz.ntmps139
  go_wp2_with fail
  go_ret
  refine ⟨rfl, ⟨.slice none 0 0, [], ⟨hh, ⟨rfl, .inl ⟨rfl, rfl⟩⟩, rfl, fun j p v hj _ => by simp at hj, h.fx, (fun k q => by cases q), (fun v hv => by cases hv), fun k hk => Nat.lt_of_lt_of_le (h.small k hk) ho.size, fun k hk q => h.apart k hk (hpw k q), hP⟩⟩, ⟨ho.mono fun k _ q => .inl (q ▸ h.fx), fun k q => .inl q, fun k q => .inl (hpw k q)⟩⟩

/-- The place on top. -/
theorem CurIn.top {w : World} {x b : Nat} {c : Cur} {F : Nat → Prop} {vS : Value} {vs : List Value} (h : CurIn w x b c F vS vs) {p : Place} {st : List Place} (hs : c.stack = p :: st) :
    ∃ g cap us v, vS = .slice (some ⟨g, 0, none⟩) (st.length + 1) cap ∧ vs = us ++ [v] ∧ us.length = st.length ∧ NodeRow w v p.node ∧ (c.stack.reverse.zip vs).flatMap placeE = (st.reverse.zip us).flatMap placeE ++ placeC p v := by
  have hl := h.len
  rw [hs, List.length_cons] at hl
  obtain ⟨us, v, rfl⟩ : ∃ us v, vs = us ++ [v] := by
    rcases List.eq_nil_or_concat vs with q | ⟨us, v, q⟩
    · rw [q] at hl; simp at hl
    · exact ⟨us, v, by rw [q, List.concat_eq_append]⟩
  have hul : us.length = st.length := by simpa using hl
  obtain ⟨g, cap, e⟩ : ∃ g cap, vS = .slice (some ⟨g, 0, none⟩) (st.length + 1) cap := by
    have := h.own.2
    rw [hs, List.length_cons] at this
    rcases this with ⟨_, q⟩ | ⟨g, cap, _, q, _⟩
    · simp at q
    · exact ⟨g, cap, q⟩
  refine ⟨g, cap, us, v, e, rfl, hul, h.rows st.length p v ?_ ?_, ?_⟩
  · rw [hs, List.reverse_cons, List.getElem?_append_right (by simp)]
    simp
  · rw [List.getElem?_append_right (by omega), hul]
    simp
  · rw [hs, List.reverse_cons, List.zip_append (by simp [hul]), List.flatMap_append]
    simp [placeE]

set_option maxRecDepth 100000 in
set_option maxHeartbeats 1000000 in
theorem wtop_is (w : World) (x b : Nat) (c : Cur) (F : Nat → Prop) (g cap : Nat) (vs : List Value) (n : Nat) (h : CurIn w x b c F (.slice (some ⟨g, 0, none⟩) (n + 1) cap) vs) (hn : n ≤ 1000) :
    Calls Tryz.prog 83 #[.pointer (some ⟨x, 0, none⟩)] w fun e w' => e = .returned (.pointer (some ⟨g, n * 3, none⟩)) ∧ Only (fun _ => False) w w' := by
  have c2 := heap_cell h.heap 2
  simp only [List.getElem?_toArray, List.getElem?_cons_zero, List.getElem?_cons_succ] at c2
  have q2 : ∀ p : Grew w, p.u.cell? ⟨x, 2, none⟩ = some (.slice (some ⟨g, 0, none⟩) (n + 1) cap) := fun p => p.cell c2
  have hw : IntKind.i64.wrap (n : Int) = (n : Int) := by exact IntWalk.i64_in _ (by omega)
  have hn1 : (n : Int) < (n : Int) + 1 := by omega
  go_enter Tryz.func83, Tryz.ntmps83
  go_wp2_with fail
  refine wp_region_grew (by kernel_rfl) (by kernel_rfl) (fun _W h0 h1 => ?_)
  repeat (refine h1 _ _ _ (fun K hK => ?_); go_simp; refine hK _ ?_; clear hK K)
  refine h0 _ (fun p => ?_)
  clear h0 h1
  go_wp2_with fail
  go_ret
  exact ⟨rfl, p.h⟩
end Go.Proofs.YtklccpaphkpgfaaGreat

namespace Go.Proofs.YtklccpaphkpgfaaGreat
open Go.RowKit

theorem placeInfo : (Tryz.prog.info? 123).map (fun i => (i.zero, i.size, i.bytes)) = some (some (.agg #[.slice none 0 0, .slice none 0 0, .int .i64 0]), 3, 56) := by kernel_rfl

/-- A page more on the stack. -/
theorem push_end {w w3 W4 wa : World} {x b : Nat} {c : Cur} {F : Nat → Prop} {vS vS' : Value} {vs : List Value} (h : CurIn w3 x b c F vS vs) (hF : ∀ k, F k → k < w.heap.size) (hs : CStep b F F w w3) {B : Nat} {node : Node} {v : Value} (hv : NodeRow w3 v node)
    (hvn : ∀ j, rowBlock v = some j → w.heap.size ≤ j ∧ ¬ pown w3 b j ∧ j ≠ B) (o4 : Only (fun k => k = B) w3 W4) (hB : w.heap.size ≤ B ∧ ¬ pown w3 b B) (hBl : B < w3.heap.size) (o : Obj)
    (hown : wa.ownsRow 0 123 3 vS' (c.stack.length + 1) ((c.stack.reverse.zip vs).flatMap placeE ++ placeC ⟨node, 0⟩ v)) (hg : (W4.drew.alloc o).grownBy wa vS.ownBlock) (hm : Moved (W4.drew.alloc o) vS vS') :
    ∃ F', CurAt (wa.setCell ⟨x, 2, none⟩ vS') x b { c with stack := ⟨node, 0⟩ :: c.stack } F' ∧ CStep b F F' w (wa.setCell ⟨x, 2, none⟩ vS') := by
  have hx3 := h.lt
  have hb3 := h.pages.lt
  have hxw := hF x h.fx
  have hxB : x ≠ B := fun e => by omega
  have hbB : ¬ b = B := fun e => hB.2 (.inl e.symm)
  have hxb : ¬ b = x := fun e => h.apart x h.fx (.inl e.symm)
  have oa : Only (fun k => k = B ∨ vS.ownBlock = some k) w3 wa := (((o4.drew).alloc o).mono (fun k _ q => (.inl q : k = B ∨ vS.ownBlock = some k))).grown hg (fun k _ q => .inr q)
  have oF2 : Only (fun k => k = B ∨ vS.ownBlock = some k ∨ k = x) w3 (wa.setCell ⟨x, 2, none⟩ vS') := (oa.mono (fun k _ q => q.imp (fun q => q) .inl)).put x 2 (.inr (.inr rfl)) _
  have oF : Only (fun k => k = B ∨ F k) w3 (wa.setCell ⟨x, 2, none⟩ vS') := (oa.mono (fun k _ q => q.imp id fun q => (h.fS k q).1)).put x 2 (.inr h.fx) _
  have hSx : vS.ownBlock ≠ some x := fun e => (h.fS x e).2 rfl
  have hxa := (oa.block x hx3 (fun q => q.elim hxB hSx)).trans h.heap
  have hh := heap_setCell hxa 2 vS'
  have hbb : (wa.setCell ⟨x, 2, none⟩ vS').heap[b]? = w3.heap[b]? := oF.block b hb3 (fun q => q.elim hbB (fun q => h.apart b q (.inl rfl)))
  have hpw : ∀ k, pown (wa.setCell ⟨x, 2, none⟩ vS') b k ↔ pown w3 b k := pown_of_heap hbb
  have hsz4 : (W4.drew.alloc o).heap.size = W4.heap.size + 1 := by simp [World.alloc]
  have hs43 := o4.size
  have hw3 := hs.only.size
  have hnew : ∀ k, vS'.ownBlock = some k → vS.ownBlock = some k ∨ w3.heap.size ≤ k := fun k hk => (hm k hk).imp id fun q => by rw [hsz4] at q; omega
  have hSF : ∀ k, vS.ownBlock = some k → k < w.heap.size := fun k hk => hF k (h.fS k hk).1
  have hal := hown.lt
  have hsza : wa.heap.size ≤ (wa.setCell ⟨x, 2, none⟩ vS').heap.size := by simp [World.setCell]
  have hnx : vS'.ownBlock ≠ some x := fun e => (hnew x e).elim hSx (fun q => by omega)
  have hold : ∀ k, w3.heap.size ≤ k → ¬ pown (wa.setCell ⟨x, 2, none⟩ vS') b k := fun k hk q => by
    have := pown_lt h.pages ((hpw k).1 q); omega
  have hvl := hv.lt
  have hPF : PagesAt (wa.setCell ⟨x, 2, none⟩ vS') b c.p := by
    obtain ⟨vL, vG, hI⟩ := h.pages
    exact ⟨vL, vG, hI.beside oF (fun k q e => e.elim (fun e => hB.2 (e ▸ q)) (fun e => h.apart k e q))⟩
  have hz : ((⟨node, 0⟩ :: c.stack : List Place).reverse.zip (vs ++ [v])).flatMap placeE = (c.stack.reverse.zip vs).flatMap placeE ++ placeC ⟨node, 0⟩ v := by
    rw [List.reverse_cons, List.zip_append (by simp [h.len]), List.flatMap_append]
    simp [placeE]
  have hown5 := own_store hown hnx 2 vS'
  refine ⟨fun k => F k ∨ (w.heap.size ≤ k ∧ k < (wa.setCell ⟨x, 2, none⟩ vS').heap.size ∧ ¬ pown (wa.setCell ⟨x, 2, none⟩ vS') b k), ⟨vS', vs ++ [v], ⟨hh, ?_, by simp [h.len], fun j p u hp hu => ?_, .inl h.fx, fun k hk => ⟨?_, fun e => hnx (e ▸ hk)⟩, fun u hu k hk => ?_, fun k hk => ?_, fun k hk => ?_, hPF⟩⟩, ⟨?_, fun k q => q.imp id fun q => q.1, fun k q => hs.own k ((hpw k).1 q)⟩⟩
  · rw [hz]
    exact hown5
  · rw [List.reverse_cons, List.getElem?_append] at hp
    rw [List.getElem?_append] at hu
    rw [List.length_reverse] at hp
    rw [h.len] at hu
    by_cases hj : j < c.stack.length
    · rw [if_pos hj] at hp hu
      have hum := List.mem_of_getElem? hu
      exact (h.rows j p u hp hu).only oF2 (fun k hk q => by
        have hf := h.fv u hum k hk
        rcases q with q | q | q
        · have := hF k hf.1; omega
        · exact hf.2.2 q
        · exact hf.2.1 q)
    · rw [if_neg hj] at hp hu
      rw [List.getElem?_singleton] at hp hu
      by_cases hj0 : j - c.stack.length = 0
      · rw [if_pos hj0] at hp hu
        cases hp; cases hu
        exact hv.only oF (fun k hk q => by
          obtain ⟨q1, q2, q3⟩ := hvn k hk
          rcases q with q | q
          · exact q3 q
          · have := hF k q; omega)
      · rw [if_neg hj0] at hp
        cases hp
  · rcases hnew k hk with q | q
    · exact .inl (h.fS k q).1
    · exact .inr ⟨by omega, Nat.lt_of_lt_of_le (hal k hk).2 hsza, hold k q⟩
  · rcases List.mem_append.1 hu with hu | hu
    · obtain ⟨q1, q2, q3⟩ := h.fv u hu k hk
      exact ⟨.inl q1, q2, fun e => (hnew k e).elim q3 fun q => by have := hF k q1; omega⟩
    · rw [List.mem_singleton.1 hu] at hk
      obtain ⟨q1, q2, q3⟩ := hvn k hk
      have hl := hvl k hk
      exact ⟨.inr ⟨q1, Nat.lt_of_lt_of_le hl oF.size, fun q => q2 ((hpw k).1 q)⟩, fun e => by omega, fun e => (hnew k e).elim (fun q => by have := hSF k q; omega) fun q => by omega⟩
  · rcases hk with hk | hk
    · have := hF k hk; have := oF.size; omega
    · exact hk.2.1
  · rcases hk with hk | hk
    · exact fun q => h.apart k hk ((hpw k).1 q)
    · exact hk.2.2
  · exact hs.only.trans oF fun i hi q => by
      rcases q with q | q
      · omega
      · exact .inl q

theorem cLoad_full {c : Cur} {id : Int} (h : 12 ≤ c.stack.length) : cLoad c id = (false, { c with e := 25, stack := [] }) := by unfold cLoad; rw [if_pos h]
theorem cLoad_err {c : Cur} {id : Int} {e : Int} {p : PSt} (h : ¬ 12 ≤ c.stack.length) (hg : getP c.p id = (.error e, p)) : cLoad c id = (false, { c with p := p, e := e, stack := [] }) := by unfold cLoad; rw [if_neg h, hg]
theorem cLoad_ok {c : Cur} {id : Int} {n : Node} {p : PSt} (h : ¬ 12 ≤ c.stack.length) (hg : getP c.p id = (.ok n, p)) : cLoad c id = (true, { c with p := p, stack := ⟨n, 0⟩ :: c.stack }) := by unfold cLoad; rw [if_neg h, hg]
theorem getP_err {p p' : PSt} {id e : Int} (h : getP p id = (.error e, p')) : e ≠ 0 := by
  unfold getP at h
  split at h
  · cases h; decide
  · split at h
    · cases h
    · cases h; decide
theorem getP_ok {p p' : PSt} {id : Int} {n : Node} (h : getP p id = (.ok n, p')) : nodeAt p.L id = some n := by
  unfold getP at h
  split at h
  · cases h
  · split at h
    · rename_i h2; cases h; exact h2
    · cases h

set_option maxRecDepth 100000 in
set_option maxHeartbeats 4000000 in
theorem wload_is (w : World) (x b : Nat) (c : Cur) (F : Nat → Prop) (id : Int) (h : CurAt w x b c F) (hid : -1000000 ≤ id ∧ id ≤ 1000000) (hl : c.stack.length ≤ 1000) :
    Calls Tryz.prog 111 #[.pointer (some ⟨x, 0, none⟩), .int .i64 id] w fun e w' => ∃ F', e = .returned (.bool (cLoad c id).1) ∧ CurAt w' x b (cLoad c id).2 F' ∧ CStep b F F' w w' := by
  obtain ⟨i0, hi, hz0, hz1, hz2⟩ := info_parts placeInfo
  have hm := fun n => m_Get n ⟨b, 0, none⟩
  have HA := Lib.hid h
  obtain ⟨vS, vs, h⟩ := h
  obtain ⟨aS, cS, rfl⟩ := ownsRow_form h.own
  have c2 := heap_cell h.heap 2
  have c0 := heap_cell h.heap 0
  simp only [List.getElem?_toArray, List.getElem?_cons_zero, List.getElem?_cons_succ] at c0 c2
  unfold pagesV at c0
  have hpl := h.pages.lt
  have HI := Lib.hid h
  clear h
  by_cases h12 : 12 ≤ c.stack.length
  · rw [cLoad_full h12]
    have h12' : (12 : Int) ≤ (c.stack.length : Int) := by omega
    have HFA := Lib.hid (wfail_is w x b c F 25 HA.out)
    go_enter Tryz.func111, Tryz.ntmps111
    go_wp2_with fail
    refine HFA.out.mono ?_
    rintro e w1 ⟨rfl, h1, s1⟩
    go_wp2_with fail
    go_ret
    exact ⟨F, rfl, h1, s1⟩
  · have h12' : ¬ (12 : Int) ≤ (c.stack.length : Int) := by omega
    cases hg : getP c.p id with
    | mk r p' =>
      have hG := PGet_is w b c.p id HI.out.pages hid
      rw [hg] at hG
      cases r with
      | error e =>
        rw [cLoad_err h12 hg]
        have he0 := getP_err hg
        have HG := Lib.hid hG
        unfold resPage at HG
        unfold noPage at HG
        clear hG hg
        go_enter Tryz.func111, Tryz.ntmps111
        go_wp2_with fail
        refine HG.out.mono ?_
        rintro e' w1 ⟨rfl, hp1, st1⟩
        have o1 := (Only.refl (fun _ => False) w1).alloc (.cells #[.int .i64 0, .int .i64 0, .int .i64 0, str []] 188)
        have hI1 := (HI.out.beside st1.only (fun k hk q => HI.out.apart k hk q) hp1 (fun k q => st1.own k q)).still o1
        have hS1 : CStep b F F w w1 := ⟨st1.only.mono fun _ _ q => .inr q, fun _ q => .inl q, st1.own⟩
        have HFA := Lib.hid (wfail_is _ x b _ F e ⟨_, _, hI1⟩)
        have HS1 := Lib.hid (hS1.trans (CStep.still hp1.lt o1))
        clear hI1 hS1 o1 hp1 st1
        go_wp2_with fail
        refine HFA.out.mono ?_
        rintro e' w2 ⟨rfl, h2, s2⟩
        go_wp2_with fail
        go_ret
        exact ⟨F, rfl, h2, HS1.out.trans s2⟩
      | ok n =>
        rw [cLoad_ok h12 hg]
        have hn := getP_ok hg
        have hso : soundN n := by
          obtain ⟨vL, vG, hp⟩ := HI.out.pages
          exact hp.sound n (nodeAt_mem hn)
        clear hn
        cases n with
        | leaf l =>
          obtain ⟨⟨hr1, hr2, hr3⟩, hne⟩ := hso
          have HRD := Lib.hid (fun W => Read_is l hr1 hr2 hr3 W)
          have hG2 : Calls Tryz.prog 205 #[.pointer (some ⟨b, 0, none⟩), .int .i64 id] w fun e w' => e = .returned (.tuple #[.agg #[.int .i64 3, .int .i64 id, .int .i64 0, str (leafB l)], .int .i64 0]) ∧ PagesAt w' b p' ∧ PStep b w w' := hG
          have HG := Lib.hid hG2
          have HPG : Hid (l.length ≤ 255 ∧ rightL l = true) := Lib.hid (⟨hr3, hr1⟩)
          clear hG hG2 hg hr1 hr2 hr3
          go_enter Tryz.func111, Tryz.ntmps111
          go_wp2_with fail
          refine HG.out.mono ?_
          rintro e' w1 ⟨rfl, hp1, st1⟩
          have o2 := ((Only.refl (fun _ => False) w1).alloc (.cells #[.int .i64 3, .int .i64 id, .int .i64 0, str (leafB l)] 188)).alloc (.cells #[.slice none 0 0, .slice none 0 0, .int .i64 0] 123)
          have hN := heap_alloc_new (w1.alloc (.cells #[.int .i64 3, .int .i64 id, .int .i64 0, str (leafB l)] 188)) (.cells #[.slice none 0 0, .slice none 0 0, .int .i64 0] 123)
          have hN1 : (w1.alloc (.cells #[.int .i64 3, .int .i64 id, .int .i64 0, str (leafB l)] 188)).heap.size = w1.heap.size + 1 := by simp
          have hN2 : ((w1.alloc (.cells #[.int .i64 3, .int .i64 id, .int .i64 0, str (leafB l)] 188)).alloc (.cells #[.slice none 0 0, .slice none 0 0, .int .i64 0] 123)).heap.size = w1.heap.size + 2 := by simp
          rw [hN1] at hN
          have hI1 := HI.out.beside st1.only (fun k hk q => HI.out.apart k hk q) hp1 (fun k q => st1.own k q)
          have hS1 : CStep b F F w w1 := ⟨st1.only.mono fun _ _ q => .inr q, fun _ q => .inl q, st1.own⟩
          have HI1 := Lib.hid hI1
          have HS1 := Lib.hid hS1
          have hsw := st1.only.size
          have hb1 := hp1.lt
          clear hI1 hS1 hp1 st1
          go_wp2_with fail
          refine (HRD.out _).mono ?_
          rintro e' w3 ⟨v, rfl, hrow, o3, hnew⟩
          rw [hN2] at hnew
          obtain ⟨av, nv, cv, rfl⟩ := capOk_form hrow.cap
          have hs3 := o3.size
          rw [hN2] at hs3
          have hN3 := (o3.block _ (by rw [hN2]; omega) (fun q => q)).trans hN
          have a0 := heap_cell hN3 0
          have z0 := heap_frozen hN3 0
          have hN4 := heap_setCell hN3 0 (.slice av nv cv)
          have o4 : Only (fun k => k = w1.heap.size + 1) w3 (w3.setCell ⟨w1.heap.size + 1, 0, none⟩ (.slice av nv cv)) := (Only.refl (fun k => k = w1.heap.size + 1) w3).put _ 0 rfl _
          have o13 := o2.trans o3 (fun _ _ q => q)
          have hI3 := HI1.out.still o13
          have hBn : ¬ pown w3 b (w1.heap.size + 1) := fun q => by
            have := pown_lt HI1.out.pages ((pown_of_heap (o13.block b hb1 (fun q => q)) _).1 q); omega
          have hI4 := hI3.beside o4 (fun k hk e => by have := HI.out.small k hk; have e2 : k = w1.heap.size + 1 := e; omega) (by
            obtain ⟨vL, vG, hq⟩ := hI3.pages
            exact ⟨vL, vG, hq.beside o4 (fun k q e => hBn (by have e2 : k = w1.heap.size + 1 := e; exact e2 ▸ q))⟩) (fun k q => .inl ((pown_of_heap (o4.block b hI3.pages.lt (fun e => hBn (by have e2 : b = w1.heap.size + 1 := e; exact .inl e2.symm))) k).1 q))
          have d2 := heap_cell hI4.heap 2
          have y2 := heap_frozen hI4.heap 2
          have b0 := heap_cell hN4 0
          have b1 := heap_cell hN4 1
          have b2 := heap_cell hN4 2
          simp only [List.getElem?_toArray, List.getElem?_cons_zero, List.getElem?_cons_succ, List.setIfInBounds_toArray, List.set_cons_zero] at a0 d2 b0 b1 b2
          have HROW : Hid (NodeRow w3 (.slice av nv cv) (.leaf l)) := Lib.hid ⟨hrow, hne, HPG.out⟩
          have HNV : Hid (∀ j, rowBlock (Value.slice av nv cv) = some j → w.heap.size ≤ j ∧ ¬ pown w3 b j ∧ j ≠ w1.heap.size + 1) := Lib.hid (fun j hj => by
            have := hnew j hj
            exact ⟨by omega, fun q => by have := pown_lt HI1.out.pages ((pown_of_heap (o13.block b hb1 (fun q => q)) _).1 q); omega, by omega⟩)
          have HI3 := Lib.hid hI3
          have HI4 := Lib.hid hI4
          have HS3 := Lib.hid (HS1.out.trans (CStep.still hb1 o13))
          have HB := Lib.hid hBn
          have HO4 := Lib.hid o4
          have hBl : w1.heap.size + 1 < w3.heap.size := by omega
          have hx4 := hI4.lt
          have hSx : (Value.slice aS c.stack.length cS).ownBlock ≠ some x := fun e => (hI4.fS x e).2 rfl
          have hSB : (Value.slice aS c.stack.length cS).ownBlock ≠ some (w1.heap.size + 1) := fun e => by have := HI.out.small _ (HI.out.fS _ e).1; omega
          have hNl : w1.heap.size + 1 < (w3.setCell ⟨w1.heap.size + 1, 0, none⟩ (.slice av nv cv)).heap.size := (Array.getElem?_eq_some_iff.1 hN4).1
          clear hN hN1 hN2 hrow o2 o3 hnew hs3 hN3 hN4 o4 o13 hI3 hBn hI4
          go_wp2_with fail
          generalize hW4 : (w3.setCell ⟨w1.heap.size + 1, 0, none⟩ (.slice av nv cv)) = W4 at *
          have HW4 := Lib.hid hW4
          clear hW4
          have own : W4.ownsRow 0 123 3 (.slice aS c.stack.length cS) c.stack.length ((c.stack.reverse.zip vs).flatMap placeE) := HI4.out.own
          go_region_law (refine step_append_moved _ rfl _ _ 80 rfl 123 i0 _ 3 56 Tryz.underlying80 hi hz0 hz1 hz2 rfl (by decide) _ _ _ rfl (own.drew.alloc _) ⟨W4.heap.size, 0, none⟩ 1 1 [.slice av nv cv, .slice none 0 0, .int .i64 0] rfl rfl (cells_new W4.drew [.slice av nv cv, .slice none 0 0, .int .i64 0] 123 _) (by simp [Value.oneCell']) (by unfold maxLen; omega) (by omega) ?_; intro a' c' wa hown2 hgr hmv; have hq : Only (fun k => (Value.slice aS c.stack.length cS).ownBlock = some k) W4 wa := (((Only.refl _ W4).drew).alloc _).grown hgr (fun k _ h => h); have e2 := (hq.cell (p := ⟨x, 2, none⟩) hx4 hSx).trans d2; have y2' := (hq.frozen (p := ⟨x, 2, none⟩) hx4 hSx).trans y2; have HX := Lib.hid (push_end HI3.out HI.out.small HS3.out HROW.out HNV.out HO4.out ⟨by omega, HB.out⟩ hBl _ hown2 hgr hmv); clear hgr hown2 hmv hq)
          all_goals
            go_wp2_with fail
            go_ret
            obtain ⟨F', k1, k2⟩ := HX.out
            exact ⟨rfl, F', k1, k2⟩
        | twig l =>
          obtain ⟨⟨hr1, hr2, hr3⟩, hne⟩ := hso
          have HRD := Lib.hid (fun W => TRead_is l hne hr1 hr2 hr3 W)
          have hG2 : Calls Tryz.prog 205 #[.pointer (some ⟨b, 0, none⟩), .int .i64 id] w fun e w' => e = .returned (.tuple #[.agg #[.int .i64 4, .int .i64 id, .int .i64 0, str (twigB l)], .int .i64 0]) ∧ PagesAt w' b p' ∧ PStep b w w' := hG
          have HG := Lib.hid hG2
          have HPG : Hid ((∀ k ∈ l, 2 ≤ k.page ∧ k.page < 4000) ∧ l.length ≤ 255 ∧ rightL l = true) := Lib.hid (⟨fun k hk => by have : okKid k = true := ((rightL_iff _).1 hr1).1 k hk; simp only [okKid, decide_eq_true_eq] at this; exact this.2, hr3, hr1⟩)
          clear hG hG2 hg hr1 hr2 hr3
          go_enter Tryz.func111, Tryz.ntmps111
          go_wp2_with fail
          refine HG.out.mono ?_
          rintro e' w1 ⟨rfl, hp1, st1⟩
          have o2 := ((Only.refl (fun _ => False) w1).alloc (.cells #[.int .i64 4, .int .i64 id, .int .i64 0, str (twigB l)] 188)).alloc (.cells #[.slice none 0 0, .slice none 0 0, .int .i64 0] 123)
          have hN := heap_alloc_new (w1.alloc (.cells #[.int .i64 4, .int .i64 id, .int .i64 0, str (twigB l)] 188)) (.cells #[.slice none 0 0, .slice none 0 0, .int .i64 0] 123)
          have hN1 : (w1.alloc (.cells #[.int .i64 4, .int .i64 id, .int .i64 0, str (twigB l)] 188)).heap.size = w1.heap.size + 1 := by simp
          have hN2 : ((w1.alloc (.cells #[.int .i64 4, .int .i64 id, .int .i64 0, str (twigB l)] 188)).alloc (.cells #[.slice none 0 0, .slice none 0 0, .int .i64 0] 123)).heap.size = w1.heap.size + 2 := by simp
          rw [hN1] at hN
          have hI1 := HI.out.beside st1.only (fun k hk q => HI.out.apart k hk q) hp1 (fun k q => st1.own k q)
          have hS1 : CStep b F F w w1 := ⟨st1.only.mono fun _ _ q => .inr q, fun _ q => .inl q, st1.own⟩
          have HI1 := Lib.hid hI1
          have HS1 := Lib.hid hS1
          have hsw := st1.only.size
          have hb1 := hp1.lt
          clear hI1 hS1 hp1 st1
          go_wp2_with fail
          refine (HRD.out _).mono ?_
          rintro e' w3 ⟨v, rfl, hrow, o3, hnew⟩
          rw [hN2] at hnew
          obtain ⟨av, nv, cv, rfl⟩ := capOk_form hrow.cap
          have hs3 := o3.size
          rw [hN2] at hs3
          have hN3 := (o3.block _ (by rw [hN2]; omega) (fun q => q)).trans hN
          have a0 := heap_cell hN3 1
          have z0 := heap_frozen hN3 1
          have hN4 := heap_setCell hN3 1 (.slice av nv cv)
          have o4 : Only (fun k => k = w1.heap.size + 1) w3 (w3.setCell ⟨w1.heap.size + 1, 1, none⟩ (.slice av nv cv)) := (Only.refl (fun k => k = w1.heap.size + 1) w3).put _ 1 rfl _
          have o13 := o2.trans o3 (fun _ _ q => q)
          have hI3 := HI1.out.still o13
          have hBn : ¬ pown w3 b (w1.heap.size + 1) := fun q => by
            have := pown_lt HI1.out.pages ((pown_of_heap (o13.block b hb1 (fun q => q)) _).1 q); omega
          have hI4 := hI3.beside o4 (fun k hk e => by have := HI.out.small k hk; have e2 : k = w1.heap.size + 1 := e; omega) (by
            obtain ⟨vL, vG, hq⟩ := hI3.pages
            exact ⟨vL, vG, hq.beside o4 (fun k q e => hBn (by have e2 : k = w1.heap.size + 1 := e; exact e2 ▸ q))⟩) (fun k q => .inl ((pown_of_heap (o4.block b hI3.pages.lt (fun e => hBn (by have e2 : b = w1.heap.size + 1 := e; exact .inl e2.symm))) k).1 q))
          have d2 := heap_cell hI4.heap 2
          have y2 := heap_frozen hI4.heap 2
          have b0 := heap_cell hN4 0
          have b1 := heap_cell hN4 1
          have b2 := heap_cell hN4 2
          simp only [List.getElem?_toArray, List.getElem?_cons_zero, List.getElem?_cons_succ, List.setIfInBounds_toArray, List.set_cons_zero, List.set_cons_succ] at a0 d2 b0 b1 b2
          have HROW : Hid (NodeRow w3 (.slice av nv cv) (.twig l)) := Lib.hid ⟨hrow, hne, HPG.out⟩
          have HNV : Hid (∀ j, rowBlock (Value.slice av nv cv) = some j → w.heap.size ≤ j ∧ ¬ pown w3 b j ∧ j ≠ w1.heap.size + 1) := Lib.hid (fun j hj => by
            have := hnew j hj
            exact ⟨by omega, fun q => by have := pown_lt HI1.out.pages ((pown_of_heap (o13.block b hb1 (fun q => q)) _).1 q); omega, by omega⟩)
          have HI3 := Lib.hid hI3
          have HI4 := Lib.hid hI4
          have HS3 := Lib.hid (HS1.out.trans (CStep.still hb1 o13))
          have HB := Lib.hid hBn
          have HO4 := Lib.hid o4
          have hBl : w1.heap.size + 1 < w3.heap.size := by omega
          have hx4 := hI4.lt
          have hSx : (Value.slice aS c.stack.length cS).ownBlock ≠ some x := fun e => (hI4.fS x e).2 rfl
          have hSB : (Value.slice aS c.stack.length cS).ownBlock ≠ some (w1.heap.size + 1) := fun e => by have := HI.out.small _ (HI.out.fS _ e).1; omega
          have hNl : w1.heap.size + 1 < (w3.setCell ⟨w1.heap.size + 1, 1, none⟩ (.slice av nv cv)).heap.size := (Array.getElem?_eq_some_iff.1 hN4).1
          clear hN hN1 hN2 hrow o2 o3 hnew hs3 hN3 hN4 o4 o13 hI3 hBn hI4
          go_wp2_with fail
          generalize hW4 : (w3.setCell ⟨w1.heap.size + 1, 1, none⟩ (.slice av nv cv)) = W4 at *
          have HW4 := Lib.hid hW4
          clear hW4
          have own : W4.ownsRow 0 123 3 (.slice aS c.stack.length cS) c.stack.length ((c.stack.reverse.zip vs).flatMap placeE) := HI4.out.own
          go_region_law (refine step_append_moved _ rfl _ _ 80 rfl 123 i0 _ 3 56 Tryz.underlying80 hi hz0 hz1 hz2 rfl (by decide) _ _ _ rfl (own.drew.alloc _) ⟨W4.heap.size, 0, none⟩ 1 1 [.slice none 0 0, .slice av nv cv, .int .i64 0] rfl rfl (cells_new W4.drew [.slice none 0 0, .slice av nv cv, .int .i64 0] 123 _) (by simp [Value.oneCell']) (by unfold maxLen; omega) (by omega) ?_; intro a' c' wa hown2 hgr hmv; have hq : Only (fun k => (Value.slice aS c.stack.length cS).ownBlock = some k) W4 wa := (((Only.refl _ W4).drew).alloc _).grown hgr (fun k _ h => h); have e2 := (hq.cell (p := ⟨x, 2, none⟩) hx4 hSx).trans d2; have y2' := (hq.frozen (p := ⟨x, 2, none⟩) hx4 hSx).trans y2; have HX := Lib.hid (push_end HI3.out HI.out.small HS3.out HROW.out HNV.out HO4.out ⟨by omega, HB.out⟩ hBl _ hown2 hgr hmv); clear hgr hown2 hmv hq)
          all_goals
            go_wp2_with fail
            go_ret
            obtain ⟨F', k1, k2⟩ := HX.out
            exact ⟨rfl, F', k1, k2⟩
end Go.Proofs.YtklccpaphkpgfaaGreat

namespace Go.Proofs.YtklccpaphkpgfaaGreat
open Go.RowKit

/-- A place in memory. -/
structure PlaceIn (w : World) (g off : Nat) (p : Place) (v : Value) : Prop where
  cells : ∀ (j : Nat) (u : Value), (placeC p v)[j]? = some u → w.cell? ⟨g, off + j, none⟩ = some u
  row : NodeRow w v p.node
theorem CurIn.topPlace {w : World} {x b : Nat} {c : Cur} {F : Nat → Prop} {g n cap : Nat} {us : List Value} {v : Value} (h : CurIn w x b c F (.slice (some ⟨g, 0, none⟩) n cap) (us ++ [v])) {p : Place} {st : List Place} (hs : c.stack = p :: st) : PlaceIn w g (st.length * 3) p v := by
  obtain ⟨g', cap', us', v', e1, e2, e3, e4, e5⟩ := h.top hs
  cases e1
  obtain ⟨rfl, hv⟩ := List.append_inj' e2 rfl
  cases hv
  refine ⟨fun j u hu => ?_, e4⟩
  have own := h.own
  rw [hs, List.length_cons] at own
  refine own_cell own _ _ ?_
  rw [← hs, e5]
  have hl : ((st.reverse.zip us).flatMap placeE).length = st.length * 3 := by
    have : ∀ l : List (Place × Value), (l.flatMap placeE).length = l.length * 3 := fun l => by
      induction l with
      | nil => rfl
      | cons a l ih => rw [List.flatMap_cons, List.length_append, ih, placeE_length, List.length_cons]; omega
    rw [this, List.length_zip, List.length_reverse, e3, Nat.min_self]
  rw [List.getElem?_append_right (by omega), hl, Nat.add_sub_cancel_left]
  exact hu
/-- The place on top is another one. -/
theorem CurIn.setTop {w : World} {x b : Nat} {c : Cur} {F : Nat → Prop} {g n cap : Nat} {vs : List Value} (h : CurIn w x b c F (.slice (some ⟨g, 0, none⟩) n cap) vs) {p : Place} {st : List Place} (hs : c.stack = p :: st) (a : Int) :
    CurIn (w.setCell ⟨g, st.length * 3 + 2, none⟩ (.int .i64 a)) x b { c with stack := ⟨p.node, a⟩ :: st } F (.slice (some ⟨g, 0, none⟩) n cap) vs ∧ CStep b F F w (w.setCell ⟨g, st.length * 3 + 2, none⟩ (.int .i64 a)) := by
  obtain ⟨g', cap', us, v, e1, rfl, e3, e4, e5⟩ := h.top hs
  cases e1
  have hgF := h.fS g rfl
  have ho := (Only.refl (fun k => k = g) w).put g (st.length * 3 + 2) rfl (.int .i64 a)
  have hbg : ∀ k, pown w b k → ¬ k = g := fun k q e => h.apart k (e ▸ hgF.1) q
  have hpw : ∀ k, pown (w.setCell ⟨g, st.length * 3 + 2, none⟩ (.int .i64 a)) b k ↔ pown w b k := pown_of_heap (ho.block b h.pages.lt (hbg b (.inl rfl)))
  have hP : PagesAt (w.setCell ⟨g, st.length * 3 + 2, none⟩ (.int .i64 a)) b c.p := by
    obtain ⟨vL, vG, hI⟩ := h.pages
    exact ⟨vL, vG, hI.beside ho hbg⟩
  have hl : ((st.reverse.zip us).flatMap placeE).length = st.length * 3 := by
    have : ∀ l : List (Place × Value), (l.flatMap placeE).length = l.length * 3 := fun l => by
      induction l with
      | nil => rfl
      | cons a l ih => rw [List.flatMap_cons, List.length_append, ih, placeE_length, List.length_cons]; omega
    rw [this, List.length_zip, List.length_reverse, e3, Nat.min_self]
  have hz : (({ c with stack := ⟨p.node, a⟩ :: st } : Cur).stack.reverse.zip (us ++ [v])).flatMap placeE = ((c.stack.reverse.zip (us ++ [v])).flatMap placeE).set (st.length * 3 + 2) (.int .i64 a) := by
    rw [e5, List.reverse_cons, List.zip_append (by simp [e3]), List.flatMap_append, List.set_append_right _ _ (by omega), hl, Nat.add_sub_cancel_left]
    congr 1
    simp only [List.zip_cons_cons, List.zip_nil_right, List.flatMap_cons, List.flatMap_nil, List.append_nil, placeE]
    unfold placeC
    cases p.node <;> rfl
  have hown := h.own
  have hsl : c.stack.length = st.length + 1 := by rw [hs]; rfl
  rw [hsl] at hown
  have hset := own_set hown (st.length * 3 + 2) (.int .i64 a)
  have hlen : ({ c with stack := ⟨p.node, a⟩ :: st } : Cur).stack.length = c.stack.length := by rw [hs]; rfl
  refine ⟨⟨(ho.block x h.lt (fun e => hgF.2 (by have e2 : x = g := e; exact e2.symm))).trans h.heap, by rw [hz, hlen, hsl]; exact hset, by rw [hlen]; exact h.len, fun j q u hq hu => ?_, h.fx, h.fS, h.fv, fun k hk => Nat.lt_of_lt_of_le (h.small k hk) ho.size, fun k hk q => h.apart k hk ((hpw k).1 q), hP⟩,
    ⟨ho.mono fun k _ e => .inl (by have e2 : k = g := e; exact e2 ▸ hgF.1), fun k q => .inl q, fun k q => .inl ((hpw k).1 q)⟩⟩
  have hne : ∀ k, rowBlock u = some k → ¬ k = g := fun k hk e => (h.fv u (List.mem_of_getElem? hu) k hk).2.2 (by rw [e]; rfl)
  have hold : ∃ q', c.stack.reverse[j]? = some q' ∧ q'.node = q.node := by
    rw [List.reverse_cons, List.getElem?_append] at hq
    rw [hs, List.reverse_cons, List.getElem?_append]
    split at hq
    · rename_i hj; rw [if_pos hj]; exact ⟨q, hq, rfl⟩
    · rename_i hj
      rw [if_neg hj]
      rw [List.getElem?_singleton] at hq ⊢
      split at hq
      · rename_i h0; rw [if_pos h0]; cases hq; exact ⟨p, rfl, rfl⟩
      · cases hq
  obtain ⟨q', h1, h2⟩ := hold
  rw [← h2]
  exact (h.rows j q' u h1 hu).only ho hne

set_option maxRecDepth 100000 in
set_option maxHeartbeats 1000000 in
theorem wlast_is (w : World) (g off : Nat) (p : Place) (v : Value) (h : PlaceIn w g off p v) : Calls Tryz.prog 140 #[.pointer (some ⟨g, off, none⟩)] w fun e w' => e = .returned (.int .i64 (chLast p.node)) ∧ Only (fun _ => False) w w' := by
  obtain ⟨node, a⟩ := p
  have hc := h.cells
  have hr := h.row
  cases node with
  | leaf l =>
    obtain ⟨av, nv, cv, rfl⟩ := capOk_form hr.1.cap
    have hn : nv = l.length := by cases hr.1.row <;> rfl
    subst hn
    have c0 := hc 0 _ rfl
    have c1 := hc 1 _ rfl
    have hl := hr.2.2.1
    have q0 : ∀ p : Grew w, p.u.cell? ⟨g, off, none⟩ = some (.slice av l.length cv) := fun p => p.cell c0
    have q1 : ∀ p : Grew w, p.u.cell? ⟨g, off + 1, none⟩ = some (.slice none 0 0) := fun p => p.cell c1
    have hw : IntKind.i64.wrap ((l.length : Int) - 1) = (l.length : Int) - 1 := by exact IntWalk.i64_in _ (by omega)
    unfold chLast nlen
    go_enter Tryz.func140, Tryz.ntmps140
    go_wp2_with fail
    refine wp_region_grew (by kernel_rfl) (by kernel_rfl) (fun _W h0 h1 => ?_)
    repeat (refine h1 _ _ _ (fun K hK => ?_); go_simp; refine hK _ ?_; clear hK K)
    refine h0 _ (fun p => ?_)
    clear h0 h1
    go_wp2_with fail
    go_ret
    exact ⟨rfl, p.h⟩
  | twig l =>
    obtain ⟨av, nv, cv, rfl⟩ := capOk_form hr.1.cap
    have hn : nv = l.length := by cases hr.1.row <;> rfl
    subst hn
    have c0 := hc 0 _ rfl
    have c1 := hc 1 _ rfl
    have hl := hr.2.2.2.1
    have q0 : ∀ p : Grew w, p.u.cell? ⟨g, off, none⟩ = some (.slice none 0 0) := fun p => p.cell c0
    have q1 : ∀ p : Grew w, p.u.cell? ⟨g, off + 1, none⟩ = some (.slice av l.length cv) := fun p => p.cell c1
    have hw : IntKind.i64.wrap ((l.length : Int) - 1) = (l.length : Int) - 1 := by exact IntWalk.i64_in _ (by omega)
    unfold chLast nlen
    go_enter Tryz.func140, Tryz.ntmps140
    go_wp2_with fail
    refine wp_region_grew (by kernel_rfl) (by kernel_rfl) (fun _W h0 h1 => ?_)
    repeat (refine h1 _ _ _ (fun K hK => ?_); go_simp; refine hK _ ?_; clear hK K)
    refine h0 _ (fun p => ?_)
    clear h0 h1
    go_wp2_with fail
    go_ret
    exact ⟨rfl, p.h⟩

set_option maxRecDepth 100000 in
set_option maxHeartbeats 1000000 in
theorem wseek_is (w : World) (g off B : Nat) (key : Bytes) (p : Place) (v : Value) (h : PlaceIn w g off p v) (hk : w.cell? ⟨B, 0, none⟩ = some (str key)) :
    Calls Tryz.prog 80 #[.pointer (some ⟨g, off, none⟩), .pointer (some ⟨B, 0, none⟩)] w fun e w' => e = .returned (.int .i64 (chSeek key p.node)) ∧ Only (fun _ => False) w w' := by
  obtain ⟨node, a⟩ := p
  have hc := h.cells
  have hr := h.row
  have qk : ∀ p : Grew w, p.u.cell? ⟨B, 0, none⟩ = some (str key) := fun p => p.cell hk
  cases node with
  | leaf l =>
    obtain ⟨av, nv, cv, rfl⟩ := capOk_form hr.1.cap
    have hn : nv = l.length := by cases hr.1.row <;> rfl
    subst hn
    have c0 := hc 0 _ rfl
    have c1 := hc 1 _ rfl
    have hl := hr.2.2.1
    have q0 : ∀ p : Grew w, p.u.cell? ⟨g, off, none⟩ = some (.slice av l.length cv) := fun p => p.cell c0
    have HV : Hid (∀ p : Grew w, Calls Tryz.prog 82 #[.slice av l.length cv, str key] p.u fun e w' => e = .returned (.tuple #[.int .i64 (findAt l key : Nat), .bool (isAt l key)]) ∧ Only (fun _ => False) p.u w') := Lib.hid (fun p => Find_is _ l key _ (row_only hr.1.row p.h (fun _ _ => id)) ((rightL_iff _).1 hr.2.2.2).2 (by omega))
    unfold chSeek
    go_enter Tryz.func80, Tryz.ntmps80
    go_wp2_with fail
    refine wp_region_grew (by kernel_rfl) (by kernel_rfl) (fun _W h0 h1 => ?_)
    repeat (refine h1 _ _ _ (fun K hK => ?_); go_simp; first | (refine hK _ ?_; clear hK K) | (apply Exists.intro; refine ⟨fun _ => ?_, hK _ ?_⟩; (refine Grew.calls _ (HV.out _)); clear hK K))
    refine h0 _ (fun p => ?_)
    clear h0 h1
    go_wp2_with fail
    go_ret
    exact ⟨rfl, p.h⟩
  | twig l =>
    obtain ⟨av, nv, cv, rfl⟩ := capOk_form hr.1.cap
    have hn : nv = l.length := by cases hr.1.row <;> rfl
    subst hn
    have c1 := hc 1 _ rfl
    have hl := hr.2.2.2.1
    have hpos := List.length_pos_iff.2 hr.2.1
    have hpos2 : (0 : Int) < (l.length : Int) := by omega
    have q1 : ∀ p : Grew w, p.u.cell? ⟨g, off + 1, none⟩ = some (.slice av l.length cv) := fun p => p.cell c1
    have HV : Hid (∀ p : Grew w, Calls Tryz.prog 81 #[.slice av l.length cv, str key] p.u fun e w' => e = .returned (.int .i64 (findK l key : Nat)) ∧ Only (fun _ => False) p.u w') := Lib.hid (fun p => TFind_is _ l key _ (row_only hr.1.row p.h (fun _ _ => id)) hr.2.1 ((rightL_iff _).1 hr.2.2.2.2).2 (by omega))
    unfold chSeek
    go_enter Tryz.func80, Tryz.ntmps80
    go_wp2_with fail
    refine wp_region_grew (by kernel_rfl) (by kernel_rfl) (fun _W h0 h1 => ?_)
    repeat (refine h1 _ _ _ (fun K hK => ?_); go_simp; first | (refine hK _ ?_; clear hK K) | (apply Exists.intro; refine ⟨fun _ => ?_, hK _ ?_⟩; (refine Grew.calls _ (HV.out _)); clear hK K))
    refine h0 _ (fun p => ?_)
    clear h0 h1
    go_wp2_with fail
    go_ret
    exact ⟨rfl, p.h⟩
end Go.Proofs.YtklccpaphkpgfaaGreat
