/- Two cursors over a law's own pages, rows beside them. Conditions: one goroutine; the pages are all told. -/
import Derived.Test.YtcjaokmodicikaaZLaw4
namespace Go.Proofs.Ytcjaokmodicikaa
open Go.RowKit

variable {w0 w w' : World} {x x1 x2 b : Nat} {S : PSt} {root : Int} {l : List Item} {vh : Value} {c c1 c2 : Cur} {F F1 F2 : Nat → Prop} {k k1 k2 : Option Nat}

theorem CurAt.small (h : CurAt w x b c F) : ∀ j, F j → j < w.heap.size := by
  obtain ⟨vS, vs, hI⟩ := h
  exact hI.small
theorem CurAt.away (h : CurAt w x b c F) : ∀ j, F j → ¬ pown w b j := by
  obtain ⟨vS, vs, hI⟩ := h
  exact hI.apart
theorem CurAt.pages (h : CurAt w x b c F) : PagesAt w b c.p := by
  obtain ⟨vS, vs, hI⟩ := h
  exact hI.pages
/-- A cursor beside another one that moves. -/
theorem CurAt.beside {c' : Cur} {F' : Nat → Prop} (h2 : CurAt w x2 b c2 F2) (st : CStep b F F' w w') (h' : CurAt w' x b c' F') (hp : c'.p = c2.p) (ha : ∀ j, F2 j → ¬ F j) : CurAt w' x2 b c2 F2 ∧ ∀ j, F2 j → ¬ F' j := by
  obtain ⟨vS, vs, hI⟩ := h2
  refine ⟨⟨vS, vs, ?_⟩, fun j hj q => ?_⟩
  · have hq := h'.pages
    rw [hp] at hq
    exact hI.beside st.only (fun j hj q => q.elim (ha j hj) (hI.apart j hj)) hq st.own
  · rcases st.grow j q with q | q
    · exact ha j hj q
    · have := hI.small j hj; omega
/-- Blocks that are no cursor's, no page's, are written. -/
theorem Hold.aside {T : Nat → Prop} (H : Hold w0 w x b S root l vh c F k) (o : Only T w w') (h0 : ∀ j, T j → w0.heap.size ≤ j) (hF : ∀ j, F j → ¬ T j) (hp : ∀ j, pown w b j → ¬ T j) (hr : ∀ j, rowBlock vh = some j → ¬ T j) : Hold w0 w' x b S root l vh c F k := by
  have hb : ¬ T b := hp b (.inl rfl)
  have hpw : ∀ j, pown w' b j ↔ pown w b j := fun j => pown_of_heap (o.block b H.cur.lt.1 hb) j
  obtain ⟨vS, vs, hI⟩ := H.cur
  have hP : PagesAt w' b c.p := by
    obtain ⟨vL, vG, hpi⟩ := hI.pages
    exact ⟨vL, vG, hpi.beside o hp⟩
  have hc : CurAt w' x b c F := ⟨vS, vs, hI.beside o hF hP fun j q => .inl ((hpw j).1 q)⟩
  exact ⟨hc, H.sits, H.only.trans o (fun i hi q => by have := h0 i q; omega), H.fF, fun j q => H.fP j ((hpw j).1 q), H.row.only o hr, fun j hj => ⟨Nat.lt_of_lt_of_le (H.apart j hj).1 o.size, (H.apart j hj).2.1, fun q => (H.apart j hj).2.2 ((hpw j).1 q)⟩⟩

/-- Two cursors over the same pages. -/
structure Two (w0 w : World) (x1 x2 b : Nat) (S : PSt) (root : Int) (l : List Item) (vh : Value) (c1 : Cur) (F1 : Nat → Prop) (k1 : Option Nat) (c2 : Cur) (F2 : Nat → Prop) (k2 : Option Nat) : Prop where
  one : Hold w0 w x1 b S root l vh c1 F1 k1
  two : Hold w0 w x2 b S root l vh c2 F2 k2
  ap : ∀ j, F1 j → ¬ F2 j
theorem Two.swap (H : Two w0 w x1 x2 b S root l vh c1 F1 k1 c2 F2 k2) : Two w0 w x2 x1 b S root l vh c2 F2 k2 c1 F1 k1 := ⟨H.two, H.one, fun j h q => H.ap j q h⟩
theorem Two.still (H : Two w0 w x1 x2 b S root l vh c1 F1 k1 c2 F2 k2) (o : Only (fun _ => False) w w') : Two w0 w' x1 x2 b S root l vh c1 F1 k1 c2 F2 k2 := ⟨H.one.still o, H.two.still o, H.ap⟩
theorem Two.aside {T : Nat → Prop} (H : Two w0 w x1 x2 b S root l vh c1 F1 k1 c2 F2 k2) (o : Only T w w') (h0 : ∀ j, T j → w0.heap.size ≤ j) (hF1 : ∀ j, F1 j → ¬ T j) (hF2 : ∀ j, F2 j → ¬ T j) (hp : ∀ j, pown w b j → ¬ T j) (hr : ∀ j, rowBlock vh = some j → ¬ T j) :
    Two w0 w' x1 x2 b S root l vh c1 F1 k1 c2 F2 k2 := ⟨H.one.aside o h0 hF1 hp hr, H.two.aside o h0 hF2 hp hr, H.ap⟩
theorem Two.step (H : Two w0 w x1 x2 b S root l vh c1 F1 k1 c2 F2 k2) {c' : Cur} {F' : Nat → Prop} {k' : Option Nat} (h : Hold w0 w' x1 b S root l vh c' F' k') (st : CStep b F1 F' w w') : Two w0 w' x1 x2 b S root l vh c' F' k' c2 F2 k2 := by
  obtain ⟨h2, ha⟩ := H.two.cur.beside st h.cur (h.sits.p.trans H.two.sits.p.symm) (fun j h q => H.ap j q h)
  exact ⟨h, ⟨h2, H.two.sits, h.only, H.two.fF, h.fP, h.row, fun j hj => ⟨(h.apart j hj).1, (H.two.apart j hj).2.1, (h.apart j hj).2.2⟩⟩, fun j hj q => ha j q hj⟩

/-- A block beside two cursors and their pages. -/
structure Beside (w0 w : World) (b : Nat) (F1 F2 : Nat → Prop) (vh : Value) (j : Nat) : Prop where
  lo : w0.heap.size ≤ j
  hi : j < w.heap.size
  n1 : ¬ F1 j
  n2 : ¬ F2 j
  np : ¬ pown w b j
  nr : rowBlock vh ≠ some j
theorem Beside.swap {j : Nat} (h : Beside w0 w b F1 F2 vh j) : Beside w0 w b F2 F1 vh j := ⟨h.lo, h.hi, h.n2, h.n1, h.np, h.nr⟩
theorem Beside.step {j : Nat} {F' : Nat → Prop} (h : Beside w0 w b F1 F2 vh j) (st : CStep b F1 F' w w') : Beside w0 w' b F' F2 vh j := by
  have hh := h.hi
  refine ⟨h.lo, Nat.lt_of_lt_of_le hh st.only.size, fun q => ?_, h.n2, fun q => ?_, h.nr⟩
  · rcases st.grow j q with q | q
    · exact h.n1 q
    · omega
  · rcases st.own j q with q | q
    · exact h.np q
    · omega
theorem Beside.later {j : Nat} {T : Nat → Prop} (h : Beside w0 w b F1 F2 vh j) (hb : b < w.heap.size) (o : Only T w w') (hT : ¬ T b) : Beside w0 w' b F1 F2 vh j :=
  ⟨h.lo, Nat.lt_of_lt_of_le h.hi o.size, h.n1, h.n2, fun q => h.np ((pown_of_heap (o.block b hb hT) j).1 q), h.nr⟩
/-- A block that is new. -/
theorem Two.new {j : Nat} (H : Two w0 w x1 x2 b S root l vh c1 F1 k1 c2 F2 k2) {T : Nat → Prop} (o : Only T w w') (hT : ¬ T b) (h1 : w.heap.size ≤ j) (h2 : j < w'.heap.size) : Beside w0 w' b F1 F2 vh j := by
  have hs := H.one.only.size
  refine ⟨by omega, h2, fun q => ?_, fun q => ?_, fun q => ?_, fun q => ?_⟩
  · have := H.one.cur.small j q; omega
  · have := H.two.cur.small j q; omega
  · have := pown_lt H.one.cur.pages ((pown_of_heap (o.block b H.one.cur.lt.1 hT) j).1 q); omega
  · have := (H.one.apart j q).1; omega

/-- A row of items that is beside two cursors. -/
structure RowBy (w0 w : World) (b : Nat) (F1 F2 : Nat → Prop) (vh tv : Value) (m : List Item) : Prop where
  own : w.ownsRow 0 35 3 tv m.length (m.flatMap itemC)
  far : ∀ j, tv.ownBlock = some j → Beside w0 w b F1 F2 vh j
theorem RowBy.none : RowBy w0 w b F1 F2 vh (.slice none 0 0) [] := ⟨⟨rfl, .inl ⟨rfl, rfl⟩⟩, fun j hj => by cases hj⟩
theorem RowBy.swap {tv : Value} {m : List Item} (h : RowBy w0 w b F1 F2 vh tv m) : RowBy w0 w b F2 F1 vh tv m := ⟨h.own, fun j hj => (h.far j hj).swap⟩
theorem RowBy.step {tv : Value} {m : List Item} {F' : Nat → Prop} (h : RowBy w0 w b F1 F2 vh tv m) (st : CStep b F1 F' w w') : RowBy w0 w' b F' F2 vh tv m :=
  ⟨own_only h.own st.only (fun j hj q => q.elim (h.far j hj).n1 (h.far j hj).np), fun j hj => (h.far j hj).step st⟩
theorem RowBy.later {tv : Value} {m : List Item} {T : Nat → Prop} (h : RowBy w0 w b F1 F2 vh tv m) (hb : b < w.heap.size) (o : Only T w w') (hT : ¬ T b) (hn : ∀ j, tv.ownBlock = some j → ¬ T j) : RowBy w0 w' b F1 F2 vh tv m :=
  ⟨own_only h.own o hn, fun j hj => (h.far j hj).later hb o hT⟩
end Go.Proofs.Ytcjaokmodicikaa
