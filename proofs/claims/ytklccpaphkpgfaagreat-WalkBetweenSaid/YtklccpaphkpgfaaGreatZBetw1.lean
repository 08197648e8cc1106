/- WalkBetween: how the law stands: the pages, the book, the list that is wanted. Conditions: one goroutine. -/
import Derived.Test.YtklccpaphkpgfaaGreatZBet
import Derived.Test.YtklccpaphkpgfaaGreatZBook8
namespace Go.Proofs.YtklccpaphkpgfaaGreat
open Go.RowKit

theorem row_n2 {w : World} {a : Option Addr} {n c : Nat} {l : List Item} (h : RowAt itemC 3 w (.slice a n c) l) : n = l.length := by cases h <;> rfl
theorem step_new {b : Nat} {w0 w w' : World} (ho : Only (fun _ => False) w0 w) (hb : ∀ k, pown w b k → w0.heap.size ≤ k) (s : PStep b w w') : Only (fun _ => False) w0 w' ∧ ∀ k, pown w' b k → w0.heap.size ≤ k := by
  have hs := ho.size
  refine ⟨ho.trans s.only fun i hi q => by have := hb i q; omega, fun k q => ?_⟩
  rcases s.own k q with q | q
  · exact hb k q
  · omega
theorem pagesB_beside {w w' : World} {b : Nat} {S : PSt} {T : Nat → Prop} (h : PagesAt w b S) (ho : Only T w w') (hT : ∀ k, pown w b k → ¬ T k) : PagesAt w' b S := by
  obtain ⟨vL, vG, h⟩ := h
  exact ⟨vL, vG, h.beside ho hT⟩
/-- How the law stands. -/
structure Betw (w wr : World) (b : Nat) (S : PSt) (kb : Nat) (vI vW : Value) (xs ys : List Value) (ls : List (List Item)) (vw : Value) (m : List Item) : Prop where
  pages : PagesAt wr b S
  pnew : ∀ j, pown wr b j → w.heap.size ≤ j
  book : BookAt wr kb vI vW xs ys ls ls w.heap.size
  apart : ∀ j, bown kb vI vW xs ys j → ¬ pown wr b j
  want : RowAt itemC 3 wr vw m
  wapart : ∀ j, rowBlock vw = some j → ¬ pown wr b j ∧ ¬ bown kb vI vW xs ys j ∧ j < wr.heap.size
  only : Only (fun _ => False) w wr
theorem Betw.step {w wr w' : World} {b : Nat} {S S' : PSt} {kb : Nat} {vI vW : Value} {xs ys : List Value} {ls : List (List Item)} {vw : Value} {m : List Item} (H : Betw w wr b S kb vI vW xs ys ls vw m) (s : PStep b wr w') (hp : PagesAt w' b S') : Betw w w' b S' kb vI vW xs ys ls vw m := by
  obtain ⟨h1, h2⟩ := step_new H.only H.pnew s
  refine ⟨hp, h2, H.book.only s.only H.apart, fun j hj q => ?_, row_only H.want s.only (fun j hj => (H.wapart j hj).1), fun j hj => ⟨fun q => ?_, (H.wapart j hj).2.1, Nat.lt_of_lt_of_le (H.wapart j hj).2.2 s.only.size⟩, h1⟩
  · rcases s.own j q with q | q
    · exact H.apart j hj q
    · have := (H.book.bown_lt hj).1; omega
  · rcases s.own j q with q | q
    · exact (H.wapart j hj).1 q
    · have := (H.wapart j hj).2.2; omega
theorem Betw.still {w wr w' : World} {b : Nat} {S : PSt} {kb : Nat} {vI vW : Value} {xs ys : List Value} {ls : List (List Item)} {vw : Value} {m : List Item} (H : Betw w wr b S kb vI vW xs ys ls vw m) (ho : Only (fun _ => False) wr w') : Betw w w' b S kb vI vW xs ys ls vw m :=
  H.step (PStep.still H.pages.lt ho) (H.pages.still ho)
/-- One more list is kept. -/
theorem Betw.kept {w wr w' : World} {b : Nat} {S : PSt} {kb : Nat} {vI vW v : Value} {xs ys : List Value} {ls : List (List Item)} {vw : Value} {m l : List Item} {e : Ending} (H : Betw w wr b S kb vI vW xs ys ls vw m) (hv : ∀ j, OwnB v j → ¬ pown wr b j ∧ rowBlock vw ≠ some j) (hB : BookTold wr kb vI vW xs ys ls w.heap.size v l e w') :
    ∃ vI' vW' y, Betw w w' b S kb vI' vW' (xs ++ [v]) (ys ++ [y]) (ls ++ [l]) vw m := by
  obtain ⟨_, ho, vI', vW', y, hA, hI, hW, hy⟩ := hB
  have hT : ∀ j, j = kb ∨ OwnB vI j ∨ OwnB vW j → bown kb vI vW xs ys j := fun j q => by
    rcases q with q | q | q
    · exact .inl q
    · exact .inr (.inl q)
    · exact .inr (.inr (.inl q))
  have hbb : w'.heap[b]? = wr.heap[b]? := ho.block b H.pages.lt fun q => H.apart b (hT b q) (.inl rfl)
  have hpw : ∀ j, pown w' b j ↔ pown wr b j := fun j => pown_of_heap hbb j
  have hplt : ∀ j, pown wr b j → j < wr.heap.size := fun j q => pown_lt H.pages q
  have hnb : ∀ j, bown kb vI' vW' (xs ++ [v]) (ys ++ [y]) j → bown kb vI vW xs ys j ∨ wr.heap.size ≤ j ∨ OwnB v j := fun j q => by
    rcases q with q | q | q | ⟨u, hu, q⟩ | ⟨u, hu, q⟩
    · exact .inl (.inl q)
    · exact (hI j q).imp (fun q => .inr (.inl q)) .inl
    · exact (hW j q).imp (fun q => .inr (.inr (.inl q))) .inl
    · rcases List.mem_append.1 hu with hu | hu
      · exact .inl (.inr (.inr (.inr (.inl ⟨u, hu, q⟩))))
      · rw [List.mem_singleton.1 hu] at q; exact .inr (.inr q)
    · rcases List.mem_append.1 hu with hu | hu
      · exact .inl (.inr (.inr (.inr (.inr ⟨u, hu, q⟩))))
      · rw [List.mem_singleton.1 hu] at q; exact .inr (.inl (hy j q))
  refine ⟨vI', vW', y, ⟨pagesB_beside H.pages ho fun j q t => H.apart j (hT j t) q, fun j q => H.pnew j ((hpw j).1 q), hA, fun j hj q => ?_, row_only H.want ho (fun j hj q => (H.wapart j hj).2.1 (hT j q)), fun j hj => ⟨fun q => (H.wapart j hj).1 ((hpw j).1 q), fun q => ?_, Nat.lt_of_lt_of_le (H.wapart j hj).2.2 ho.size⟩, H.only.trans ho fun j hj q => by have := (H.book.bown_lt (hT j q)).2; omega⟩⟩
  · rcases hnb j hj with h | h | h
    · exact H.apart j h ((hpw j).1 q)
    · have := hplt j ((hpw j).1 q); omega
    · exact (hv j h).1 ((hpw j).1 q)
  · rcases hnb j q with h | h | h
    · exact (H.wapart j hj).2.1 h
    · have := (H.wapart j hj).2.2; omega
    · exact (hv j h).2 hj
/-- The wanted items, as far as the list was looked at. -/
def wantTo (l : List Item) (from_ to : Bytes) (i : Nat) : List Item := (l.take i).filter fun x => !Op.bytesLess x.key from_ && belowK to x
theorem wantTo_next {l : List Item} {from_ to : Bytes} {i : Nat} {x : Item} (h : l[i]? = some x) : wantTo l from_ to (i + 1) = if (!Op.bytesLess x.key from_ && belowK to x) = true then wantTo l from_ to i ++ [x] else wantTo l from_ to i := by
  unfold wantTo
  rw [List.take_add_one, h, List.filter_append]
  simp only [Option.toList_some, List.filter_cons, List.filter_nil]
  split
  · rfl
  · rw [List.append_nil]
theorem wantTo_end {l : List Item} {from_ to : Bytes} {most : Int} {i : Nat} (hm : (wantTo l from_ to i).length ≤ most.toNat) (h : l.length ≤ i ∨ most ≤ ((wantTo l from_ to i).length : Int)) : wantTo l from_ to i = wantL l from_ to most := by
  unfold wantL
  have e : (l.filter fun x => !Op.bytesLess x.key from_ && belowK to x) = wantTo l from_ to i ++ (l.drop i).filter (fun x => !Op.bytesLess x.key from_ && belowK to x) := by
    unfold wantTo
    rw [← List.filter_append, List.take_append_drop]
  rw [e]
  rcases h with h | h
  · rw [List.drop_eq_nil_of_le h, List.filter_nil, List.append_nil, List.take_of_length_le hm]
  · rw [List.take_append_of_le_length (by omega), List.take_of_length_le hm]
theorem wantTo_length (l : List Item) (from_ to : Bytes) (i : Nat) : (wantTo l from_ to i).length ≤ l.length := by
  unfold wantTo
  exact Nat.le_trans (List.length_filter_le _ _) (by rw [List.length_take]; omega)
end Go.Proofs.YtklccpaphkpgfaaGreat
