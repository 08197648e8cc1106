/- Acts on a tree, one behind the other: how the law stands; what was given back is forgotten; what a drop gives back. Conditions: one goroutine. -/
import Derived.Test.YtklccpaphkpgfaaGreatZAlive12
import Derived.Test.YtklccpaphkpgfaaGreatZAct12
import Derived.Test.YtklccpaphkpgfaaGreatZDrop
namespace Go.Proofs.YtklccpaphkpgfaaGreat
open Go.RowKit

/-- How the law stands behind so many acts. -/
structure Acts (w wr : World) (b : Nat) (S : PSt) (root : Int) (h : List Item) (k : Nat) : Prop where
  pages : PagesAt wr b S
  plays : PlaysTo S root h k
  only : Only (fun _ => False) w wr
  fresh : ∀ j, pown wr b j → w.heap.size ≤ j
section
variable {w wr w' : World} {b : Nat} {S S' : PSt} {root root' : Int} {h h' : List Item} {k k' : Nat}
theorem Acts.step (H : Acts w wr b S root h k) (s : PStep b wr w') (hp : PagesAt w' b S') (pl : PlaysTo S' root' h' k') : Acts w w' b S' root' h' k' :=
  ⟨hp, pl, (PStep.new H.only H.fresh s).1, (PStep.new H.only H.fresh s).2⟩
theorem Acts.still (H : Acts w wr b S root h k) (ho : Only (fun _ => False) wr w') : Acts w w' b S root h k := H.step (PStep.still H.pages.lt ho) (H.pages.still ho) H.plays
/-- What was given back is forgotten. -/
theorem PagesAt.clear (h : PagesAt w b S) : PagesAt (w.setCell ⟨b, 2, none⟩ (.slice none 0 0)) b { S with given := [] } ∧ PStep b w (w.setCell ⟨b, 2, none⟩ (.slice none 0 0)) := by
  obtain ⟨vL, vG, h⟩ := h
  have hh := heap_setCell h.heap 2 (.slice none 0 0)
  have hI : PagesIn (w.setCell ⟨b, 2, none⟩ (.slice none 0 0)) b { S with given := [] } vL (.slice none 0 0) :=
    ⟨hh, own_store h.rowL h.neL 2 _, ⟨rfl, .inl ⟨rfl, rfl⟩⟩, h.neL, (by simp [Value.ownBlock]), (fun _ _ => by simp [Value.ownBlock]), h.sound, h.few, h.mine, h.stop, by simp⟩
  refine ⟨⟨_, _, hI⟩, (Only.refl (pown w b) w).put b 2 (.inl rfl) _, fun k q => ?_⟩
  rw [h.pown_iff]
  rcases (hI.pown_iff k).1 q with q | q | q
  · exact .inl (.inl q)
  · exact .inl (.inr (.inl q))
  · simp [Value.ownBlock] at q
end
/-- The cell that holds what was given back. -/
theorem PagesAt.given_cell {w : World} {b : Nat} {S : PSt} (h : PagesAt w b S) : ∃ a c, w.cell? ⟨b, 2, none⟩ = some (.slice a S.given.length c) ∧ w.frozen? ⟨b, 2, none⟩ = false ∧ RowAt intE 1 w (.slice a S.given.length c) S.given ∧ w.cell? ⟨b, 3, none⟩ = some (.bool S.bad) ∧ w.cell? ⟨b, 4, none⟩ = some (.bool S.twice) := by
  obtain ⟨vL, vG, h⟩ := h
  obtain ⟨aG, cG, rfl⟩ := ownsRow_form h.rowG
  have c2 := heap_cell h.heap 2
  have c3 := heap_cell h.heap 3
  have c4 := heap_cell h.heap 4
  simp only [List.getElem?_toArray, List.getElem?_cons_zero, List.getElem?_cons_succ] at c2 c3 c4
  exact ⟨aG, cG, c2, heap_frozen h.heap 2, row_own (enc := intE) (k := 1) (fun _ => rfl) (by rw [← intsI_flat]; exact h.rowG), c3, c4⟩
theorem foldl_freeP_is (l : List Int) (S : PSt) : (l.foldl freeP S).bad = S.bad ∧ (l.foldl freeP S).L = S.L ∧ (l.foldl freeP S).stop = S.stop := by
  induction l generalizing S with
  | nil => exact ⟨rfl, rfl, rfl⟩
  | cons a l ih => rw [List.foldl_cons]; exact ih _
theorem foldl_freeP_twice (l : List Int) (S : PSt) (hn : l.Nodup) (hd : ∀ j ∈ l, j ∉ S.given) : (l.foldl freeP S).twice = S.twice := by
  induction l generalizing S with
  | nil => rfl
  | cons a l ih =>
    rw [List.nodup_cons] at hn
    rw [List.foldl_cons, ih _ hn.2 (fun j hj q => ?_)]
    · show (S.twice || S.given.any fun g => g == a) = S.twice
      rw [any_false (hd a (by simp)), Bool.or_false]
    · have q2 : j ∈ S.given ++ [a] := q
      rcases List.mem_append.1 q2 with q2 | q2
      · exact hd j (by simp [hj]) q2
      · rw [List.mem_singleton] at q2
        exact hn.1 (q2 ▸ hj)
theorem sortI_mem (l : List Int) : (sortI l).Perm l := List.mergeSort_perm l _
/-- Rising, each greater than those before. -/
theorem sortI_rises {l : List Int} (hn : l.Nodup) : (sortI l).Pairwise fun a b => a < b := by
  have tr : ∀ a b c : Int, decide (a ≤ b) = true → decide (b ≤ c) = true → decide (a ≤ c) = true := fun a b c h1 h2 => by simp only [decide_eq_true_eq] at *; omega
  have to : ∀ a b : Int, (decide (a ≤ b) || decide (b ≤ a)) = true := fun a b => by simp only [Bool.or_eq_true, decide_eq_true_eq]; omega
  have h1 := List.pairwise_mergeSort tr to l
  have h2 : (sortI l).Nodup := (sortI_mem l).nodup_iff.2 hn
  refine (h1.and h2).imp fun {a b} q => ?_
  obtain ⟨q1, q2⟩ := q
  simp only [decide_eq_true_eq] at q1
  omega
theorem sortI_before {l : List Int} (hn : l.Nodup) {k : Nat} {id : Int} (h : (sortI l)[k]? = some id) : ∀ x ∈ (sortI l).take k, x < id := fun x hx => by
  obtain ⟨i, hi, rfl⟩ := List.mem_iff_getElem.1 hx
  rw [List.length_take] at hi
  rw [List.getElem_take]
  obtain ⟨hk, hid⟩ := List.getElem?_eq_some_iff.1 h
  have := List.pairwise_iff_getElem.1 (sortI_rises hn) i k (by omega) hk (by omega)
  rwa [hid] at this
theorem Rooted.nodup {L : List Node} {root : Int} {l : List Item} {ids : List Int} (h : Rooted L root l ids) : ids.Nodup := by
  cases h with
  | none => exact List.nodup_nil
  | some n _ b _ _ T => exact T.nodup
end Go.Proofs.YtklccpaphkpgfaaGreat
