/- Plain laws: how much is given back, how large a twig grows. No program in sight. -/
import Derived.Test.YtcjaokmodicikaaZPlain5
namespace Go.Proofs.Ytcjaokmodicikaa
open Go.RowKit

/-! ### How much is given back; how large a twig grows -/

theorem newsP_given (ns : List Node) : ∀ p : PSt, (newsP p ns).2.given = p.given := by
  induction ns with
  | nil => intro p; rfl
  | cons n ns ih =>
    intro p
    rw [newsP, newP]
    split
    · rename_i h; split at h <;> cases h; rfl
    · rename_i h
      split at h
      · cases h
      · cases h
        have := ih { p with L := p.L ++ [n] }
        split
        · rename_i h2; rw [h2] at this; exact this
        · rename_i h2; rw [h2] at this; exact this
theorem keepNew_given (p : PSt) (old : Int) (ns : List Node) : (keepNew p old ns).2.given.length ≤ p.given.length + 1 := by
  have h := newsP_given ns p
  unfold keepNew
  split
  · rename_i h2; rw [h2] at h; have := congrArg List.length h; simp only at this ⊢; omega
  · rename_i h2
    rw [h2] at h
    have := congrArg List.length h
    simp only at this ⊢
    split
    · simp [freeP]; omega
    · omega
theorem keepP_given (p : PSt) (old : Int) (ns : List Node) : (keepP p old ns).2.given.length ≤ p.given.length + 1 := by
  cases ns with
  | nil => exact keepNew_given p old []
  | cons n ns =>
    rw [keepP]
    split
    · rw [setP]
      split
      · rename_i h; split at h <;> cases h; exact Nat.le_succ _
      · rename_i h
        split at h
        · cases h
        · cases h
          have h := newsP_given ns { p with L := p.L.set (old - 2).toNat n }
          split
          · rename_i h2; rw [h2] at h; have := congrArg List.length h; simp only at this ⊢; omega
          · rename_i h2; rw [h2] at h; have := congrArg List.length h; simp only at this ⊢; omega
    · exact keepNew_given p old (n :: ns)
theorem leavesP_given (p : PSt) (old : Int) (l : List Item) : (leavesP p old l).2.given.length ≤ p.given.length + 1 := by
  have h := keepP_given p old ((cutL l).map Node.leaf)
  unfold leavesP
  split
  · split
    · rename_i h2; rw [h2] at h; exact h
    · rename_i h2; rw [h2] at h; exact h
  · exact Nat.le_succ _
theorem twigsP_given (p : PSt) (old : Int) (l : List Kid) : (twigsP p old l).2.given.length ≤ p.given.length + 1 := by
  have h := keepP_given p old ((cutT l).map Node.twig)
  unfold twigsP
  split
  · split
    · rename_i h2; rw [h2] at h; exact h
    · rename_i h2; rw [h2] at h; exact h
  · exact Nat.le_succ _
theorem loadP_given (p : PSt) (id depth : Int) : (loadP p id depth).2.given = p.given := by
  unfold loadP getP
  split
  · rfl
  · split
    · rfl
    · split <;> (simp only; split <;> rfl)
theorem putP_given (i : Item) (f : Nat) : ∀ (p : PSt) (id depth : Int), (putP f p id i depth).2.given.length ≤ p.given.length + f := by
  induction f with
  | zero => intro p id depth; exact Nat.le_refl _
  | succ f ih =>
    intro p id depth
    have hl := congrArg List.length (loadP_given p id depth)
    rw [putP]
    split
    · rename_i h; rw [h] at hl; simp only at hl ⊢; omega
    · rename_i l p1 h
      rw [h] at hl
      have := leavesP_given p1 id (putL l i)
      simp only at hl; omega
    · rename_i kids p1 h
      rw [h] at hl
      simp only at hl
      split
      · simp only; omega
      · rename_i k _
        have h1 := ih p1 k.page (depth + 1)
        split
        · rename_i h2; rw [h2] at h1; simp only at h1 ⊢; omega
        · rename_i w p2 h2
          rw [h2] at h1
          have := twigsP_given p2 id (swapL kids (findK kids i.key) (lowerHead k.key w))
          simp only at h1; omega
theorem topP_given (f : Nat) : ∀ (p : PSt) (l : List Kid), (topP f p l).2.given.length ≤ p.given.length + f := by
  induction f with
  | zero => intro p l; exact Nat.le_refl _
  | succ f ih =>
    intro p l
    match l with
    | [] => exact Nat.le_add_right _ _
    | [k] => exact Nat.le_add_right _ _
    | a :: b :: r =>
      have h := twigsP_given p 0 (a :: b :: r)
      have e : topP (f + 1) p (a :: b :: r) = (match twigsP p 0 (a :: b :: r) with | (.error e, p) => (.error e, p) | (.ok up, p) => topP f p up) := by
        rw [topP] <;> first | rfl | (intro k q; simp at q) | (intro q; simp at q)
      rw [e]
      split
      · rename_i h2; rw [h2] at h; simp only at h ⊢; omega
      · rename_i up p1 h2
        rw [h2] at h
        have := ih p1 up
        simp only at h; omega
theorem putTree_given (p : PSt) (root : Int) (i : Item) : (putTree p root i).2.given.length ≤ p.given.length + 33 := by
  unfold putTree
  split
  · have h : ((if root = 0 then leavesP p 0 [i] else putP 13 p root i 1) : Res (List Kid)).2.given.length ≤ p.given.length + 13 := by
      split
      · have := leavesP_given p 0 [i]; omega
      · exact putP_given i 13 p root 1
    split
    · rename_i h2; rw [h2] at h; simp only at h ⊢; omega
    · rename_i l p1 h2
      rw [h2] at h
      have := topP_given 20 p1 l
      simp only at h; omega
  · simp only; omega

theorem swapL_size (l w : List Kid) (a : Nat) : sizeL (swapL l a w) ≤ sizeL l + sizeL w := by
  unfold swapL
  have h1 := sizeL_app (l.take a ++ w) (l.drop (a + 1))
  have h2 := sizeL_app (l.take a) w
  have h3 := sizeL_app (l.take a) (l.drop a)
  rw [List.take_append_drop] at h3
  have h4 : sizeL (l.drop (a + 1)) ≤ sizeL (l.drop a) := by
    refine sizeL_sub ?_
    rw [← List.drop_drop]
    exact List.drop_sublist _ _
  have := sizeL_pos (l.drop a)
  have := sizeL_pos w
  omega
theorem swapL_length (l w : List Kid) (a : Nat) (h : a < l.length) : (swapL l a w).length + 1 = l.length + w.length := by
  unfold swapL
  simp only [List.length_append, List.length_take, List.length_drop]
  omega
theorem lowerHead_length (k : Bytes) (w : List Kid) : (lowerHead k w).length = w.length := by cases w <;> rfl
theorem cutT_few {l : List Kid} (hr : rightL l = true) (hs : sizeL l ≤ 392) : (cutT l).length ≤ 2 := by
  have hri := (rightL_iff _).1 hr
  unfold cutT
  rw [fix_length]
  exact cutL_few2 _ (fun x hx => (cost_kid (hri.1 x hx)).1) (fun x hx => (cost_kid (hri.1 x hx)).2) hs
theorem twigsP_right {p p' : PSt} {old : Int} {l ks : List Kid} (h : twigsP p old l = (.ok ks, p')) : rightL l = true := by
  unfold twigsP at h
  by_cases hr : rightL l = true
  · exact hr
  · rw [if_neg hr] at h; cases h
end Go.Proofs.Ytcjaokmodicikaa
