/- Plain laws: pages are kept one by one. No program in sight. -/
import Derived.Test.YtbhiamcmiopnoaaGreatDoorZPlain
namespace Go.Proofs.YtbhiamcmiopnoaaGreatDoor
section
open Go.RowKit
/-! ### Pages are kept one by one -/
inductive KSt (S : PSt) (old : Int) (ns : List Node) : Nat → PSt → List Int → Int → Prop
  | zero : KSt S old ns 0 S [] old
  | set (n : Node) (h : ns[0]? = some n) (ho : old ≠ 0) (hm : isMine S old = true) : KSt S old ns 1 { S with L := S.L.set (old - 2).toNat n } [old] 0
  | new (k : Nat) (S' : PSt) (ids : List Int) (o : Int) (n : Node) (h : KSt S old ns k S' ids o) (hk : ns[k]? = some n) (hnot : k = 0 → ¬ (old ≠ 0 ∧ isMine S old = true)) :
      KSt S old ns (k + 1) { S' with L := S'.L ++ [n] } (ids ++ [((S'.L.length + 2 : Nat) : Int)]) o
theorem newIds_snoc (n k : Nat) : newIds n (k + 1) = newIds n k ++ [((n + 2 + k : Nat) : Int)] := by
  apply List.ext_getElem?
  intro i
  rw [List.getElem?_append, newIds_length]
  by_cases h : i < k
  · rw [if_pos h, newIds_get _ _ _ h, newIds_get _ _ _ (by omega)]
  · rw [if_neg h]
    by_cases h2 : i = k
    · subst h2; rw [newIds_get _ _ _ (by omega)]; simp
    · rw [List.getElem?_eq_none (by rw [newIds_length]; omega), List.getElem?_eq_none (by simp; omega)]
theorem KSt.form {S : PSt} {old : Int} {ns : List Node} {k : Nat} {S' : PSt} {ids : List Int} {o : Int} (h : KSt S old ns k S' ids o) : k ≤ ns.length ∧
    ((¬ (old ≠ 0 ∧ isMine S old = true) ∨ k = 0) ∧ S' = { S with L := S.L ++ ns.take k } ∧ ids = newIds S.L.length k ∧ o = old ∨
    (old ≠ 0 ∧ isMine S old = true) ∧ ∃ m n0 r, k = m + 1 ∧ ns = n0 :: r ∧ S' = { S with L := S.L.set (old - 2).toNat n0 ++ r.take m } ∧ ids = old :: newIds S.L.length m ∧ o = 0) := by
  induction h with
  | zero => exact ⟨Nat.zero_le _, .inl ⟨.inr rfl, by simp, rfl, rfl⟩⟩
  | set n h ho hm =>
    obtain ⟨hl, _⟩ := List.getElem?_eq_some_iff.1 h
    refine ⟨hl, .inr ⟨⟨ho, hm⟩, 0, n, ns.drop 1, rfl, ?_, by simp, rfl, rfl⟩⟩
    cases ns with
    | nil => simp at hl
    | cons a r => simp at h; subst h; rfl
  | new k S' ids o n h hk hnot ih =>
    obtain ⟨hl, _⟩ := List.getElem?_eq_some_iff.1 hk
    refine ⟨hl, ?_⟩
    rcases ih.2 with ⟨h1, rfl, rfl, rfl⟩ | ⟨h1, m, n0, r, rfl, rfl, rfl, rfl, rfl⟩
    · left
      refine ⟨.inl (h1.elim id hnot), ?_, ?_, rfl⟩
      · simp only [List.append_assoc]
        rw [List.take_add_one, hk]
        rfl
      · rw [newIds_snoc]
        simp only [List.length_append, List.length_take]
        congr 2
        have : min k ns.length = k := by omega
        rw [this]
        omega
    · right
      refine ⟨h1, m + 1, n0, r, rfl, rfl, ?_, ?_, rfl⟩
      · rw [List.getElem?_cons_succ] at hk
        simp only [List.append_assoc]
        rw [List.take_add_one, hk]
        rfl
      · rw [List.getElem?_cons_succ] at hk
        obtain ⟨hl2, _⟩ := List.getElem?_eq_some_iff.1 hk
        rw [newIds_snoc]
        simp only [List.length_append, List.length_set, List.length_take, List.cons_append]
        have : min m r.length = m := by omega
        rw [this]
        congr 3
        omega
theorem KSt.done {S : PSt} {old : Int} {ns : List Node} {S' : PSt} {ids : List Int} {o : Int} (h : KSt S old ns ns.length S' ids o) (hl : S.L.length + ns.length ≤ 3998) : keepP S old ns = (.ok ids, if o ≠ 0 then freeP S' o else S') := by
  rcases h.form.2 with ⟨h1, rfl, rfl, rfl⟩ | ⟨h1, m, n0, r, h2, rfl, rfl, rfl, rfl⟩
  · have e : keepP S o ns = keepNew S o ns := by
      cases ns with
      | nil => rfl
      | cons n r =>
        rw [keepP, if_neg (h1.resolve_right (by simp))]
    rw [e]
    unfold keepNew
    rw [newsP_is ns S hl, List.take_length]
  · rw [keepP, if_pos h1]
    have hm := h1.2
    simp only [isMine, decide_eq_true_eq] at hm
    rw [List.length_cons] at h2 hl
    rw [setP, if_neg (by omega)]
    simp only
    rw [newsP_is r _ (by simp; omega)]
    have hrm : m = r.length := by omega
    subst hrm
    simp only [List.length_set, List.take_length]
    rfl
theorem KSt.keeps {S : PSt} {old : Int} {ns : List Node} {k : Nat} {S' : PSt} {ids : List Int} {o : Int} (h : KSt S old ns k S' ids o) : S'.L.length ≤ S.L.length + k ∧ S'.stop = S.stop ∧ S'.given = S.given ∧ S'.mine = S.mine ∧ ids.length = k := by
  induction h with
  | zero => exact ⟨Nat.le_refl _, rfl, rfl, rfl, rfl⟩
  | set => exact ⟨by simp, rfl, rfl, rfl, rfl⟩
  | new k S' ids o n h hk hnot ih => exact ⟨by simp; omega, ih.2.1, ih.2.2.1, ih.2.2.2.1, by simp [ih.2.2.2.2]⟩
end
section
open Go.RowKit
/-! ### How much is given back; how large a twig grows -/
theorem newsP_given (ns : List Node) : ∀ p : PSt, (newsP p ns).2.given = p.given := by
  induction ns with
  | nil => intro p; rfl
  | cons n ns ih =>
    intro p
    rw [newsP, newP]
    split
    · rename_i h; split at h <;> cases h; rfl
    · rename_i h
      split at h
      · cases h
      · cases h
        have := ih { p with L := p.L ++ [n] }
        split
        · rename_i h2; rw [h2] at this; exact this
        · rename_i h2; rw [h2] at this; exact this
theorem keepNew_given (p : PSt) (old : Int) (ns : List Node) : (keepNew p old ns).2.given.length ≤ p.given.length + 1 := by
  have h := newsP_given ns p
  unfold keepNew
  split
  · rename_i h2; rw [h2] at h; have := congrArg List.length h; simp only at this ⊢; omega
  · rename_i h2
    rw [h2] at h
    have := congrArg List.length h
    simp only at this ⊢
    split
    · simp [freeP]; omega
    · omega
theorem keepP_given (p : PSt) (old : Int) (ns : List Node) : (keepP p old ns).2.given.length ≤ p.given.length + 1 := by
  cases ns with
  | nil => exact keepNew_given p old []
  | cons n ns =>
    rw [keepP]
    split
    · rw [setP]
      split
      · rename_i h; split at h <;> cases h; exact Nat.le_succ _
      · rename_i h
        split at h
        · cases h
        · cases h
          have h := newsP_given ns { p with L := p.L.set (old - 2).toNat n }
          split
          · rename_i h2; rw [h2] at h; have := congrArg List.length h; simp only at this ⊢; omega
          · rename_i h2; rw [h2] at h; have := congrArg List.length h; simp only at this ⊢; omega
    · exact keepNew_given p old (n :: ns)
theorem leavesP_given (p : PSt) (old : Int) (l : List Item) : (leavesP p old l).2.given.length ≤ p.given.length + 1 := by
  have h := keepP_given p old ((cutL l).map Node.leaf)
  unfold leavesP
  split
  · split
    · rename_i h2; rw [h2] at h; exact h
    · rename_i h2; rw [h2] at h; exact h
  · exact Nat.le_succ _
theorem twigsP_given (p : PSt) (old : Int) (l : List Kid) : (twigsP p old l).2.given.length ≤ p.given.length + 1 := by
  have h := keepP_given p old ((cutT l).map Node.twig)
  unfold twigsP
  split
  · split
    · rename_i h2; rw [h2] at h; exact h
    · rename_i h2; rw [h2] at h; exact h
  · exact Nat.le_succ _
theorem loadP_given (p : PSt) (id depth : Int) : (loadP p id depth).2.given = p.given := by
  unfold loadP getP
  split
  · rfl
  · split
    · rfl
    · split <;> (simp only; split <;> rfl)
theorem putP_given (i : Item) (f : Nat) : ∀ (p : PSt) (id depth : Int), (putP f p id i depth).2.given.length ≤ p.given.length + f := by
  induction f with
  | zero => intro p id depth; exact Nat.le_refl _
  | succ f ih =>
    intro p id depth
    have hl := congrArg List.length (loadP_given p id depth)
    rw [putP]
    split
    · rename_i h; rw [h] at hl; simp only at hl ⊢; omega
    · rename_i l p1 h
      rw [h] at hl
      have := leavesP_given p1 id (putL l i)
      simp only at hl; omega
    · rename_i kids p1 h
      rw [h] at hl
      simp only at hl
      split
      · simp only; omega
      · rename_i k _
        have h1 := ih p1 k.page (depth + 1)
        split
        · rename_i h2; rw [h2] at h1; simp only at h1 ⊢; omega
        · rename_i w p2 h2
          rw [h2] at h1
          have := twigsP_given p2 id (swapL kids (findK kids i.key) (lowerHead k.key w))
          simp only at h1; omega
    · rename_i h; rw [h] at hl; simp only at hl ⊢; omega
theorem topP_given (f : Nat) : ∀ (p : PSt) (l : List Kid), (topP f p l).2.given.length ≤ p.given.length + f := by
  induction f with
  | zero => intro p l; exact Nat.le_refl _
  | succ f ih =>
    intro p l
    match l with
    | [] => exact Nat.le_add_right _ _
    | [k] => exact Nat.le_add_right _ _
    | a :: b :: r =>
      have h := twigsP_given p 0 (a :: b :: r)
      have e : topP (f + 1) p (a :: b :: r) = (match twigsP p 0 (a :: b :: r) with | (.error e, p) => (.error e, p) | (.ok up, p) => topP f p up) := by
        rw [topP] <;> first | rfl | (intro k q; simp at q) | (intro q; simp at q)
      rw [e]
      split
      · rename_i h2; rw [h2] at h; simp only at h ⊢; omega
      · rename_i up p1 h2
        rw [h2] at h
        have := ih p1 up
        simp only at h; omega
theorem putTree_given (p : PSt) (root : Int) (i : Item) : (putTree p root i).2.given.length ≤ p.given.length + 33 := by
  unfold putTree
  split
  · have h : ((if root = 0 then leavesP p 0 [i] else putP 13 p root i 1) : Res (List Kid)).2.given.length ≤ p.given.length + 13 := by
      split
      · have := leavesP_given p 0 [i]; omega
      · exact putP_given i 13 p root 1
    split
    · rename_i h2; rw [h2] at h; simp only at h ⊢; omega
    · rename_i l p1 h2
      rw [h2] at h
      have := topP_given 20 p1 l
      simp only at h; omega
  · simp only; omega
theorem swapL_size (l w : List Kid) (a : Nat) : sizeL (swapL l a w) ≤ sizeL l + sizeL w := by
  unfold swapL
  have h1 := sizeL_app (l.take a ++ w) (l.drop (a + 1))
  have h2 := sizeL_app (l.take a) w
  have h3 := sizeL_app (l.take a) (l.drop a)
  rw [List.take_append_drop] at h3
  have h4 : sizeL (l.drop (a + 1)) ≤ sizeL (l.drop a) := by
    refine sizeL_sub ?_
    rw [← List.drop_drop]
    exact List.drop_sublist _ _
  have := sizeL_pos (l.drop a)
  have := sizeL_pos w
  omega
theorem swapL_length (l w : List Kid) (a : Nat) (h : a < l.length) : (swapL l a w).length + 1 = l.length + w.length := by
  unfold swapL
  simp only [List.length_append, List.length_take, List.length_drop]
  omega
theorem lowerHead_length (k : Bytes) (w : List Kid) : (lowerHead k w).length = w.length := by cases w <;> rfl
theorem cutT_few {l : List Kid} (hr : rightL l = true) (hs : sizeL l ≤ 392) : (cutT l).length ≤ 2 := by
  have hri := (rightL_iff _).1 hr
  unfold cutT
  rw [fix_length]
  exact cutL_few2 _ (fun x hx => (cost_kid (hri.1 x hx)).1) (fun x hx => (cost_kid (hri.1 x hx)).2) hs
theorem twigsP_right {p p' : PSt} {old : Int} {l ks : List Kid} (h : twigsP p old l = (.ok ks, p')) : rightL l = true := by
  unfold twigsP at h
  by_cases hr : rightL l = true
  · exact hr
  · rw [if_neg hr] at h; cases h
end
section
open Go.RowKit
/-! ### The parts of a put below a twig -/
theorem put_twig_parts (i : Item) (hi : okItem i = true) (n f : Nat) (S S2 : PSt) (id : Int) (b : Bytes) (l : List Item) (ids : List Int) (depth : Int) (ks : List Kid) (h : Tree S.L (n + 1) id b l ids) (hf : n < f) (hd : depth + (n + 1 : Nat) ≤ 12) (hs : S.stop < 0) (hL : S.L.length + 3 + 2 * (n + 1) ≤ 3998)
    (hk : putP (f + 1) S id i depth = (.ok ks, S2)) :
    ∃ kids k w p1, nodeAt S.L id = some (.twig kids) ∧ kids ≠ [] ∧ okNode (.twig kids) ∧ 2 ≤ kids.length ∧ kids[findK kids i.key]? = some k ∧ (∃ b' l' ids', Tree S.L n k.page b' l' ids') ∧ putP f S k.page i (depth + 1) = (.ok w, p1) ∧ w ≠ [] ∧ w.length ≤ 3 ∧
      p1.L.length ≤ S.L.length + 3 + 2 * n ∧ p1.stop = S.stop ∧ S.L.length ≤ p1.L.length ∧ p1.given.length ≤ S.given.length + f ∧ rightL w = true ∧ twigsP p1 id (swapL kids (findK kids i.key) (lowerHead k.key w)) = (.ok ks, S2) := by
  cases h with
  | twig _ _ ts h two ok sub bd nd =>
    have hri := (rightL_iff _).1 ok.1
    have hne : ts.map Sprout.kid ≠ [] := by intro q; rw [List.map_eq_nil_iff] at q; subst q; simp at two
    obtain ⟨A', x, C', e1, e2, e3, e4⟩ := findK_is hri.2 hne i.key
    obtain ⟨A, r, rfl, rfl, er⟩ := List.map_eq_append_iff.1 e1
    obtain ⟨t, C, rfl, rfl, rfl⟩ := List.map_eq_cons_iff.1 er
    have hkid : ((A ++ t :: C).map Sprout.kid)[findK ((A ++ t :: C).map Sprout.kid) i.key]? = some t.kid := by
      rw [e2, List.map_append, List.getElem?_append_right (by simp)]
      simp
    have hT := sub t (by simp)
    obtain ⟨w, p1, g1, W, g3, g4, g5, M, g7⟩ := putP_is i hi n S t.kid.page t.low t.items t.ids (depth + 1) f hT (by omega) (by omega) hs (by omega)
    have hg := putP_given i f S t.kid.page (depth + 1)
    rw [g1] at hg
    refine ⟨_, t.kid, w.map Sprout.kid, p1, h, hne, ok, by rw [List.length_map]; exact two, hkid, ⟨_, _, _, hT⟩, g1, by simpa using g4, by rw [List.length_map]; exact g5, by have := M.few; omega, M.stop, M.grow, hg, W.ok, ?_⟩
    rw [putP, loadP_is h (by omega) hs] at hk
    simp only at hk
    rw [hkid] at hk
    simp only at hk
    rw [g1] at hk
    exact hk
end
end Go.Proofs.YtbhiamcmiopnoaaGreatDoor
