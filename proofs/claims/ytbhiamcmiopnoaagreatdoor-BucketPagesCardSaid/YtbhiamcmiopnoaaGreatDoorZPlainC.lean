/- Plain laws: the parts of a delete below a twig; how much a delete gives back. No program in sight. -/
import Derived.Test.YtbhiamcmiopnoaaGreatDoorZPlainB
import Derived.Test.YtbhiamcmiopnoaaGreatDoorZPlain
namespace Go.Proofs.YtbhiamcmiopnoaaGreatDoor
section
open Go.RowKit
/-! ### The parts of a delete below a twig -/
theorem joinP_given (p : PSt) (kids : List Kid) (a : Nat) (one : Kid) (depth : Int) : (joinP p kids a one depth).2.given.length ≤ p.given.length + 1 := by
  unfold joinP
  split
  · exact Nat.le_succ _
  · split
    · rename_i kb kl _ _
      have hl := congrArg List.length (loadP_given p kb.page depth)
      split
      · rename_i h; rw [h] at hl; simp only at hl ⊢; omega
      · rename_i h; rw [h] at hl; simp only at hl ⊢; omega
      · rename_i ks p1 h
        rw [h] at hl
        simp only at hl
        have h2 := twigsP_given p1 kb.page (if a = 0 then one :: setHead kb.key ks else ks ++ [one])
        split
        · rename_i h3; rw [h3] at h2; simp only at h2 ⊢; omega
        · rename_i h3; rw [h3] at h2; simp only at h2 ⊢; omega
      · rename_i h; rw [h] at hl; simp only at hl ⊢; omega
    · exact Nat.le_succ _
def lastP (id : Int) : Res (List Kid) → Res Rest
  | (.error e, p) => (.error e, p)
  | (.ok l, p) => if l.length = 1 then (.ok ⟨l, true, true⟩, freeP p id) else match twigsP p id l with
    | (.error e, p) => (.error e, p)
    | (.ok w, p) => (.ok ⟨w, false, true⟩, p)
theorem lastP_given (id : Int) (q : Res (List Kid)) : (lastP id q).2.given.length ≤ q.2.given.length + 1 := by
  obtain ⟨q1, q2⟩ := q
  cases q1 with
  | error e => exact Nat.le_succ _
  | ok l =>
    unfold lastP
    simp only
    split
    · simp [freeP]
    · have h5 := twigsP_given q2 id l
      split
      · rename_i h6; rw [h6] at h5; exact h5
      · rename_i h6; rw [h6] at h5; exact h5
theorem delP_given (key : Bytes) (f : Nat) : ∀ (p : PSt) (id depth : Int), (delP f p id key depth).2.given.length ≤ p.given.length + 2 * f := by
  induction f with
  | zero => intro p id depth; exact Nat.le_refl _
  | succ f ih =>
    intro p id depth
    have hl := congrArg List.length (loadP_given p id depth)
    rw [delP]
    split
    · rename_i h; rw [h] at hl; simp only at hl ⊢; omega
    · rename_i l p1 h
      rw [h] at hl
      simp only at hl
      have h2 := leavesP_given p1 id (dropL l key).1
      split
      · split
        · rename_i h3; rw [h3] at h2; simp only at h2 ⊢; omega
        · rename_i h3; rw [h3] at h2; simp only at h2 ⊢; omega
      · simp only; omega
    · rename_i kids p1 h
      rw [h] at hl
      simp only at hl
      split
      · simp only; omega
      · rename_i k _
        have h1 := ih p1 k.page (depth + 1)
        split
        · rename_i h2; rw [h2] at h1; simp only at h1 ⊢; omega
        · rename_i r p2 h2
          rw [h2] at h1
          simp only at h1
          split
          · have fin : ∀ q : Res (List Kid), q.2.given.length ≤ p.given.length + 2 * f + 1 → (lastP id q).2.given.length ≤ p.given.length + 2 * (f + 1) := fun q hq => by
              have := lastP_given id q
              omega
            refine fin _ ?_
            split
            · split
              · rename_i one rest hr
                have := joinP_given p2 kids (findK kids key) ⟨k.key, one.page⟩ (depth + 1)
                omega
              · simp only; omega
            · simp only; omega
          · simp only; omega
    · rename_i h; rw [h] at hl; simp only at hl ⊢; omega
theorem delTree_given (p : PSt) (root : Int) (key : Bytes) : (delTree p root key).2.given.length ≤ p.given.length + 46 := by
  unfold delTree
  split
  · simp only; omega
  · have h := delP_given key 13 p root 1
    split
    · rename_i h2; rw [h2] at h; simp only at h ⊢; omega
    · rename_i r p1 h2
      rw [h2] at h
      simp only at h
      split
      · have h3 := topP_given 20 p1 r.kids
        split
        · rename_i h4; rw [h4] at h3; simp only at h3 ⊢; omega
        · rename_i h4; rw [h4] at h3; simp only at h3 ⊢; omega
      · simp only; omega
def DelLast (id : Int) (l : List Kid) (p2 S2 : PSt) (r : Rest) : Prop := (l.length = 1 ∧ r = ⟨l, true, true⟩ ∧ S2 = freeP p2 id) ∨ (2 ≤ l.length ∧ ∃ w, twigsP p2 id l = (.ok w, S2) ∧ r = ⟨w, false, true⟩)
theorem del_twig_parts (key : Bytes) (n f : Nat) (S S2 : PSt) (id : Int) (b : Bytes) (l : List Item) (ids : List Int) (depth : Int) (r : Rest) (h : Tree S.L (n + 1) id b l ids) (hf : n < f) (hd : depth + (n + 1 : Nat) ≤ 12) (hs : S.stop < 0) (hL : S.L.length + 3 + 2 * (n + 1) ≤ 3998)
    (hk : delP (f + 1) S id key depth = (.ok r, S2)) :
    ∃ kids k rk p1, nodeAt S.L id = some (.twig kids) ∧ kids ≠ [] ∧ okNode (.twig kids) ∧ 2 ≤ kids.length ∧ kids[findK kids key]? = some k ∧ (∃ b' l' ids', Tree S.L n k.page b' l' ids') ∧ delP f S k.page key (depth + 1) = (.ok rk, p1) ∧
      p1.L.length ≤ S.L.length + 1 + 2 * n ∧ p1.stop = S.stop ∧ S.L.length ≤ p1.L.length ∧ p1.given.length ≤ S.given.length + 2 * f ∧
      ((rk = ⟨[], false, false⟩ ∧ r = ⟨[], false, false⟩ ∧ p1 = S ∧ S2 = S) ∨
       (rk.found = true ∧ ((rk.thin = false ∧ rk.kids.length ≤ 2 ∧ rightL rk.kids = true ∧ DelLast id (swapL kids (findK kids key) (setHead k.key rk.kids)) p1 S2 r) ∨
         (rk.thin = true ∧ ∃ one l2 p2, rk.kids = [one] ∧ okKid one = true ∧ joinP p1 kids (findK kids key) ⟨k.key, one.page⟩ (depth + 1) = (.ok l2, p2) ∧ sizeL l2 ≤ 392 ∧ p2.L.length ≤ p1.L.length + 2 ∧ p1.L.length ≤ p2.L.length ∧ p2.given.length ≤ p1.given.length + 1 ∧ p2.stop = p1.stop ∧ DelLast id l2 p2 S2 r)))) := by
  cases h with
  | twig _ _ ts h two ok sub bd nd =>
    have hri := (rightL_iff _).1 ok.1
    have hne : ts.map Sprout.kid ≠ [] := by intro q; rw [List.map_eq_nil_iff] at q; subst q; simp at two
    obtain ⟨A', x, C', e1, e2, e3, e4⟩ := findK_is hri.2 hne key
    obtain ⟨A, rr, rfl, rfl, er⟩ := List.map_eq_append_iff.1 e1
    obtain ⟨t, C, rfl, rfl, rfl⟩ := List.map_eq_cons_iff.1 er
    have hkid : ((A ++ t :: C).map Sprout.kid)[findK ((A ++ t :: C).map Sprout.kid) key]? = some t.kid := by
      rw [e2, List.map_append, List.getElem?_append_right (by simp)]
      simp
    have hT := sub t (by simp)
    have h2k : 2 ≤ ((A ++ t :: C).map Sprout.kid).length := by rw [List.length_map]; exact two
    have hfk : findK ((A ++ t :: C).map Sprout.kid) key < ((A ++ t :: C).map Sprout.kid).length := (List.getElem?_eq_some_iff.1 hkid).1
    rw [delP, loadP_is h (by omega) hs] at hk
    simp only at hk
    rw [hkid] at hk
    simp only at hk
    have hg := delP_given key f S t.kid.page (depth + 1)
    have last : ∀ (l2 : List Kid) (p2 : PSt), l2 ≠ [] → (if l2.length = 1 then (.ok ⟨l2, true, true⟩, freeP p2 id) else match twigsP p2 id l2 with
              | (.error e, p) => (.error e, p)
              | (.ok w, p) => ((.ok ⟨w, false, true⟩, p) : Res Rest)) = (.ok r, S2) → DelLast id l2 p2 S2 r := by
      intro l2 p2 hne2 hq
      have hpos := List.length_pos_iff.2 hne2
      split at hq
      · rename_i h1
        cases hq
        exact .inl ⟨h1, rfl, rfl⟩
      · rename_i h1
        split at hq
        · cases hq
        · rename_i w p3 h3
          cases hq
          exact .inr ⟨by omega, w, h3, rfl⟩
    rcases delP_is key n S t.kid.page t.low t.items t.ids (depth + 1) f hT (by omega) (by omega) hs (by omega) with ⟨i1, i2⟩ | ⟨i1, w, p1, thin, i2, i3, M, i5, i6⟩
    · rw [i2] at hk hg
      simp only [Bool.false_eq_true, if_false] at hk
      cases hk
      exact ⟨_, t.kid, _, _, h, hne, ok, h2k, hkid, ⟨_, _, _, hT⟩, i2, by omega, rfl, Nat.le_refl _, hg, .inl ⟨rfl, rfl, rfl, rfl⟩⟩
    · rw [i2] at hk hg
      simp only [if_true] at hk
      refine ⟨_, t.kid, _, p1, h, hne, ok, h2k, hkid, ⟨_, _, _, hT⟩, i2, by have := M.few; omega, M.stop, M.grow, hg, .inr ⟨rfl, ?_⟩⟩
      rcases i6 with ⟨rfl, W, hw2, _⟩ | ⟨rfl, m, o, rfl, rfl, O, _⟩
      · refine .inl ⟨rfl, by rw [List.length_map]; exact hw2, W.ok, ?_⟩
        simp only [Bool.false_eq_true, if_false] at hk
        refine last _ _ ?_ hk
        intro q
        have := congrArg List.length q
        have h3 := swapL_length _ (setHead t.kid.key (w.map Sprout.kid)) _ hfk
        simp only [List.length_nil] at this
        omega
      · simp only [if_true, List.map_cons, List.map_nil] at hk
        rw [List.nodup_cons] at nd
        have F : Forest S.L (m + 1) (A ++ t :: C) := ⟨sub, bd, ok.1, nd.2⟩
        have hlen : findK ((A ++ t :: C).map Sprout.kid) key = A.length := by rw [e2, List.length_map]
        simp only [List.flatMap_cons, List.flatMap_nil, List.append_nil] at i3 M
        obtain ⟨ls, p2, pages, x, s1, s2, s3, s4, s5, _, _, _, _, s10⟩ := join_step (depth := depth + 1) F two ok.2.1 M O (fun i hi => (dropL_sub t.items key).subset (by rw [← i3]; exact hi)) (fun b' hb => i5 b' hb o (by simp)) (by omega) (by rw [M.stop]; exact hs) (by have := M.few; omega)
        rw [← hlen] at s1
        rw [s1] at hk
        have hgj := joinP_given p1 ((A ++ t :: C).map Sprout.kid) (findK ((A ++ t :: C).map Sprout.kid) key) ⟨t.kid.key, o.kid.page⟩ (depth + 1)
        rw [s1] at hgj
        refine .inr ⟨rfl, o.kid, ls.map Sprout.kid, p2, rfl, ((rightL_iff _).1 O.ok).1 _ (by simp), s1, s10, s5.few, s5.grow, hgj, s5.stop, last _ _ (by simpa using s4) hk⟩
end
section
open Go.RowKit
/-! ### The parts of a join -/
theorem twigsP_ne {p p' : PSt} {old : Int} {l ks : List Kid} (h : twigsP p old l = (.ok ks, p')) (hne : l ≠ []) (hL : p.L.length + (cutT l).length ≤ 3998) (ho : old < (p.L.length + 2 : Nat)) : ks ≠ [] ∧ ks.length = (cutT l).length := by
  have hr := twigsP_right h
  unfold twigsP at h
  rw [if_pos hr] at h
  obtain ⟨ids', p2, h1, K⟩ := keepP_is p old ((cutT l).map Node.twig) (by simpa using hL) ho
  rw [h1] at h
  simp only at h
  cases h
  have hl : (kidsOf (cutT l) ids').length = (cutT l).length := by unfold kidsOf; rw [List.length_zipWith, K.len, List.length_map, Nat.min_self]
  refine ⟨fun q => ?_, hl⟩
  rw [q] at hl
  have hc : cutT l ≠ [] := by
    unfold cutT
    intro q2
    have := congrArg List.length q2
    rw [fix_length] at this
    have h3 := List.eq_nil_of_length_eq_zero this
    have h4 := cutL_flat l
    rw [h3] at h4
    exact hne h4.symm
  have := List.length_pos_iff.2 hc
  simp only [List.length_nil] at hl
  omega
theorem join_parts {p p2 : PSt} {kids l2 : List Kid} {a : Nat} {one : Kid} {depth : Int} (hs : p.stop < 0) (hd : depth ≤ 12) (h : joinP p kids a one depth = (.ok l2, p2)) :
    2 ≤ kids.length ∧ ∃ kb kl ks wk, kids[if a = 0 then 1 else a - 1]? = some kb ∧ kids[a - 1]? = some kl ∧ nodeAt p.L kb.page = some (.twig ks) ∧ twigsP p kb.page (if a = 0 then one :: setHead kb.key ks else ks ++ [one]) = (.ok wk, p2) ∧
      l2 = kids.take (a - 1) ++ setHead kl.key wk ++ kids.drop (a - 1 + 2) := by
  unfold joinP at h
  by_cases hl : kids.length < 2
  · rw [if_pos hl] at h; cases h
  · rw [if_neg hl] at h
    refine ⟨by omega, ?_⟩
    cases h1 : kids[if a = 0 then 1 else a - 1]? with
    | none => rw [h1] at h; cases h
    | some kb =>
      cases h2 : kids[a - 1]? with
      | none => rw [h1, h2] at h; cases h
      | some kl =>
        rw [h1, h2] at h
        simp only at h
        cases hn : nodeAt p.L kb.page with
        | none =>
          unfold loadP getP at h
          rw [if_neg (by omega), if_neg (by omega), hn] at h
          cases h
        | some n =>
          rw [loadP_is hn (by omega) hs] at h
          cases n with
          | leaf l => cases h
          | over b => cases h
          | twig ks =>
            simp only at h
            cases h3 : twigsP p kb.page (if a = 0 then one :: setHead kb.key ks else ks ++ [one]) with
            | mk q p3 =>
              rw [h3] at h
              cases q with
              | error e => cases h
              | ok wk => cases h; exact ⟨kb, kl, ks, wk, rfl, rfl, hn, h3, rfl⟩
end
end Go.Proofs.YtbhiamcmiopnoaaGreatDoor
