/- Plain laws: the same items, in whatever order they are put, make the same list. No program in sight. -/
import Derived.Test.YtklccpaphkpgfaaGreatZPlainD
namespace Go.Proofs.YtklccpaphkpgfaaGreat
open Go.RowKit

theorem mem_ahead_behind {l : List Item} {k : Bytes} {y : Item} : y ∈ l ↔ y ∈ ahead l k ∨ y ∈ behind l k := by
  have h := ahead_behind l k
  rw [← List.mem_append, h]
theorem mem_putL {h : List Item} (hr : Rising h) (x y : Item) : y ∈ putL h x ↔ y = x ∨ (y ∈ h ∧ y.key ≠ x.key) := by
  have ha := ahead_lt h x.key
  have hb := behind_ge hr x.key
  have hbr : Rising (behind h x.key) := by
    have h2 := hr
    unfold Rising at h2 ⊢
    rw [← ahead_behind h x.key, List.pairwise_append] at h2
    exact h2.2.1
  have hne : ∀ z, z ∈ ahead h x.key → z.key ≠ x.key := fun z hz e => by
    have := ha z hz
    rw [show Keyed.key z = x.key from e] at this
    exact List.lt_irrefl _ this
  have hm := mem_ahead_behind (l := h) (k := x.key) (y := y)
  unfold putL
  rw [List.mem_append, List.mem_cons, hm]
  cases hbh : behind h x.key with
  | nil =>
    simp only [List.not_mem_nil, or_false]
    constructor
    · rintro (q | q)
      · exact .inr ⟨q, hne y q⟩
      · exact .inl q
    · rintro (q | q)
      · exact .inr q
      · exact .inl q.1
  | cons z r =>
    rw [hbh] at hbr
    unfold Rising at hbr
    rw [List.pairwise_cons] at hbr
    have hzr : ∀ u ∈ r, u.key ≠ z.key := fun u hu e => by
      have := hbr.1 u hu
      rw [show Keyed.key u = Keyed.key z from e] at this
      exact List.lt_irrefl _ this
    by_cases hz : z.key = x.key
    · simp only [if_pos hz]
      constructor
      · rintro (q | q | q)
        · exact .inr ⟨.inl q, hne y q⟩
        · exact .inl q
        · exact .inr ⟨.inr (List.mem_cons_of_mem _ q), fun e => hzr y q (by rw [hz]; exact e)⟩
      · rintro (q | ⟨q | q, e⟩)
        · exact .inr (.inl q)
        · exact .inl q
        · rcases List.mem_cons.1 q with rfl | q
          · exact absurd hz e
          · exact .inr (.inr q)
    · simp only [if_neg hz]
      have hall : ∀ u ∈ z :: r, u.key ≠ x.key := by
        intro u hu e
        have h1 : ¬ Keyed.key z < x.key := hb z (by rw [hbh]; simp)
        have h2 : x.key ≠ z.key := fun q => hz q.symm
        rcases List.mem_cons.1 hu with rfl | hu
        · exact hz e
        · have h3 : Keyed.key z < Keyed.key u := hbr.1 u hu
          rw [show Keyed.key u = x.key from e] at h3
          exact h1 h3
      constructor
      · rintro (q | q | q)
        · exact .inr ⟨.inl q, hne y q⟩
        · exact .inl q
        · exact .inr ⟨.inr q, hall y q⟩
      · rintro (q | ⟨q | q, _⟩)
        · exact .inr (.inl q)
        · exact .inl q
        · exact .inr (.inr q)
theorem rising_ext {a b : List Item} (ha : Rising a) (hb : Rising b) (h : ∀ y, y ∈ a ↔ y ∈ b) : a = b := by
  induction a generalizing b with
  | nil =>
    cases b with
    | nil => rfl
    | cons y b => exact absurd ((h y).2 (by simp)) (by simp)
  | cons x a ih =>
    unfold Rising at ha
    rw [List.pairwise_cons] at ha
    cases b with
    | nil => exact absurd ((h x).1 (by simp)) (by simp)
    | cons y b =>
      unfold Rising at hb
      rw [List.pairwise_cons] at hb
      have hxy : x = y := by
        rcases List.mem_cons.1 ((h x).1 (by simp)) with e | q
        · exact e
        · rcases List.mem_cons.1 ((h y).2 (by simp)) with e | q2
          · exact e.symm
          · exact absurd (List.lt_trans (ha.1 y q2) (hb.1 x q)) (List.lt_irrefl _)
      subst hxy
      refine congrArg _ (ih ha.2 hb.2 fun z => ?_)
      have hz := h z
      rw [List.mem_cons, List.mem_cons] at hz
      constructor
      · intro q
        rcases hz.1 (.inr q) with e | q2
        · subst e; exact absurd (ha.1 z q) (List.lt_irrefl _)
        · exact q2
      · intro q
        rcases hz.2 (.inr q) with e | q2
        · subst e; exact absurd (hb.1 z q) (List.lt_irrefl _)
        · exact q2
theorem putL_twice {h : List Item} (hr : rightL h = true) {x : Item} (hx : okItem x = true) : putL (putL h x) x = putL h x := by
  have h1 := ((rightL_iff _).1 hr).2
  have h2 := ((rightL_iff _).1 (putL_right hr hx)).2
  have h3 := ((rightL_iff _).1 (putL_right (putL_right hr hx) hx)).2
  refine rising_ext h3 h2 fun y => ?_
  rw [mem_putL h2, mem_putL h1]
  constructor
  · rintro (q | ⟨q, _⟩)
    · exact .inl q
    · exact q
  · rintro (q | ⟨q, e⟩)
    · exact .inl q
    · exact .inr ⟨.inr ⟨q, e⟩, e⟩

theorem isAt_none14 {l : List Item} {key : Bytes} (h : ∀ (k : Nat) (x : Item), l[k]? = some x → x.key ≠ key) : isAt l key = false := by
  unfold isAt
  cases hx : l[findAt l key]? with
  | none => rfl
  | some x => simpa using h _ _ hx

/-- All put, one behind the other. -/
def putAll (l : List Item) : List Item := l.foldl putL []
/-- Items whose keys are different ones, each as an item may be. -/
structure Each (l : List Item) : Prop where
  ok : ∀ x ∈ l, okItem x = true
  keys : l.Pairwise fun a b => a.key ≠ b.key
theorem putAll_next {l : List Item} {k : Nat} {x : Item} (h : l[k]? = some x) : putAll (l.take (k + 1)) = putL (putAll (l.take k)) x := by
  unfold putAll
  rw [List.take_add_one, h, List.foldl_append]
  rfl
theorem Each.take {l : List Item} (h : Each l) (k : Nat) : Each (l.take k) := ⟨fun x hx => h.ok x (List.mem_of_mem_take hx), h.keys.sublist (List.take_sublist k l)⟩
theorem putAll_is {l : List Item} (h : Each l) : rightL (putAll l) = true ∧ (∀ y, y ∈ putAll l ↔ y ∈ l) ∧ (putAll l).length = l.length := by
  have key : ∀ k, k ≤ l.length → rightL (putAll (l.take k)) = true ∧ (∀ y, y ∈ putAll (l.take k) ↔ y ∈ l.take k) ∧ (putAll (l.take k)).length = k := by
    intro k
    induction k with
    | zero => intro _; exact ⟨rightL_nil, fun y => by simp [putAll], by simp [putAll]⟩
    | succ k ih =>
      intro hk
      obtain ⟨i1, i2, i3⟩ := ih (by omega)
      obtain ⟨x, hx⟩ : ∃ x, l[k]? = some x := ⟨_, List.getElem?_eq_getElem (by omega)⟩
      have hxm : x ∈ l := List.mem_of_getElem? hx
      have hdist : ∀ y ∈ l.take k, y.key ≠ x.key := fun y hy => by
        obtain ⟨i, hi, rfl⟩ := List.mem_iff_getElem.1 hy
        rw [List.length_take] at hi
        rw [List.getElem_take]
        have := List.pairwise_iff_getElem.1 h.keys i k (by omega) (by omega) (by omega)
        rwa [(List.getElem?_eq_some_iff.1 hx).2] at this
      have hris := ((rightL_iff _).1 i1).2
      rw [putAll_next hx]
      refine ⟨putL_right i1 (h.ok x hxm), fun y => ?_, ?_⟩
      · rw [mem_putL hris, List.take_add_one, hx, i2]
        simp only [Option.toList_some, List.mem_append, List.mem_singleton]
        constructor
        · rintro (q | ⟨q, _⟩)
          · exact .inr q
          · exact .inl q
        · rintro (q | q)
          · exact .inr ⟨q, hdist y q⟩
          · exact .inl q
      · have hA : isAt (putAll (l.take k)) x.key = false := isAt_none14 fun i y hy e => hdist y ((i2 y).1 (List.mem_of_getElem? hy)) e
        rw [putL_insert hA, List.length_append, List.length_cons, List.length_take, List.length_drop, i3]
        have := findAt_le (putAll (l.take k)) x.key
        omega
  have h2 := key l.length (Nat.le_refl _)
  rwa [List.take_length] at h2
theorem putAll_perm {a b : List Item} (ha : Each a) (h : ∀ y, y ∈ a ↔ y ∈ b) (hb : Each b) : putAll a = putAll b := by
  obtain ⟨a1, a2, _⟩ := putAll_is ha
  obtain ⟨b1, b2, _⟩ := putAll_is hb
  exact rising_ext ((rightL_iff _).1 a1).2 ((rightL_iff _).1 b1).2 fun y => by rw [a2, b2, h]
theorem Each.perm {a b : List Item} (h : Each a) (p : a.Perm b) : Each b := ⟨fun x hx => h.ok x (p.mem_iff.2 hx), p.pairwise h.keys fun q => q.symm⟩

/-- The first item of each key, of those that may be. -/
def isOld (out : List Item) (i : Item) : Bool := out.any fun y => y.key == i.key
def onceL (l : List Item) : List Item := l.foldl (fun out i => if !okItem i || isOld out i then out else out ++ [i]) []
theorem onceL_next {l : List Item} {k : Nat} {x : Item} (h : l[k]? = some x) : onceL (l.take (k + 1)) = if !okItem x || isOld (onceL (l.take k)) x then onceL (l.take k) else onceL (l.take k) ++ [x] := by
  unfold onceL
  rw [List.take_add_one, h, List.foldl_append]
  rfl
theorem onceL_is (l : List Item) (k : Nat) (hk : k ≤ l.length) : Each (onceL (l.take k)) ∧ (onceL (l.take k)).length ≤ k := by
  induction k with
  | zero => exact ⟨⟨fun x hx => by simp [onceL] at hx, by simp [onceL]⟩, by simp [onceL]⟩
  | succ k ih =>
    obtain ⟨i1, i2⟩ := ih (by omega)
    obtain ⟨x, hx⟩ : ∃ x, l[k]? = some x := ⟨_, List.getElem?_eq_getElem (by omega)⟩
    rw [onceL_next hx]
    cases hb : (!okItem x || isOld (onceL (l.take k)) x) with
    | true => exact ⟨by simpa using i1, by simp; omega⟩
    | false =>
      simp only [Bool.or_eq_false_iff, Bool.not_eq_false'] at hb
      simp only [Bool.false_eq_true, if_false]
      refine ⟨⟨fun y hy => ?_, ?_⟩, by rw [List.length_append, List.length_singleton]; omega⟩
      · rcases List.mem_append.1 hy with q | q
        · exact i1.ok y q
        · rw [List.mem_singleton.1 q]; exact hb.1
      · rw [List.pairwise_append]
        refine ⟨i1.keys, List.pairwise_singleton _ _, fun y hy z hz => ?_⟩
        rw [List.mem_singleton.1 hz]
        intro e
        have h2 := hb.2
        unfold isOld at h2
        rw [List.any_eq_false] at h2
        exact h2 y hy (by simp [e])
theorem isOld_next {out : List Item} {j : Nat} {y i : Item} (h : out[j]? = some y) : isOld (out.take (j + 1)) i = (isOld (out.take j) i || (y.key == i.key)) := by
  unfold isOld
  rw [List.take_add_one, h, List.any_append]
  simp
theorem swap_perm {α : Type} (l : List α) (i j : Nat) (x y : α) (hx : l[i]? = some x) (hy : l[j]? = some y) : ((l.set i y).set j x).Perm l := by
  obtain ⟨hi, rfl⟩ := List.getElem?_eq_some_iff.1 hx
  obtain ⟨hj, rfl⟩ := List.getElem?_eq_some_iff.1 hy
  have := Array.swap_perm (xs := l.toArray) (i := i) (j := j) (by simpa using hi) (by simpa using hj)
  rw [Array.perm_iff_toList_perm] at this
  simpa [Array.toList_swap] using this
end Go.Proofs.YtklccpaphkpgfaaGreat
