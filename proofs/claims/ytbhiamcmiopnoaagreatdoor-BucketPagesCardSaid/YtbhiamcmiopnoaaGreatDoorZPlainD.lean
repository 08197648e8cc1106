/- Plain laws: the item of a key, in a list, in a tree. No program in sight. -/
import Derived.Test.YtbhiamcmiopnoaaGreatDoorZPlain
import Derived.Test.YtbhiamcmiopnoaaGreatDoorZLeaf5
import Derived.Test.YtbhiamcmiopnoaaGreatDoorZPlainC
namespace Go.Proofs.YtbhiamcmiopnoaaGreatDoor
section
open Go.RowKit
/-! ### The item of a key -/
def findItem (l : List Item) (k : Bytes) : Option Item :=
  match behind l k with
  | x :: _ => if x.key = k then some x else none
  | [] => none
theorem findItem_app (A B C : List Item) (k : Bytes) (hA : ∀ a ∈ A, a.key < k) (hC : ∀ c ∈ C, k < c.key) : findItem (A ++ B ++ C) k = findItem B k := by
  have fA : ∀ x ∈ A, (fun x : Item => decide (Keyed.key x < k)) x = true := fun x hx => decide_eq_true (hA x hx)
  have fC : ∀ x ∈ C, (fun x : Item => decide (Keyed.key x < k)) x = false := fun x hx => decide_eq_false (List.lt_asymm (hC x hx))
  have e2 : behind (A ++ B ++ C) k = behind B k ++ C := by
    unfold behind
    rw [dropWhile_none _ _ _ fC, dropWhile_all _ _ _ fA]
  unfold findItem
  rw [e2]
  cases hb : behind B k with
  | nil =>
    cases C with
    | nil => simp
    | cons c C =>
      have : c.key ≠ k := fun q => by have := hC c (by simp); rw [q] at this; exact List.lt_irrefl _ this
      simp [this]
  | cons x r => rfl
theorem findItem_at (l : List Item) (k : Bytes) : findItem l k = if isAt l k = true then l[findAt l k]? else none := by
  rw [isAt_behind, ← List.head?_drop, drop_find]
  unfold findItem
  cases behind l k with
  | nil => rfl
  | cons x r =>
    by_cases hx : x.key = k
    · simp [hx]
    · simp [hx]
theorem findItem_twig {L : List Node} {n : Nat} {ts : List Sprout} {key : Bytes} (hr : rightL (ts.map Sprout.kid) = true) (sub : ∀ t ∈ ts, Tree L n t.kid.page t.low t.items t.ids) (bd : Bounds ts) (hne : ts ≠ []) :
    ∃ t, t ∈ ts ∧ (ts.map Sprout.kid)[findK (ts.map Sprout.kid) key]? = some t.kid ∧ findItem (ts.flatMap Sprout.items) key = findItem t.items key := by
  have hri := (rightL_iff _).1 hr
  obtain ⟨A', x, C', e1, e2, e3, e4⟩ := findK_is hri.2 (by simpa using hne) key
  obtain ⟨A, r, rfl, rfl, er⟩ := List.map_eq_append_iff.1 e1
  obtain ⟨t, C, rfl, rfl, rfl⟩ := List.map_eq_cons_iff.1 er
  refine ⟨t, by simp, ?_, ?_⟩
  · rw [e2, List.map_append, List.getElem?_append_right (by simp)]
    simp
  have hC : ∀ c ∈ C, key < c.kid.key := fun c hc => e3 _ (List.mem_map_of_mem hc)
  have hA : A = [] ∨ ¬ key < t.kid.key := e4.imp (fun q => by simpa using q) (fun q => q)
  have ewh : (A ++ t :: C).flatMap Sprout.items = A.flatMap Sprout.items ++ t.items ++ C.flatMap Sprout.items := by simp
  rw [ewh]
  refine findItem_app _ _ _ key (fun x hx => ?_) (fun x hx => ?_)
  · obtain ⟨s, hs, hx⟩ := List.mem_flatMap.1 hx
    have hb := bd.hi
    rw [List.pairwise_append] at hb
    have h1 := hb.2.2 s hs t (by simp) x hx
    rcases hA with q | q
    · subst q; cases hs
    · exact lt_of_lt_not h1 q
  · obtain ⟨s, hs, hx⟩ := List.mem_flatMap.1 hx
    have h1 := not_lt_trans (bd.lo s (by simp [hs])) ((sub s (by simp [hs])).low_le x hx)
    exact lt_of_lt_not (hC s hs) h1
end
section
open Go.RowKit
def fromL (l : List Item) (k : Bytes) : List Item := l.filter fun x => !decide (x.key < k)
theorem fromL_append (a b : List Item) (k : Bytes) : fromL (a ++ b) k = fromL a k ++ fromL b k := List.filter_append ..
theorem fromL_behind {l : List Item} (hr : Rising l) (k : Bytes) : fromL l k = behind l k := by
  have h1 : fromL (ahead l k) k = [] := by
    unfold fromL
    rw [List.filter_eq_nil_iff]
    intro x hx
    have : x.key < k := ahead_lt l k x hx
    simp [this]
  have h2 : fromL (behind l k) k = behind l k := by
    unfold fromL
    rw [List.filter_eq_self]
    intro x hx
    have : ¬ x.key < k := behind_ge hr k x hx
    simp [this]
  calc fromL l k = fromL (ahead l k ++ behind l k) k := by rw [ahead_behind]
    _ = behind l k := by rw [fromL_append, h1, h2, List.nil_append]
theorem fromL_drop {l : List Item} (hr : Rising l) (k : Bytes) : fromL l k = l.drop (findAt l k) := by rw [fromL_behind hr, drop_find]
theorem fromL_twig {ts : List Sprout} {key : Bytes} (hr : rightL (ts.map Sprout.kid) = true) (bd : Bounds ts) (hne : ts ≠ []) :
    findK (ts.map Sprout.kid) key < ts.length ∧ fromL ((ts.take (findK (ts.map Sprout.kid) key)).flatMap Sprout.items) key = [] := by
  have hri := (rightL_iff _).1 hr
  obtain ⟨A', x, C', e1, e2, e3, e4⟩ := findK_is hri.2 (by simpa using hne) key
  obtain ⟨A, r, rfl, rfl, er⟩ := List.map_eq_append_iff.1 e1
  obtain ⟨t, C, rfl, rfl, rfl⟩ := List.map_eq_cons_iff.1 er
  rw [e2]
  refine ⟨by simp, ?_⟩
  rw [List.length_map, List.take_left]
  unfold fromL
  rw [List.filter_eq_nil_iff]
  intro x hx
  have hA : A = [] ∨ ¬ key < t.kid.key := e4.imp (fun q => by simpa using q) (fun q => q)
  obtain ⟨s, hs, hx⟩ := List.mem_flatMap.1 hx
  have hb := bd.hi
  rw [List.pairwise_append] at hb
  have h1 := hb.2.2 s hs t (by simp) x hx
  have : x.key < key := by
    rcases hA with q | q
    · subst q; cases hs
    · exact lt_of_lt_not h1 q
  simp [this]
def upto (pre : List Item) (most : Nat) (l : List Item) : List Item := pre ++ l.take (most - pre.length)
theorem upto_more {pre X Y : List Item} {most : Nat} (h : (upto pre most X).length < most) : upto pre most (X ++ Y) = upto (upto pre most X) most Y := by
  unfold upto at *
  rw [List.length_append, List.length_take] at h
  have hx : X.length ≤ most - pre.length := by omega
  rw [List.take_append, List.take_of_length_le hx, List.append_assoc, List.length_append]
  congr 3
  omega
theorem upto_full {pre X : List Item} {most : Nat} (Y : List Item) (h : ¬ (upto pre most X).length < most) : upto pre most (X ++ Y) = upto pre most X := by
  unfold upto at *
  rw [List.length_append, List.length_take] at h
  rw [List.take_append, show most - pre.length - X.length = 0 from by omega, List.take_zero, List.append_nil]
theorem upto_nil (pre : List Item) (most : Nat) : upto pre most [] = pre := by simp [upto]
theorem upto_from (l : List Item) (k : Bytes) (most : Nat) : upto [] most (fromL l k) = (fromL l k).take most := by simp [upto]
theorem Tree.ids_le {L : List Node} {n : Nat} {id : Int} {b : Bytes} {l : List Item} {ids : List Int} (h : Tree L n id b l ids) : ids.length + 1 ≤ 2 * l.length := by
  induction h with
  | leaf id l h ne ok => cases l with
    | nil => exact absurd rfl ne
    | cons x l => simp; omega
  | twig n id ts h two ok sub bd nd ih =>
    have key : ∀ us : List Sprout, (∀ t ∈ us, t.ids.length + 1 ≤ 2 * t.items.length) → (us.flatMap Sprout.ids).length + us.length ≤ 2 * (us.flatMap Sprout.items).length := by
      intro us
      induction us with
      | nil => intro _; simp
      | cons u us ihu =>
        intro hu
        have h1 := hu u (by simp)
        have h2 := ihu fun t ht => hu t (by simp [ht])
        simp only [List.flatMap_cons, List.length_append, List.length_cons]
        omega
    have := key ts ih
    simp only [List.length_cons]
    omega
theorem Tree.ids_two {L : List Node} {n : Nat} {id : Int} {b : Bytes} {l : List Item} {ids : List Int} (h : Tree L n id b l ids) : ∀ j ∈ ids, 2 ≤ j ∧ j < (L.length : Int) + 2 := by
  induction h with
  | leaf id l h ne ok =>
    intro j hj
    rw [List.mem_singleton.1 hj]
    have := nodeAt_lt h
    omega
  | twig n id ts h two ok sub bd nd ih =>
    intro j hj
    rcases List.mem_cons.1 hj with rfl | hj
    · have := nodeAt_lt h
      omega
    · obtain ⟨t, ht, hj⟩ := List.mem_flatMap.1 hj
      exact ih t ht j hj
end
section
open Go.RowKit
/-! ### Child by child -/
theorem take_more {ts : List Sprout} {i : Nat} {t : Sprout} (h : ts[i]? = some t) {β : Type} (f : Sprout → List β) : (ts.take (i + 1)).flatMap f = (ts.take i).flatMap f ++ f t := by
  rw [List.take_add_one, h]
  simp
theorem take_part {ts : List Sprout} {i : Nat} {t : Sprout} (h : ts[i]? = some t) {β : Type} (f : Sprout → List β) : ts.flatMap f = (ts.take i).flatMap f ++ f t ++ (ts.drop (i + 1)).flatMap f := by
  rw [← take_more h f, ← List.flatMap_append, List.take_append_drop]
theorem ids_apart {ts : List Sprout} {i : Nat} {t : Sprout} {pg : Int} (h : ts[i]? = some t) (nd : (pg :: ts.flatMap Sprout.ids).Nodup) :
    ∀ j ∈ t.ids, j ≠ pg ∧ j ∉ (ts.take i).flatMap Sprout.ids ∧ j ∈ ts.flatMap Sprout.ids := by
  intro j hj
  have e := take_part h Sprout.ids
  have hin : j ∈ ts.flatMap Sprout.ids := by rw [e]; simp [hj]
  rw [List.nodup_cons] at nd
  refine ⟨fun q => nd.1 (q ▸ hin), fun q => ?_, hin⟩
  have h2 := nd.2
  rw [e, List.append_assoc, List.nodup_append] at h2
  exact h2.2.2 j q j (by simp [hj]) rfl
theorem ids_room {ts : List Sprout} {i : Nat} {t : Sprout} (h : ts[i]? = some t) : ((ts.take i).flatMap Sprout.ids).length + t.ids.length ≤ (ts.flatMap Sprout.ids).length := by
  have e := congrArg List.length (take_part h Sprout.ids)
  simp only [List.length_append] at e
  omega
theorem items_room {ts : List Sprout} {i : Nat} {t : Sprout} (h : ts[i]? = some t) : t.items.length ≤ (ts.flatMap Sprout.items).length := by
  have e := congrArg List.length (take_part h Sprout.items)
  simp only [List.length_append] at e
  omega
theorem take_rest (ts : List Sprout) (i : Nat) {β : Type} (f : Sprout → List β) : ts.flatMap f = (ts.take i).flatMap f ++ (ts.drop i).flatMap f := by
  rw [← List.flatMap_append, List.take_append_drop]
/-! ### Keys below a page -/
def holdsB (low high : Bytes) (bound : Bool) (k : Bytes) : Bool := !decide (k < low) && (!bound || decide (k < high))
def InSpan (low high : Bytes) (bound : Bool) (l : List Item) : Prop := ∀ x ∈ l, holdsB low high bound x.key = true
theorem holdsB_iff {low high k : Bytes} {bound : Bool} : holdsB low high bound k = true ↔ ¬ k < low ∧ (bound = true → k < high) := by
  unfold holdsB
  cases bound <;> simp
theorem InSpan.all (l : List Item) : InSpan [] [] false l := fun x _ => holdsB_iff.2 ⟨fun q => by cases hx : x.key <;> rw [hx] at q <;> exact absurd q (by simp), fun q => by cases q⟩
/-! ### How many digits -/
/-! ### The list beside a tree -/
theorem putL_at (l : List Item) (x : Item) : putL l x = l.take (findAt l x.key) ++ x :: (l.drop (findAt l x.key + if isAt l x.key = true then 1 else 0)) := by
  have h1 := take_find l x.key
  have h2 := drop_find l x.key
  unfold putL
  rw [← h1, ← List.drop_drop, h2]
  congr 2
  rw [isAt_behind]
  cases behind l x.key with
  | nil => simp
  | cons y r =>
    by_cases hy : y.key = x.key
    · simp [hy]
    · simp [hy]
theorem dropL_cut (l : List Item) (k : Bytes) : dropL l k = if isAt l k = true then (l.take (findAt l k) ++ l.drop (findAt l k + 1), true) else (l, false) := by
  have h1 := take_find l k
  have h2 := drop_find l k
  unfold dropL
  rw [isAt_behind, ← List.drop_drop, h2, h1]
  cases behind l k with
  | nil => simp
  | cons y r =>
    by_cases hy : y.key = k
    · simp [hy]
    · simp [hy]
end
section
open Go.RowKit
def roomOf (i : Nat) : Nat := 6 * i + 2 * (i - 4) + 2 * (i - 8) + 2 * (i - 16) + 2 * (i - 32) + 2 * (i - 64) + 2 * (i - 128)
theorem roomOf_next {i : Nat} (h : i < 250) : ∃ m, m ≤ 8 ∧ i < 2 ^ m ∧ roomOf i + (2 + 2 * m) ≤ roomOf (i + 1) ∧ roomOf i + 4 + 2 * m ≤ 3998 := by
  unfold roomOf
  rcases Nat.lt_or_ge i 4 with h1 | h1
  · exact ⟨2, by omega, by omega, by omega, by omega⟩
  rcases Nat.lt_or_ge i 8 with h2 | h2
  · exact ⟨3, by omega, by omega, by omega, by omega⟩
  rcases Nat.lt_or_ge i 16 with h3 | h3
  · exact ⟨4, by omega, by omega, by omega, by omega⟩
  rcases Nat.lt_or_ge i 32 with h4 | h4
  · exact ⟨5, by omega, by omega, by omega, by omega⟩
  rcases Nat.lt_or_ge i 64 with h5 | h5
  · exact ⟨6, by omega, by omega, by omega, by omega⟩
  rcases Nat.lt_or_ge i 128 with h6 | h6
  · exact ⟨7, by omega, by omega, by omega, by omega⟩
  · exact ⟨8, by omega, by omega, by omega, by omega⟩
structure PlaysTo (p : PSt) (root : Int) (l : List Item) (i : Nat) : Prop where
  rooted : ∃ ids, Rooted p.L root l ids ∧ ∀ j ∈ ids, j ∉ p.given
  right : rightL l = true
  len : l.length ≤ i
  few : p.L.length ≤ roomOf i
  back : p.given.length ≤ 46 * i
  there : ∀ j ∈ p.given, j < (p.L.length : Int) + 2
  stop : p.stop = -1
  bad : p.bad = false
  twice : p.twice = false
theorem Rooted.there {L : List Node} {root : Int} {l : List Item} {ids : List Int} (h : Rooted L root l ids) : ∀ j ∈ ids, 2 ≤ j ∧ j < (L.length : Int) + 2 := by
  cases h with
  | none => intro j hj; cases hj
  | some n _ b _ _ h => exact h.ids_two
theorem plays_none : PlaysTo { L := [], mine := 2, given := [], bad := false, twice := false, stop := -1 } 0 [] 0 :=
  ⟨⟨[], .none, fun j hj => by cases hj⟩, rightL_nil, by simp, by simp, by simp, (fun j hj => by cases hj), rfl, rfl, rfl⟩
theorem plays_moved {p p' : PSt} {root root' : Int} {l l' : List Item} {i m : Nat} {ids ids' : List Int} (h : PlaysTo p root l i) (R : Rooted p.L root l ids) (hg : ∀ j ∈ ids, j ∉ p.given) (R' : Rooted p'.L root' l' ids') (M : Moved2 p ids p' ids' (2 + 2 * m)) (hr : rightL l' = true) (hl : l'.length ≤ i + 1) (hf : roomOf i + (2 + 2 * m) ≤ roomOf (i + 1)) (hb : p'.given.length ≤ p.given.length + 46) : PlaysTo p' root' l' (i + 1) := by
  obtain ⟨gs, g1, g2, g3⟩ := M.gone
  have hth := R.there
  refine ⟨⟨ids', R', fun j hj q => ?_⟩, hr, hl, by have := h.few; have := M.few; omega, by have := h.back; omega, fun j hj => ?_, M.stop.trans h.stop, M.bad.trans h.bad, (M.twice hg).trans h.twice⟩
  · rw [g1] at q
    rcases List.mem_append.1 q with q | q
    · rcases M.new j hj with k | k
      · exact hg j k q
      · have := h.there j q
        omega
    · exact ((g2 j).1 q).2 hj
  · rw [g1] at hj
    have hgr := M.grow
    rcases List.mem_append.1 hj with q | q
    · have := h.there j q
      omega
    · have := hth j ((g2 j).1 q).1
      omega
theorem plays_put {p : PSt} {root : Int} {l : List Item} {i : Nat} {x : Item} (h : PlaysTo p root l i) (hx : okItem x = true) (hi : i < 250) :
    ∃ r p', putTree p root x = (.ok r, p') ∧ PlaysTo p' r (putL l x) (i + 1) := by
  obtain ⟨ids, R, hg⟩ := h.rooted
  obtain ⟨m, m1, m2, m3, m4⟩ := roomOf_next hi
  have hl := h.len
  have hf := h.few
  have hs := h.stop
  obtain ⟨r, p', ids', h1, h2, _, M⟩ := putTree_is p root l ids x hx R (by omega) m (by omega) (by omega) (by omega)
  have hb := putTree_given p root x
  rw [h1] at hb
  exact ⟨r, p', h1, plays_moved h R hg h2 M (putL_right h.right hx) (by have := putL_length l x; omega) m3 (by simp only at hb; omega)⟩
theorem dropL_right {l : List Item} (hr : rightL l = true) (k : Bytes) : rightL (dropL l k).1 = true := by
  rw [dropL_cut]
  split
  · refine rightL_sub hr ?_
    have := (List.Sublist.refl (l.take (findAt l k))).append (List.drop_sublist_drop_left l (Nat.le_succ (findAt l k)))
    rwa [List.take_append_drop] at this
  · exact hr
theorem dropL_length (l : List Item) (k : Bytes) : (dropL l k).1.length ≤ l.length := by
  rw [dropL_cut]
  split
  · simp only [List.length_append, List.length_take, List.length_drop]; omega
  · exact Nat.le_refl _
/-! ### What a tree tells, held against the list -/
theorem fromL_nil_key (l : List Item) : fromL l [] = l := by
  unfold fromL
  rw [List.filter_eq_self]
  intro x _
  cases hx : x.key <;> simp
theorem Rooted.zero {L : List Node} {root : Int} {l : List Item} {ids : List Int} (h : Rooted L root l ids) : root = 0 ↔ l = [] := by
  cases h with
  | none => exact ⟨fun _ => rfl, fun _ => rfl⟩
  | some n _ b _ _ h =>
    have h1 := h.there _ h.self
    have h2 := h.ne
    exact ⟨fun q => by omega, fun q => absurd q h2⟩
end
section
open Go.RowKit
theorem mem_ahead_behind {l : List Item} {k : Bytes} {y : Item} : y ∈ l ↔ y ∈ ahead l k ∨ y ∈ behind l k := by
  have h := ahead_behind l k
  rw [← List.mem_append, h]
theorem mem_putL {h : List Item} (hr : Rising h) (x y : Item) : y ∈ putL h x ↔ y = x ∨ (y ∈ h ∧ y.key ≠ x.key) := by
  have ha := ahead_lt h x.key
  have hb := behind_ge hr x.key
  have hbr : Rising (behind h x.key) := by
    have h2 := hr
    unfold Rising at h2 ⊢
    rw [← ahead_behind h x.key, List.pairwise_append] at h2
    exact h2.2.1
  have hne : ∀ z, z ∈ ahead h x.key → z.key ≠ x.key := fun z hz e => by
    have := ha z hz
    rw [show Keyed.key z = x.key from e] at this
    exact List.lt_irrefl _ this
  have hm := mem_ahead_behind (l := h) (k := x.key) (y := y)
  unfold putL
  rw [List.mem_append, List.mem_cons, hm]
  cases hbh : behind h x.key with
  | nil =>
    simp only [List.not_mem_nil, or_false]
    constructor
    · rintro (q | q)
      · exact .inr ⟨q, hne y q⟩
      · exact .inl q
    · rintro (q | q)
      · exact .inr q
      · exact .inl q.1
  | cons z r =>
    rw [hbh] at hbr
    unfold Rising at hbr
    rw [List.pairwise_cons] at hbr
    have hzr : ∀ u ∈ r, u.key ≠ z.key := fun u hu e => by
      have := hbr.1 u hu
      rw [show Keyed.key u = Keyed.key z from e] at this
      exact List.lt_irrefl _ this
    by_cases hz : z.key = x.key
    · simp only [if_pos hz]
      constructor
      · rintro (q | q | q)
        · exact .inr ⟨.inl q, hne y q⟩
        · exact .inl q
        · exact .inr ⟨.inr (List.mem_cons_of_mem _ q), fun e => hzr y q (by rw [hz]; exact e)⟩
      · rintro (q | ⟨q | q, e⟩)
        · exact .inr (.inl q)
        · exact .inl q
        · rcases List.mem_cons.1 q with rfl | q
          · exact absurd hz e
          · exact .inr (.inr q)
    · simp only [if_neg hz]
      have hall : ∀ u ∈ z :: r, u.key ≠ x.key := by
        intro u hu e
        have h1 : ¬ Keyed.key z < x.key := hb z (by rw [hbh]; simp)
        have h2 : x.key ≠ z.key := fun q => hz q.symm
        rcases List.mem_cons.1 hu with rfl | hu
        · exact hz e
        · have h3 : Keyed.key z < Keyed.key u := hbr.1 u hu
          rw [show Keyed.key u = x.key from e] at h3
          exact h1 h3
      constructor
      · rintro (q | q | q)
        · exact .inr ⟨.inl q, hne y q⟩
        · exact .inl q
        · exact .inr ⟨.inr q, hall y q⟩
      · rintro (q | ⟨q | q, _⟩)
        · exact .inr (.inl q)
        · exact .inl q
        · exact .inr (.inr q)
structure Each (l : List Item) : Prop where
  ok : ∀ x ∈ l, okItem x = true
  keys : l.Pairwise fun a b => a.key ≠ b.key
theorem Each.take {l : List Item} (h : Each l) (k : Nat) : Each (l.take k) := ⟨fun x hx => h.ok x (List.mem_of_mem_take hx), h.keys.sublist (List.take_sublist k l)⟩
theorem Each.perm {a b : List Item} (h : Each a) (p : a.Perm b) : Each b := ⟨fun x hx => h.ok x (p.mem_iff.2 hx), p.pairwise h.keys fun q => q.symm⟩
end
end Go.Proofs.YtbhiamcmiopnoaaGreatDoor
