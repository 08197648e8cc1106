/- The law's pages in memory: how they lie there, what may change. Conditions: one goroutine; each page is one that a tree lays; fewer than 4000 pages. -/
import Derived.Test.YtbhiamcmiopnoaaGreatDoorZPlain
import Derived.Test.YtbhiamcmiopnoaaGreatDoorZLeaf6
import Derived.Test.YtbhiamcmiopnoaaGreatDoorZTwig6
import Derived.BigRegion
namespace Go.Proofs.YtbhiamcmiopnoaaGreatDoor
section
open Go.RowKit
def kindN : Node → Int
  | .leaf _ => 3
  | .twig _ => 4
  | .over _ => 5
def bodyN : Node → Bytes
  | .leaf l => leafB l
  | .twig l => twigB l
  | .over b => b
def soundN : Node → Prop
  | .leaf l => okNode (.leaf l) ∧ l ≠ []
  | .twig l => okNode (.twig l) ∧ l ≠ []
  | .over b => b.length ≤ 232
def pageC (n : Node) (id : Int) : List Value := [.int .i64 (kindN n), .int .i64 id, .int .i64 0, str (bodyN n)]
def pageV (n : Node) (id : Int) : Value := .agg (pageC n id).toArray
def noPage : Value := .agg #[.int .i64 0, .int .i64 0, .int .i64 0, str []]
def encP (x : Node × Nat) : List Value := pageC x.1 ((x.2 + 2 : Nat) : Int)
def pagesC (L : List Node) : List Value := L.zipIdx.flatMap encP
def intsI (l : List Int) : List Value := l.map fun n => .int .i64 n
theorem pagesC_length (L : List Node) : (pagesC L).length = L.length * 4 := by
  have : ∀ l : List (Node × Nat), (l.flatMap encP).length = l.length * 4 := by
    intro l
    induction l with
    | nil => rfl
    | cons a l ih => rw [List.flatMap_cons, List.length_append, ih, List.length_cons]; simp [encP, pageC]; omega
  rw [pagesC, this, List.length_zipIdx]
theorem pagesC_snoc (L : List Node) (n : Node) : pagesC (L ++ [n]) = pagesC L ++ pageC n ((L.length + 2 : Nat) : Int) := by
  unfold pagesC
  rw [List.zipIdx_append, List.flatMap_append]
  simp [encP]
theorem pagesC_get {L : List Node} {k : Nat} {n : Node} (h : L[k]? = some n) {j : Nat} {u : Value} (hj : (pageC n ((k + 2 : Nat) : Int))[j]? = some u) : (pagesC L)[k * 4 + j]? = some u := by
  refine flat_get (enc := encP) (k := 4) (fun _ => rfl) L.zipIdx k j (n, k) u ?_ hj
  rw [List.getElem?_zipIdx, h]
  simp
structure PagesIn (w : World) (b : Nat) (S : PSt) (vL vG : Value) : Prop where
  heap : w.heap[b]? = some (.cells #[vL, .int .i64 S.mine, vG, .bool S.bad, .bool S.twice, .int .i64 S.stop] 62 (0, 0))
  rowL : w.ownsRow 0 252 4 vL S.L.length (pagesC S.L)
  rowG : w.ownsRow 0 3 1 vG S.given.length (intsI S.given)
  neL : vL.ownBlock ≠ some b
  neG : vG.ownBlock ≠ some b
  apart : ∀ k, vL.ownBlock = some k → vG.ownBlock ≠ some k
  sound : ∀ n ∈ S.L, soundN n
  few : S.L.length ≤ 3998
  mine : 0 ≤ S.mine ∧ S.mine ≤ 4000
  stop : -1 ≤ S.stop ∧ S.stop ≤ 1000000
  given : S.given.length ≤ 1000000
def PagesAt (w : World) (b : Nat) (S : PSt) : Prop := ∃ vL vG, PagesIn w b S vL vG
def pown (w : World) (b k : Nat) : Prop := k = b ∨ ∃ cs t f, w.heap[b]? = some (.cells cs t f) ∧ ∃ (i : Nat) (v : Value), cs[i]? = some v ∧ v.ownBlock = some k
structure PStep (b : Nat) (w w' : World) : Prop where
  only : Only (pown w b) w w'
  own : ∀ k, pown w' b k → pown w b k ∨ w.heap.size ≤ k
theorem PStep.refl (b : Nat) (w : World) : PStep b w w := ⟨Only.refl _ w, fun _ h => .inl h⟩
theorem PStep.trans {b : Nat} {w w1 w2 : World} (h : PStep b w w1) (k : PStep b w1 w2) : PStep b w w2 := by
  refine ⟨h.only.trans k.only fun i hi q => (h.own i q).resolve_right (by omega), fun i q => ?_⟩
  have := h.only.size
  rcases k.own i q with q | q
  · exact h.own i q
  · exact .inr (by omega)
theorem pown_of_heap {w w' : World} {b : Nat} (h : w'.heap[b]? = w.heap[b]?) (k : Nat) : pown w' b k ↔ pown w b k := by unfold pown; rw [h]
theorem PagesIn.lt {w : World} {b : Nat} {S : PSt} {vL vG : Value} (h : PagesIn w b S vL vG) : b < w.heap.size := (Array.getElem?_eq_some_iff.1 h.heap).1
theorem PagesAt.lt {w : World} {b : Nat} {S : PSt} (h : PagesAt w b S) : b < w.heap.size := by obtain ⟨_, _, h⟩ := h; exact h.lt
theorem PagesIn.pown_iff {w : World} {b : Nat} {S : PSt} {vL vG : Value} (h : PagesIn w b S vL vG) (k : Nat) : pown w b k ↔ k = b ∨ vL.ownBlock = some k ∨ vG.ownBlock = some k := by
  unfold pown
  constructor
  · rintro (e | ⟨cs, t, f, e, i, v, h1, h2⟩)
    · exact .inl e
    · rw [h.heap] at e
      cases e
      match i with
      | 0 => cases h1; exact .inr (.inl h2)
      | 1 => cases h1; cases h2
      | 2 => cases h1; exact .inr (.inr h2)
      | 3 => cases h1; cases h2
      | 4 => cases h1; cases h2
      | 5 => cases h1; cases h2
      | i + 6 => simp at h1
  · rintro (e | e | e)
    · exact .inl e
    · exact .inr ⟨_, _, _, h.heap, 0, vL, rfl, e⟩
    · exact .inr ⟨_, _, _, h.heap, 2, vG, rfl, e⟩
theorem PagesIn.still {w w' : World} {b : Nat} {S : PSt} {vL vG : Value} (h : PagesIn w b S vL vG) (ho : Only (fun _ => False) w w') : PagesIn w' b S vL vG :=
  ⟨(ho.block b h.lt id).trans h.heap, own_only h.rowL ho (fun _ _ => id), own_only h.rowG ho (fun _ _ => id), h.neL, h.neG, h.apart, h.sound, h.few, h.mine, h.stop, h.given⟩
theorem PagesAt.still {w w' : World} {b : Nat} {S : PSt} (h : PagesAt w b S) (ho : Only (fun _ => False) w w') : PagesAt w' b S := by
  obtain ⟨_, _, h⟩ := h
  exact ⟨_, _, h.still ho⟩
theorem PStep.still {b : Nat} {w w' : World} (hb : b < w.heap.size) (ho : Only (fun _ => False) w w') : PStep b w w' :=
  ⟨ho.mono fun _ _ q => q.elim, fun k q => .inl ((pown_of_heap (ho.block b hb id) k).1 q)⟩
def Apart (w : World) (b : Nat) (v : Value) : Prop := ∀ k, rowBlock v = some k → ¬ pown w b k ∧ k < w.heap.size
theorem Apart.step {w w' : World} {b : Nat} {v : Value} (h : Apart w b v) (s : PStep b w w') : Apart w' b v := fun k hk => by
  obtain ⟨h1, h2⟩ := h k hk
  exact ⟨fun q => (s.own k q).elim h1 fun q => by omega, Nat.lt_of_lt_of_le h2 s.only.size⟩
theorem Apart.later {w w' : World} {b : Nat} {v : Value} (h : Apart w b v) (hs : w.heap.size ≤ w'.heap.size) (hh : w'.heap[b]? = w.heap[b]?) : Apart w' b v := fun k hk => by
  obtain ⟨h1, h2⟩ := h k hk
  exact ⟨fun q => h1 ((pown_of_heap hh k).1 q), Nat.lt_of_lt_of_le h2 hs⟩
theorem RowC.step {α : Type} {enc : α → List Value} {k : Nat} {w w' : World} {b : Nat} {v : Value} {xs : List α} (h : RowC enc k w v xs) (a : Apart w b v) (s : PStep b w w') : RowC enc k w' v xs := h.only s.only fun j hj => (a j hj).1
theorem pown_lt {w : World} {b : Nat} {S : PSt} (h : PagesAt w b S) {k : Nat} (q : pown w b k) : k < w.heap.size := by
  obtain ⟨vL, vG, h⟩ := h
  rcases (h.pown_iff k).1 q with q | q | q
  · subst q; exact h.lt
  · exact (h.rowL.lt k q).2
  · exact (h.rowG.lt k q).2
theorem Apart.new {w w' : World} {b : Nat} {S : PSt} {v : Value} (h : PagesAt w b S) (ho : Only (fun _ => False) w w') (hn : ∀ k, rowBlock v = some k → w.heap.size ≤ k ∧ k < w'.heap.size) : Apart w' b v := fun k hk => by
  obtain ⟨h1, h2⟩ := hn k hk
  refine ⟨fun q => ?_, h2⟩
  have := pown_lt h ((pown_of_heap (ho.block b h.lt id) k).1 q)
  omega
theorem row_lt {α : Type} {enc : α → List Value} {k : Nat} {w : World} {v : Value} {xs : List α} (h : RowAt enc k w v xs) (hne : xs ≠ []) (hk : ∀ x, (enc x).length = k) (h1 : 1 ≤ k) : ∀ j, rowBlock v = some j → j < w.heap.size := by
  intro j hj
  cases h with
  | none => cases hj
  | some g off cap _ hc =>
    cases hj
    cases xs with
    | nil => exact absurd rfl hne
    | cons x xs =>
      obtain ⟨u, hu⟩ : ∃ u, (enc x)[0]? = some u := ⟨_, List.getElem?_eq_getElem (by rw [hk]; omega)⟩
      exact lt_of_cell (hc 0 x 0 u rfl hu)
theorem heap_setCell {w : World} {b : Nat} {cs : Array Value} {t : TypeId} {f : Nat × Nat} (h : w.heap[b]? = some (.cells cs t f)) (o : Nat) (u : Value) : (w.setCell ⟨b, o, none⟩ u).heap[b]? = some (.cells (cs.setIfInBounds o u) t f) := by
  simp [World.setCell, Array.getElem?_modify, h]
theorem heap_cell {w : World} {b : Nat} {cs : Array Value} {t : TypeId} {f : Nat × Nat} (h : w.heap[b]? = some (.cells cs t f)) (o : Nat) : w.cell? ⟨b, o, none⟩ = cs[o]? := by
  simp [World.cell?, h]
theorem heap_frozen {w : World} {b : Nat} {cs : Array Value} {t : TypeId} (h : w.heap[b]? = some (.cells cs t (0, 0))) (o : Nat) : w.frozen? ⟨b, o, none⟩ = false := by
  simp [World.frozen?, h]
theorem PagesIn.put {w : World} {b : Nat} {S S' : PSt} {vL vG vL' vG' : Value} (h : PagesIn w b S vL vG) {w1 : World} (h1 : w1.heap[b]? = some (.cells #[vL', .int .i64 S'.mine, vG', .bool S'.bad, .bool S'.twice, .int .i64 S'.stop] 62 (0, 0)))
    (h2 : w1.ownsRow 0 252 4 vL' S'.L.length (pagesC S'.L)) (h3 : w1.ownsRow 0 3 1 vG' S'.given.length (intsI S'.given)) (ho : Only (pown w b) w w1)
    (hL : ∀ k, vL'.ownBlock = some k → vL.ownBlock = some k ∨ w.heap.size ≤ k) (hG : ∀ k, vG'.ownBlock = some k → vG.ownBlock = some k ∨ w.heap.size ≤ k) (hap : ∀ k, vL'.ownBlock = some k → vG'.ownBlock ≠ some k)
    (sound : ∀ n ∈ S'.L, soundN n) (few : S'.L.length ≤ 3998) (mine : S'.mine = S.mine) (stop : -1 ≤ S'.stop ∧ S'.stop ≤ 1000000) (given : S'.given.length ≤ 1000000) : PagesIn w1 b S' vL' vG' ∧ PStep b w w1 := by
  have hb := h.lt
  have hI : PagesIn w1 b S' vL' vG' := ⟨h1, h2, h3, fun q => (hL b q).elim h.neL (by omega), fun q => (hG b q).elim h.neG (by omega), hap, sound, few, mine ▸ h.mine, stop, given⟩
  refine ⟨hI, ho, fun k q => ?_⟩
  rw [h.pown_iff]
  rcases (hI.pown_iff k).1 q with q | q | q
  · exact .inl (.inl q)
  · exact (hL k q).imp (fun q => .inr (.inl q)) id
  · exact (hG k q).imp (fun q => .inr (.inr q)) id
theorem PagesIn.beside {w w' : World} {b : Nat} {S : PSt} {vL vG : Value} {T : Nat → Prop} (h : PagesIn w b S vL vG) (ho : Only T w w') (hT : ∀ k, pown w b k → ¬ T k) : PagesIn w' b S vL vG :=
  ⟨(ho.block b h.lt (hT b (.inl rfl))).trans h.heap, own_only h.rowL ho (fun k q => hT k ((h.pown_iff k).2 (.inr (.inl q)))), own_only h.rowG ho (fun k q => hT k ((h.pown_iff k).2 (.inr (.inr q)))), h.neL, h.neG, h.apart, h.sound, h.few, h.mine, h.stop, h.given⟩
theorem PStep.fresh {b : Nat} {w w1 w2 : World} {T : Nat → Prop} (s : PStep b w w1) (hb : b < w.heap.size) (ho : Only T w1 w2) (hT : ∀ k, T k → w.heap.size ≤ k) : PStep b w w2 := by
  refine ⟨s.only.trans ho fun i hi q => by have := hT i q; omega, fun k q => s.own k ?_⟩
  exact (pown_of_heap (ho.block b (Nat.lt_of_lt_of_le hb s.only.size) fun q => by have := hT b q; omega) k).1 q
def four (w : World) (B : Nat) (a b c d : Value) : World := (((w.setCell ⟨B, 0, none⟩ a).setCell ⟨B, 1, none⟩ b).setCell ⟨B, 2, none⟩ c).setCell ⟨B, 3, none⟩ d
theorem four_only (w : World) (B : Nat) (a b c d : Value) : Only (fun k => k = B) w (four w B a b c d) := by
  unfold four
  exact ((((Only.refl (fun k => k = B) w).put B 0 rfl _).put B 1 rfl _).put B 2 rfl _).put B 3 rfl _
theorem four_heap {w : World} {B : Nat} {x0 x1 x2 x3 : Value} {t : TypeId} {f : Nat × Nat} (h : w.heap[B]? = some (.cells #[x0, x1, x2, x3] t f)) (a b c d : Value) : (four w B a b c d).heap[B]? = some (.cells #[a, b, c, d] t f) := by
  unfold four
  have := heap_setCell (heap_setCell (heap_setCell (heap_setCell h 0 a) 1 b) 2 c) 3 d
  simpa using this
end
section
open Go.RowKit
def resPage (r : Except Int Node) (id : Int) : Value := match r with
  | .ok n => .tuple #[pageV n id, .int .i64 0]
  | .error e => .tuple #[noPage, .int .i64 e]
def pzero : Obj := .cells #[.int .i64 0, .int .i64 0, .int .i64 0, .string ⟨#[]⟩] 252
def told (S : PSt) : PSt := if 0 < S.stop then { S with stop := S.stop - 1 } else S
theorem getP_is (S : PSt) (id : Int) (h : S.stop ≠ 0) : getP S id = (match nodeAt S.L id with | some n => .ok n | none => .error 8, told S) := by
  unfold getP told
  rw [if_neg h]
  cases nodeAt S.L id <;> rfl
theorem nodeAt_out {L : List Node} {id : Int} (h : id < 2 ∨ (L.length : Int) ≤ id - 2) : nodeAt L id = none := by
  unfold nodeAt
  split
  · exact List.getElem?_eq_none (by omega)
  · rfl
theorem nodeAt_in {L : List Node} {id : Int} (h : 2 ≤ id) (h2 : id - 2 < (L.length : Int)) : ∃ (k : Nat) (n : Node), id = (k : Int) + 2 ∧ L[k]? = some n ∧ nodeAt L id = some n ∧ k < L.length := by
  obtain ⟨k, hk⟩ := Int.eq_ofNat_of_zero_le (show 0 ≤ id - 2 by omega)
  have hlt : k < L.length := by omega
  refine ⟨k, L[k], by omega, List.getElem?_eq_getElem hlt, ?_, hlt⟩
  unfold nodeAt
  rw [if_pos h, hk]
  exact List.getElem?_eq_getElem hlt
theorem get_end {w W1 : World} {b : Nat} {S S' : PSt} {vL vG vL' vG' : Value} (h : PagesIn w b S vL vG) (hI : PagesIn W1 b S' vL' vG') (hS : PStep b w W1) (hn : ¬ pown W1 b w.heap.size) {x0 x1 x2 x3 : Value} {t : TypeId} {f : Nat × Nat} (hh : W1.heap[w.heap.size]? = some (.cells #[x0, x1, x2, x3] t f)) (a0 a1 a2 a3 : Value) :
    PagesIn (four W1 w.heap.size a0 a1 a2 a3) b S' vL' vG' ∧ PStep b w (four W1 w.heap.size a0 a1 a2 a3) ∧ (four W1 w.heap.size a0 a1 a2 a3).cell? ⟨w.heap.size, 0, none⟩ = some a0 ∧ (four W1 w.heap.size a0 a1 a2 a3).cell? ⟨w.heap.size, 1, none⟩ = some a1 ∧
      (four W1 w.heap.size a0 a1 a2 a3).cell? ⟨w.heap.size, 2, none⟩ = some a2 ∧ (four W1 w.heap.size a0 a1 a2 a3).cell? ⟨w.heap.size, 3, none⟩ = some a3 :=
  ⟨hI.beside (four_only _ _ _ _ _ _) (fun k q e => hn (e ▸ q)), hS.fresh h.lt (four_only _ _ _ _ _ _) (fun k e => by omega), heap_cell (four_heap hh _ _ _ _) 0, heap_cell (four_heap hh _ _ _ _) 1, heap_cell (four_heap hh _ _ _ _) 2, heap_cell (four_heap hh _ _ _ _) 3⟩
set_option maxRecDepth 100000 in
set_option maxHeartbeats 1000000 in
theorem PGet_is (w : World) (b : Nat) (S : PSt) (id : Int) (h : PagesAt w b S) (hid : -1000000 ≤ id ∧ id ≤ 1000000) :
    Calls Tryz.prog 255 #[.pointer (some ⟨b, 0, none⟩), .int .i64 id] w fun e w' => e = .returned (resPage (getP S id).1 id) ∧ PagesAt w' b (getP S id).2 ∧ PStep b w w' := by
  obtain ⟨vL, vG, h⟩ := h
  have ho := (Only.refl (fun _ => False) w).alloc pzero
  have hW := h.still ho
  have hS := PStep.still h.lt ho
  have hne : b ≠ w.heap.size := Nat.ne_of_lt h.lt
  unfold pzero at ho hW hS
  have c5 := heap_cell hW.heap 5
  have z5 := heap_frozen hW.heap 5
  have c0 := heap_cell hW.heap 0
  simp only [List.getElem?_toArray, List.getElem?_cons_zero, List.getElem?_cons_succ] at c5 c0
  obtain ⟨aL, cL, rfl⟩ := ownsRow_form h.rowL
  have hlen := h.few
  have hst := h.stop
  have HR := Lib.hid (cells_new w [.int .i64 0, .int .i64 0, .int .i64 0, .string ⟨#[]⟩] 252 (0, 0))
  have HO := Lib.hid ho
  have HS := Lib.hid hS
  have HI := Lib.hid hW
  have HP := Lib.hid h
  clear h ho hS hW
  by_cases hs0 : S.stop = 0
  · have he : getP S id = (.error 14, S) := by unfold getP; rw [if_pos hs0]
    rw [he]
    rw [hs0] at c5
    have HE := Lib.hid hs0
    clear hs0 he
    go_enter Tryz.func255, Tryz.ntmps255
    go_wp2_with fail
    exact bodyPost_ret (v := resPage (.error 14) id) (by simp [results, Tryz.results255, go_sem, resPage, noPage, str]) rfl ⟨rfl, ⟨_, _, HI.out⟩, HS.out⟩
  · rw [getP_is S id hs0]
    by_cases hs1 : 0 < S.stop
    · have ht : told S = { S with stop := S.stop - 1 } := by unfold told; rw [if_pos hs1]
      rw [ht]
      have hw5 : IntKind.i64.wrap (S.stop - 1) = S.stop - 1 := by exact IntWalk.i64_in _ (by omega)
      obtain ⟨hI1, hS1⟩ := HI.out.put (S' := { S with stop := S.stop - 1 }) (heap_setCell HI.out.heap 5 (.int .i64 (S.stop - 1))) (own_store HI.out.rowL HI.out.neL 5 _) (own_store HI.out.rowG HI.out.neG 5 _) ((Only.refl _ _).put b 5 (.inl rfl) _) (fun _ q => .inl q) (fun _ q => .inl q) HI.out.apart HI.out.sound HI.out.few rfl (by simp only; omega) HI.out.given
      have c50 := heap_cell hI1.heap 5
      have c00 := heap_cell hI1.heap 0
      have HI1 := Lib.hid hI1
      have HS1 := Lib.hid (HS.out.trans hS1)
      simp only [List.getElem?_toArray, List.getElem?_cons_zero, List.getElem?_cons_succ] at c50 c00
      clear hI1 hS1 ht
      have hst2 := HI1.out.stop
      have hn : ¬ pown ((w.alloc (.cells #[.int .i64 0, .int .i64 0, .int .i64 0, .string ⟨#[]⟩] 252)).setCell ⟨b, 5, none⟩ (.int .i64 (S.stop - 1))) b w.heap.size := fun q => by
        rcases (HI1.out.pown_iff _).1 q with q | q | q
        · exact hne q.symm
        · have := (HP.out.rowL.lt _ q).2; omega
        · have := (HP.out.rowG.lt _ q).2; omega
      have HEND := Lib.hid (get_end HP.out HI1.out HS1.out hn ((Below.heap_setCell _ _ _ _ (Ne.symm hne)).trans (heap_alloc_new _ _)))
      clear hn
      by_cases hin : id < 2 ∨ (S.L.length : Int) ≤ id - 2
      · rw [nodeAt_out hin]
        have HX := Lib.hid hin
        by_cases h2 : id < 2
        · clear hin
          go_enter Tryz.func255, Tryz.ntmps255
          go_wp2_with fail
          obtain ⟨k1, k2, q0, q1, q2, q3⟩ := HEND.out (.int .i64 0) (.int .i64 0) (.int .i64 0) (.string ⟨#[]⟩)
          unfold four at k1 k2 q0 q1 q2 q3
          exact bodyPost_ret (v := resPage (.error 8) id) (by simp [results, Tryz.results255, go_sem, resPage, noPage, str, q0, q1, q2, q3]) rfl ⟨rfl, ⟨_, _, k1⟩, k2⟩
        · have h3 : (S.L.length : Int) ≤ id - 2 := hin.resolve_left h2
          have hw : IntKind.i64.wrap (id - 2) = id - 2 := by exact IntWalk.i64_in _ (by omega)
          clear hin
          go_enter Tryz.func255, Tryz.ntmps255
          go_wp2_with fail
          obtain ⟨k1, k2, q0, q1, q2, q3⟩ := HEND.out (.int .i64 0) (.int .i64 0) (.int .i64 0) (.string ⟨#[]⟩)
          unfold four at k1 k2 q0 q1 q2 q3
          exact bodyPost_ret (v := resPage (.error 8) id) (by simp [results, Tryz.results255, go_sem, resPage, noPage, str, q0, q1, q2, q3]) rfl ⟨rfl, ⟨_, _, k1⟩, k2⟩
      · have h2 : ¬ id < 2 := fun q => hin (.inl q)
        have h3 : ¬ (S.L.length : Int) ≤ id - 2 := fun q => hin (.inr q)
        obtain ⟨k, n, rfl, hk, hn, hlt⟩ := nodeAt_in (L := S.L) (id := id) (by omega) (by omega)
        rw [hn]
        obtain ⟨g, rfl⟩ : ∃ g, aL = some ⟨g, 0, none⟩ := by
          rcases HI1.out.rowL.2 with ⟨q, h0⟩ | ⟨g, cap, cur, q, _⟩
          · change S.L.length = 0 at h0; omega
          · injection q with q1 q2 q3; exact ⟨g, q1⟩
        have e0 := own_cell HI1.out.rowL _ _ (pagesC_get hk (j := 0) rfl)
        have e1 := own_cell HI1.out.rowL _ _ (pagesC_get hk (j := 1) rfl)
        have e2 := own_cell HI1.out.rowL _ _ (pagesC_get hk (j := 2) rfl)
        have e3 := own_cell HI1.out.rowL _ _ (pagesC_get hk (j := 3) rfl)
        have hw : IntKind.i64.wrap ((k : Int) + 2 - 2) = (k : Int) := by rw [show (k : Int) + 2 - 2 = (k : Int) by omega]; exact IntWalk.i64_in _ (by omega)
        have hw2 : IntKind.i64.wrap (k : Int) = (k : Int) := by exact IntWalk.i64_in _ (by omega)
        have hk1 : (k : Int) < (S.L.length : Int) := by omega
        have hk2 : ¬ (k : Int) + 2 < 2 := by omega
        have hk3 : ¬ (S.L.length : Int) ≤ (k : Int) := by omega
        clear hin h2 h3 hid
        simp only [resPage, pageV, pageC, Nat.add_zero] at e0 e1 e2 e3 ⊢
        go_enter Tryz.func255, Tryz.ntmps255
        go_wp2_with fail
        obtain ⟨k1, k2, q0, q1, q2, q3⟩ := HEND.out (.int .i64 (kindN n)) (.int .i64 ((k : Int) + 2)) (.int .i64 0) (str (bodyN n))
        unfold four at k1 k2 q0 q1 q2 q3
        exact bodyPost_ret (v := .tuple #[.agg #[.int .i64 (kindN n), .int .i64 ((k : Int) + 2), .int .i64 0, str (bodyN n)], .int .i64 0]) (by simp [results, Tryz.results255, go_sem, q0, q1, q2, q3]) rfl ⟨rfl, ⟨_, _, k1⟩, k2⟩
    · have ht : told S = S := by unfold told; rw [if_neg hs1]
      rw [ht]
      have HI1 := HI
      have HS1 := HS
      have hst2 := HI1.out.stop
      by_cases hin : id < 2 ∨ (S.L.length : Int) ≤ id - 2
      · rw [nodeAt_out hin]
        have HX := Lib.hid hin
        by_cases h2 : id < 2
        · clear hin
          go_enter Tryz.func255, Tryz.ntmps255
          go_wp2_with fail
          exact bodyPost_ret (v := resPage (.error 8) id) (by simp [results, Tryz.results255, go_sem, resPage, noPage, str]) rfl ⟨rfl, ⟨_, _, HI1.out⟩, HS1.out⟩
        · have h3 : (S.L.length : Int) ≤ id - 2 := hin.resolve_left h2
          have hw : IntKind.i64.wrap (id - 2) = id - 2 := by exact IntWalk.i64_in _ (by omega)
          clear hin
          go_enter Tryz.func255, Tryz.ntmps255
          go_wp2_with fail
          exact bodyPost_ret (v := resPage (.error 8) id) (by simp [results, Tryz.results255, go_sem, resPage, noPage, str]) rfl ⟨rfl, ⟨_, _, HI1.out⟩, HS1.out⟩
      · have h2 : ¬ id < 2 := fun q => hin (.inl q)
        have h3 : ¬ (S.L.length : Int) ≤ id - 2 := fun q => hin (.inr q)
        obtain ⟨k, n, rfl, hk, hn, hlt⟩ := nodeAt_in (L := S.L) (id := id) (by omega) (by omega)
        rw [hn]
        obtain ⟨g, rfl⟩ : ∃ g, aL = some ⟨g, 0, none⟩ := by
          rcases HI1.out.rowL.2 with ⟨q, h0⟩ | ⟨g, cap, cur, q, _⟩
          · change S.L.length = 0 at h0; omega
          · injection q with q1 q2 q3; exact ⟨g, q1⟩
        have e0 := own_cell HI1.out.rowL _ _ (pagesC_get hk (j := 0) rfl)
        have e1 := own_cell HI1.out.rowL _ _ (pagesC_get hk (j := 1) rfl)
        have e2 := own_cell HI1.out.rowL _ _ (pagesC_get hk (j := 2) rfl)
        have e3 := own_cell HI1.out.rowL _ _ (pagesC_get hk (j := 3) rfl)
        have hw : IntKind.i64.wrap ((k : Int) + 2 - 2) = (k : Int) := by rw [show (k : Int) + 2 - 2 = (k : Int) by omega]; exact IntWalk.i64_in _ (by omega)
        have hw2 : IntKind.i64.wrap (k : Int) = (k : Int) := by exact IntWalk.i64_in _ (by omega)
        have hk1 : (k : Int) < (S.L.length : Int) := by omega
        have hk2 : ¬ (k : Int) + 2 < 2 := by omega
        have hk3 : ¬ (S.L.length : Int) ≤ (k : Int) := by omega
        clear hin h2 h3 hid
        simp only [resPage, pageV, pageC, Nat.add_zero] at e0 e1 e2 e3 ⊢
        go_enter Tryz.func255, Tryz.ntmps255
        go_wp2_with fail
        have ho := (Only.refl (fun _ => False) w).alloc (.cells #[.int .i64 (kindN n), .int .i64 ((k : Int) + 2), .int .i64 0, str (bodyN n)] 252)
        exact bodyPost_ret (v := .tuple #[.agg #[.int .i64 (kindN n), .int .i64 ((k : Int) + 2), .int .i64 0, str (bodyN n)], .int .i64 0]) (by simp [results, Tryz.results255, go_sem]) rfl ⟨rfl, ⟨_, _, HP.out.still ho⟩, PStep.still HP.out.lt ho⟩
end
section
open Go.RowKit
theorem pageInfo : (Tryz.prog.info? 252).map (fun i => (i.zero, i.size, i.bytes)) = some (some (.agg #[.int .i64 0, .int .i64 0, .int .i64 0, .string ⟨#[]⟩]), 4, 40) := by kernel_rfl
def resId (r : Except Int Int) : Value := match r with
  | .ok id => .tuple #[.int .i64 id, .int .i64 0]
  | .error e => .tuple #[.int .i64 0, .int .i64 e]
set_option maxRecDepth 100000 in
set_option maxHeartbeats 1000000 in
theorem PMine_is (w : World) (b : Nat) (S : PSt) (id : Int) (h : PagesAt w b S) (hid : -1000000 ≤ id ∧ id ≤ 1000000) :
    Calls Tryz.prog 256 #[.pointer (some ⟨b, 0, none⟩), .int .i64 id] w fun e w' => e = .returned (.bool (isMine S id)) ∧ w = w' := by
  obtain ⟨vL, vG, h⟩ := h
  have c0 := heap_cell h.heap 0
  have c1 := heap_cell h.heap 1
  simp only [List.getElem?_toArray, List.getElem?_cons_zero, List.getElem?_cons_succ] at c0 c1
  obtain ⟨aL, cL, rfl⟩ := ownsRow_form h.rowL
  have hlen := h.few
  have hw : IntKind.i64.wrap (id - 2) = id - 2 := by exact IntWalk.i64_in _ (by omega)
  have hm : isMine S id = decide (S.mine ≤ id ∧ id - 2 < (S.L.length : Int) ∧ 2 ≤ id) := rfl
  rw [hm]
  clear h hm
  by_cases h1 : S.mine ≤ id
  · by_cases h2 : id - 2 < (S.L.length : Int)
    · by_cases h3 : 2 ≤ id
      · rw [decide_eq_true ⟨h1, h2, h3⟩]
        go_enter Tryz.func256, Tryz.ntmps256
        go_wp2_with fail
        go_ret
        exact ⟨rfl, rfl⟩
      · rw [decide_eq_false (fun q => h3 q.2.2)]
        go_enter Tryz.func256, Tryz.ntmps256
        go_wp2_with fail
        go_ret
        exact ⟨rfl, rfl⟩
    · rw [decide_eq_false (fun q => h2 q.2.1)]
      go_enter Tryz.func256, Tryz.ntmps256
      go_wp2_with fail
      go_ret
      exact ⟨rfl, rfl⟩
  · rw [decide_eq_false (fun q => h1 q.1)]
    go_enter Tryz.func256, Tryz.ntmps256
    go_wp2_with fail
    go_ret
    exact ⟨rfl, rfl⟩
set_option maxRecDepth 100000 in
set_option maxHeartbeats 1000000 in
theorem PNew_is (w : World) (b : Nat) (S : PSt) (n : Node) (h : PagesAt w b S) (hn : soundN n) :
    Calls Tryz.prog 257 #[.pointer (some ⟨b, 0, none⟩), pageV n 0] w fun e w' => e = .returned (resId (newP S n).1) ∧ PagesAt w' b (newP S n).2 ∧ PStep b w w' := by
  obtain ⟨i0, hi, hz0, hz1, hz2⟩ := info_parts pageInfo
  obtain ⟨vL, vG, h⟩ := h
  have hlen := h.few
  obtain ⟨aL, cL, rfl⟩ := ownsRow_form h.rowL
  have hne : b ≠ w.heap.size := Nat.ne_of_lt h.lt
  have ho := (Only.refl (fun _ => False) w).alloc (.cells #[.int .i64 (kindN n), .int .i64 ((S.L.length : Int) + 2), .int .i64 0, str (bodyN n)] 252)
  have hW := h.still ho
  have hS := PStep.still h.lt ho
  have hw : IntKind.i64.wrap ((S.L.length : Int) + 2) = (S.L.length : Int) + 2 := by exact IntWalk.i64_in _ (by omega)
  have HP := Lib.hid h
  have HS := Lib.hid hS
  have HI := Lib.hid hW
  have c00 := heap_cell ((h.still ((Only.refl (fun _ => False) w).alloc (.cells #[.int .i64 (kindN n), .int .i64 0, .int .i64 0, str (bodyN n)] 252))).heap) 0
  have c0 := heap_cell hW.heap 0
  have z0 := heap_frozen hW.heap 0
  simp only [List.getElem?_toArray, List.getElem?_cons_zero] at c0 c00
  unfold pageV pageC
  unfold newP
  clear h hS hW ho
  by_cases hf : 3998 ≤ S.L.length
  · rw [if_pos hf]
    have hf2 : (4000 : Int) ≤ (S.L.length : Int) + 2 := by omega
    go_enter Tryz.func257, Tryz.ntmps257
    go_wp2_with fail
    go_ret2
    exact ⟨rfl, ⟨_, _, HI.out⟩, HS.out⟩
  · rw [if_neg hf]
    have hf2 : ¬ (4000 : Int) ≤ (S.L.length : Int) + 2 := by omega
    have q0 := heap_cell (heap_alloc_new w (.cells #[.int .i64 (kindN n), .int .i64 ((S.L.length : Int) + 2), .int .i64 0, str (bodyN n)] 252)) 0
    have q1 := heap_cell (heap_alloc_new w (.cells #[.int .i64 (kindN n), .int .i64 ((S.L.length : Int) + 2), .int .i64 0, str (bodyN n)] 252)) 1
    have q2 := heap_cell (heap_alloc_new w (.cells #[.int .i64 (kindN n), .int .i64 ((S.L.length : Int) + 2), .int .i64 0, str (bodyN n)] 252)) 2
    have q3 := heap_cell (heap_alloc_new w (.cells #[.int .i64 (kindN n), .int .i64 ((S.L.length : Int) + 2), .int .i64 0, str (bodyN n)] 252)) 3
    simp only [List.getElem?_toArray, List.getElem?_cons_zero, List.getElem?_cons_succ] at q0 q1 q2 q3
    go_enter Tryz.func257, Tryz.ntmps257
    go_wp2_with fail
    have hWs : (w.alloc (.cells #[.int .i64 (kindN n), .int .i64 ((S.L.length : Int) + 2), .int .i64 0, str (bodyN n)] 252)).heap.size = w.heap.size + 1 := by simp
    generalize (w.alloc (.cells #[.int .i64 (kindN n), .int .i64 ((S.L.length : Int) + 2), .int .i64 0, str (bodyN n)] 252)) = W at *
    have hbW : b < W.heap.size := HI.out.lt
    have hneL := HI.out.neL
    have hBW : w.heap.size < W.heap.size := by omega
    have hBL : (Value.slice aL S.L.length cL).ownBlock ≠ some w.heap.size := fun e => by have := (HP.out.rowL.lt _ e).2; omega
    have own := HI.out.rowL
    generalize w.heap.size = B at *
    have HWS := Lib.hid hWs
    clear hWs
    go_region_law (refine step_append_moved _ rfl _ _ 60 rfl 252 i0 _ 4 40 Tryz.underlying60 hi hz0 hz1 hz2 rfl (by decide) _ _ _ rfl (own.drew.alloc _) ⟨W.heap.size, 0, none⟩ 1 1 [.int .i64 (kindN n), .int .i64 ((S.L.length : Int) + 2), .int .i64 0, str (bodyN n)] rfl rfl (cells_new W.drew [.int .i64 (kindN n), .int .i64 ((S.L.length : Int) + 2), .int .i64 0, str (bodyN n)] 252 _) (by simp [Value.oneCell', str]) (by unfold maxLen; omega) (by omega) ?_; intro a' c' wa hown2 hgr hmv; have hq : Only (fun k => (Value.slice aL S.L.length cL).ownBlock = some k) W wa := (((Only.refl _ W).drew).alloc _).grown hgr (fun k _ h => h); have e0 := (hq.cell (p := ⟨b, 0, none⟩) hbW hneL).trans c0; have y0 := (hq.frozen (p := ⟨b, 0, none⟩) hbW hneL).trans z0; have f1 := (hq.cell (p := ⟨B, 1, none⟩) hBW hBL).trans q1; clear hgr)
    all_goals
      have hin := HI.out
      have hgL : ∀ k, (Value.slice a' (S.L.length + 1) c').ownBlock = some k → (Value.slice aL S.L.length cL).ownBlock = some k ∨ W.heap.size ≤ k := fun k hk => (hmv k hk).imp id fun q => by simp at q; omega
      have hnb : (Value.slice a' (S.L.length + 1) c').ownBlock ≠ some b := fun e => (hgL b e).elim hneL fun q => by omega
      have hl2 : (S.L ++ [n]).length = S.L.length + 1 := by simp
      have hput := hin.put (S' := { S with L := S.L ++ [n] }) (w1 := wa.setCell ⟨b, 0, none⟩ (.slice a' (S.L.length + 1) c')) (vL' := .slice a' (S.L.length + 1) c') (vG' := vG)
        (heap_setCell ((hq.block b hbW hneL).trans hin.heap) 0 _)
        (by
          have := own_store hown2 hnb 0 (.slice a' (S.L.length + 1) c')
          show World.ownsRow _ 0 _ 4 _ (S.L ++ [n]).length (pagesC (S.L ++ [n]))
          rw [pagesC_snoc, hl2]
          exact this)
        (own_store (own_only hin.rowG hq (fun k hk e => hin.apart k e hk)) hin.neG 0 _)
        ((hq.mono (fun k _ hk => (hin.pown_iff k).2 (.inr (.inl hk)))).put b 0 (.inl rfl) _) hgL (fun k hk => .inl hk)
        (fun k hk e => (hgL k hk).elim (fun q => hin.apart k q e) fun q => by have := (hin.rowG.lt k e).2; omega)
        (fun m hm => by
          rcases List.mem_append.1 hm with hm | hm
          · exact hin.sound m hm
          · rw [List.mem_singleton.1 hm]; exact hn)
        (by simp only [hl2]; omega) rfl hin.stop hin.given
      have HX := Lib.hid hput
      clear hput hq hown2 hmv hin
      go_wp2_with fail
      go_ret2
      exact ⟨by simp [resId], ⟨_, _, HX.out.1⟩, HS.out.trans HX.out.2⟩
end
section
open Go.RowKit
theorem set_cells4 (l : List (Node × Nat)) (k : Nat) (x : Node × Nat) (hk : k < l.length) :
    ((((l.flatMap encP).set (k * 4) (.int .i64 (kindN x.1))).set (k * 4 + 1) (.int .i64 ((x.2 + 2 : Nat) : Int))).set (k * 4 + 2) (.int .i64 0)).set (k * 4 + 3) (str (bodyN x.1)) = (l.set k x).flatMap encP := by
  induction l generalizing k with
  | nil => simp at hk
  | cons a l ih =>
    cases k with
    | zero => rfl
    | succ k =>
      have := ih k (by simpa using hk)
      rw [List.flatMap_cons, List.set_cons_succ, List.flatMap_cons, ← this]
      have e0 : (k + 1) * 4 = k * 4 + 4 := by omega
      have hl : (encP a).length = 4 := rfl
      rw [e0, List.set_append_right _ _ (by rw [hl]; omega), List.set_append_right _ _ (by rw [hl]; omega), List.set_append_right _ _ (by rw [hl]; omega), List.set_append_right _ _ (by rw [hl]; omega), hl]
      rw [show k * 4 + 4 - 4 = k * 4 by omega, show k * 4 + 4 + 1 - 4 = k * 4 + 1 by omega, show k * 4 + 4 + 2 - 4 = k * 4 + 2 by omega, show k * 4 + 4 + 3 - 4 = k * 4 + 3 by omega]
theorem pagesC_set (L : List Node) (k : Nat) (n : Node) (hk : k < L.length) :
    ((((pagesC L).set (k * 4) (.int .i64 (kindN n))).set (k * 4 + 1) (.int .i64 ((k + 2 : Nat) : Int))).set (k * 4 + 2) (.int .i64 0)).set (k * 4 + 3) (str (bodyN n)) = pagesC (L.set k n) := by
  have e : (L.set k n).zipIdx = L.zipIdx.set k (n, k) := by
    apply List.ext_getElem?
    intro i
    rw [List.getElem?_zipIdx, List.getElem?_set, List.getElem?_set, List.getElem?_zipIdx]
    by_cases hi : k = i
    · subst hi
      rw [if_pos rfl, if_pos rfl, List.length_zipIdx, if_pos hk, if_pos hk]
      simp
    · rw [if_neg hi, if_neg hi]
  unfold pagesC
  rw [e]
  exact set_cells4 L.zipIdx k (n, k) (by rw [List.length_zipIdx]; exact hk)
set_option maxRecDepth 100000 in
set_option maxHeartbeats 1000000 in
theorem PSet_is (w : World) (b : Nat) (S : PSt) (n : Node) (id : Int) (h : PagesAt w b S) (hn : soundN n) (hm : isMine S id = true) :
    Calls Tryz.prog 259 #[.pointer (some ⟨b, 0, none⟩), pageV n id] w fun e w' => e = .returned (.int .i64 0) ∧ PagesAt w' b { S with L := S.L.set (id - 2).toNat n } ∧ PStep b w w' := by
  obtain ⟨i0, hi, hz0, hz1, hz2⟩ := info_parts pageInfo
  obtain ⟨vL, vG, h⟩ := h
  have hlen := h.few
  simp only [isMine, decide_eq_true_eq] at hm
  obtain ⟨k, n0, rfl, hk, _, hlt⟩ := nodeAt_in (L := S.L) (id := id) hm.2.2 hm.2.1
  have hkn : ((k : Int) + 2 - 2).toNat = k := by omega
  rw [hkn]
  obtain ⟨aL, cL, rfl⟩ := ownsRow_form h.rowL
  obtain ⟨g, rfl⟩ : ∃ g, aL = some ⟨g, 0, none⟩ := by
    rcases h.rowL.2 with ⟨q, h0⟩ | ⟨g, cap, cur, q, _⟩
    · omega
    · injection q with q1 q2 q3; exact ⟨g, q1⟩
  have hne : b ≠ w.heap.size := Nat.ne_of_lt h.lt
  have ho := (Only.refl (fun _ => False) w).alloc (.cells #[.int .i64 (kindN n), .int .i64 ((k : Int) + 2), .int .i64 0, str (bodyN n)] 252)
  have hW := h.still ho
  have hS := PStep.still h.lt ho
  have c0 := heap_cell hW.heap 0
  have c1 := heap_cell hW.heap 1
  have z0 := heap_frozen hW.heap 0
  have q0 := heap_cell (heap_alloc_new w (.cells #[.int .i64 (kindN n), .int .i64 ((k : Int) + 2), .int .i64 0, str (bodyN n)] 252)) 0
  have q1 := heap_cell (heap_alloc_new w (.cells #[.int .i64 (kindN n), .int .i64 ((k : Int) + 2), .int .i64 0, str (bodyN n)] 252)) 1
  have q2 := heap_cell (heap_alloc_new w (.cells #[.int .i64 (kindN n), .int .i64 ((k : Int) + 2), .int .i64 0, str (bodyN n)] 252)) 2
  have q3 := heap_cell (heap_alloc_new w (.cells #[.int .i64 (kindN n), .int .i64 ((k : Int) + 2), .int .i64 0, str (bodyN n)] 252)) 3
  simp only [List.getElem?_toArray, List.getElem?_cons_zero, List.getElem?_cons_succ] at c0 c1 q0 q1 q2 q3
  have HS := Lib.hid hS
  have HI := Lib.hid hW
  have hBL : (Value.slice (some ⟨g, 0, none⟩) S.L.length cL).ownBlock ≠ some w.heap.size := fun e => by have := (h.rowL.lt _ e).2; omega
  have hBG : vG.ownBlock ≠ some w.heap.size := fun e => by have := (h.rowG.lt _ e).2; omega
  have hw : IntKind.i64.wrap (k : Int) = (k : Int) := by exact IntWalk.i64_in _ (by omega)
  have hm1 : ¬ (k : Int) + 2 < S.mine := by omega
  have hm2 : ¬ (S.L.length : Int) ≤ (k : Int) := by omega
  have hm3 : ¬ (k : Int) + 2 < 2 := by omega
  have hk1 : (k : Int) < (S.L.length : Int) := by omega
  unfold pageV pageC
  clear h hS hW ho hm hk hkn
  go_enter Tryz.func259, Tryz.ntmps259
  go_wp2_with fail
  have hWs : (w.alloc (.cells #[.int .i64 (kindN n), .int .i64 ((k : Int) + 2), .int .i64 0, str (bodyN n)] 252)).heap.size = w.heap.size + 1 := by simp
  generalize (w.alloc (.cells #[.int .i64 (kindN n), .int .i64 ((k : Int) + 2), .int .i64 0, str (bodyN n)] 252)) = W at *
  have hBW : w.heap.size < W.heap.size := by omega
  generalize w.heap.size = B at *
  have HWS := Lib.hid hWs
  clear hWs
  have p0 : ∀ p : Grew W, p.u.cell? ⟨b, 0, none⟩ = some (.slice (some ⟨g, 0, none⟩) S.L.length cL) := fun p => p.cell c0
  have p1 : ∀ p : Grew W, p.u.cell? ⟨b, 1, none⟩ = some (.int .i64 S.mine) := fun p => p.cell c1
  have r1 : ∀ p : Grew W, p.u.cell? ⟨B, 1, none⟩ = some (.int .i64 ((k : Int) + 2)) := fun p => p.cell q1
  refine wp_region_grew (by kernel_rfl) (by kernel_rfl) (fun _W h0 h1 => ?_)
  repeat (refine h1 _ _ _ (fun K hK => ?_); go_simp; refine hK _ ?_; clear hK K)
  refine h0 _ (fun p => ?_)
  clear h0 h1
  have hin2 := HI.out.still p.h
  have HS2 := Lib.hid (HS.out.trans (PStep.still HI.out.lt p.h))
  have hW2 := Nat.lt_of_lt_of_le hBW p.h.size
  have q0 := p.cell q0
  have q1 := p.cell q1
  have q2 := p.cell q2
  have q3 := p.cell q3
  have c0 := p0 p
  have z0 := (p.h.frozen (p := ⟨b, 0, none⟩) HI.out.lt id).trans z0
  clear p0 p1 r1 c1 HS HI HWS hBW
  generalize p.u = W at *
  clear p
  have hcells := hin2.rowL.cells (g := g) rfl
  have hone : ∀ u ∈ pagesC S.L, u.oneCell' = true := by
    intro u hu
    obtain ⟨x, _, hu⟩ := List.mem_flatMap.1 hu
    simp only [encP, pageC, List.mem_cons, List.not_mem_nil, or_false] at hu
    rcases hu with rfl | rfl | rfl | rfl <;> rfl
  have HI := Lib.hid hin2
  have hpl := pagesC_length S.L
  clear hin2
  go_wp2_with (at_builtin; refine wpList_append_moved _ rfl _ _ 60 rfl 252 i0 _ 4 40 Tryz.underlying60 hi hz0 hz1 hz2 rfl (by decide) (.slice none 0 0) 0 [] rfl ⟨rfl, .inl ⟨rfl, rfl⟩⟩ ⟨g, 0, none⟩ S.L.length cL (pagesC S.L) rfl hpl hcells hone (by unfold maxLen; omega) (by omega) ?_; intro a' c' wa hown2 hgr hmv; have hq : Only (fun _ => False) W wa := (Only.refl _ W).grown hgr (fun k _ h => by cases h); have e0 := (hq.cell (p := ⟨b, 0, none⟩) HI.out.lt id).trans c0; have y0 := (hq.frozen (p := ⟨b, 0, none⟩) HI.out.lt id).trans z0; have HX := Lib.hid (And.intro hown2 (And.intro hq hmv)); clear hown2 hgr hmv hq)
  obtain ⟨hown, hq, hmv⟩ := HX.out
  rw [Nat.zero_add, List.nil_append] at hown
  have hmv2 : ∀ j, (Value.slice a' S.L.length c').ownBlock = some j → W.heap.size ≤ j := fun j hj => by
    rw [Nat.zero_add] at hmv
    exact (hmv j hj).elim (fun q => by cases q) id
  obtain ⟨g', rfl⟩ : ∃ g', a' = some ⟨g', 0, none⟩ := by
    rcases hown.2 with ⟨q, h0⟩ | ⟨g, cap, cur, q, _⟩
    · omega
    · injection q with q1 q2 q3; exact ⟨g, q1⟩
  have hg' : W.heap.size ≤ g' := hmv2 g' rfl
  have hbg : b ≠ g' := fun e => by have := HI.out.lt; omega
  have hBg : B ≠ g' := fun e => by omega
  have hI3 := HI.out.still hq
  have hnb : (Value.slice (some ⟨g', 0, none⟩) S.L.length c').ownBlock ≠ some b := fun e => hbg (Option.some.inj e).symm
  have hown5 := own_store hown hnb 0 (.slice (some ⟨g', 0, none⟩) S.L.length c')
  have hh5 := heap_setCell hI3.heap 0 (.slice (some ⟨g', 0, none⟩) S.L.length c')
  have c0 := heap_cell hh5 0
  have d0 := own_cell hown5 (k * 4) _ (List.getElem?_eq_getElem (by rw [hpl]; omega))
  have d1 := own_cell hown5 (k * 4 + 1) _ (List.getElem?_eq_getElem (by rw [hpl]; omega))
  have d2 := own_cell hown5 (k * 4 + 2) _ (List.getElem?_eq_getElem (by rw [hpl]; omega))
  have d3 := own_cell hown5 (k * 4 + 3) _ (List.getElem?_eq_getElem (by rw [hpl]; omega))
  have f0 := own_frozen hown5 (k * 4)
  have f1 := own_frozen hown5 (k * 4 + 1)
  have f2 := own_frozen hown5 (k * 4 + 2)
  have f3 := own_frozen hown5 (k * 4 + 3)
  have q0 := (World.cell?_setCell_other wa ⟨b, 0, none⟩ ⟨B, 0, none⟩ (.slice (some ⟨g', 0, none⟩) S.L.length c') (ne_block _ _ hne)).trans ((hq.cell (p := ⟨B, 0, none⟩) hW2 id).trans q0)
  have q1 := (World.cell?_setCell_other wa ⟨b, 0, none⟩ ⟨B, 1, none⟩ (.slice (some ⟨g', 0, none⟩) S.L.length c') (ne_block _ _ hne)).trans ((hq.cell (p := ⟨B, 1, none⟩) hW2 id).trans q1)
  have q2 := (World.cell?_setCell_other wa ⟨b, 0, none⟩ ⟨B, 2, none⟩ (.slice (some ⟨g', 0, none⟩) S.L.length c') (ne_block _ _ hne)).trans ((hq.cell (p := ⟨B, 2, none⟩) hW2 id).trans q2)
  have q3 := (World.cell?_setCell_other wa ⟨b, 0, none⟩ ⟨B, 3, none⟩ (.slice (some ⟨g', 0, none⟩) S.L.length c') (ne_block _ _ hne)).trans ((hq.cell (p := ⟨B, 3, none⟩) hW2 id).trans q3)
  simp only [List.setIfInBounds_toArray, List.getElem?_toArray, List.set_cons_zero, List.getElem?_cons_zero] at c0
  have HX5 := Lib.hid (And.intro hown5 (And.intro hI3 hh5))
  have HXQ := Lib.hid hq
  clear hown hq hmv hmv2 hI3 hnb hown5 hh5 e0 y0 hone hcells HX
  generalize hW5 : wa.setCell ⟨b, 0, none⟩ (.slice (some ⟨g', 0, none⟩) S.L.length c') = W5 at *
  have hW5' := Lib.hid hW5
  clear hW5
  go_region_law (fail)
  all_goals
    go_wp2_with fail
    go_ret
    obtain ⟨hown5, hI3, hh5⟩ := HX5.out
    have hrow := own_set (own_set (own_set (own_set hown5.drew (k * 4) (.int .i64 (kindN n))) (k * 4 + 1) (.int .i64 ((k + 2 : Nat) : Int))) (k * 4 + 2) (.int .i64 0)) (k * 4 + 3) (str (bodyN n))
    rw [pagesC_set S.L k n hlt] at hrow
    have hoF := (((((Only.refl (fun j => j = g') W5).drew).put g' (k * 4) rfl (.int .i64 (kindN n))).put g' (k * 4 + 1) rfl (.int .i64 ((k + 2 : Nat) : Int))).put g' (k * 4 + 2) rfl (.int .i64 0)).put g' (k * 4 + 3) rfl (str (bodyN n))
    have hoa : Only (fun j => j = b) wa W5 := by rw [← hW5'.out]; exact (Only.refl (fun j => j = b) wa).put b 0 rfl _
    have hoW : Only (fun _ => False) W wa := HXQ.out
    have hb5 : b < W5.heap.size := (Array.getElem?_eq_some_iff.1 hh5).1
    have hsz5 := hoa.size
    have hnbG : ∀ j, vG.ownBlock = some j → j ≠ g' := fun j hj e => by have := (HI.out.rowG.lt j hj).2; omega
    have hput := HI.out.put (S' := { S with L := S.L.set k n }) (vL' := .slice (some ⟨g', 0, none⟩) S.L.length c') (vG' := vG) ((hoF.block b hb5 hbg).trans hh5)
      (by
        show World.ownsRow _ 0 _ 4 _ (S.L.set k n).length (pagesC (S.L.set k n))
        rw [List.length_set]
        exact hrow)
      (own_only (own_only hI3.rowG hoa (fun j hj e => hI3.neG (e ▸ hj))) hoF (fun j hj e => hnbG j hj e))
      (((hoW.mono (fun _ _ q => q.elim)).trans (hoa.mono (fun j _ e => (show pown W b j from .inl e))) (fun j _ q => q)).trans hoF (fun j hj e => by have e2 : j = g' := e; omega))
      (fun j hj => .inr (by have e : g' = j := Option.some.inj hj; omega)) (fun j hj => .inl hj) (fun j hj e => hnbG j e (Option.some.inj hj).symm)
      (fun m hm => by
        rcases List.mem_or_eq_of_mem_set hm with hm | rfl
        · exact HI.out.sound m hm
        · exact hn) (by simp only [List.length_set]; exact hlen) rfl HI.out.stop HI.out.given
    exact ⟨rfl, ⟨_, _, hput.1⟩, HS2.out.trans hput.2⟩
end
section
open Go.RowKit
theorem intInfo5 : (Tryz.prog.info? 3).map (fun i => (i.zero, i.size, i.bytes)) = some (some (.int .i64 0), 1, 8) := by kernel_rfl
def noPages : PSt := { L := [], mine := 2, given := [], bad := false, twice := false, stop := -1 }
theorem Fresh_is (w : World) : Calls Tryz.prog 19 #[] w fun e w' => e = .returned (.pointer (some ⟨w.heap.size, 0, none⟩)) ∧ PagesAt w' w.heap.size noPages ∧ Only (fun _ => False) w w' ∧ (∀ k, pown w' w.heap.size k → w.heap.size ≤ k) := by
  go_enter Tryz.func19, Tryz.ntmps19
  go_wp2_with fail
  go_ret
  have h : PagesIn (w.alloc (.cells #[.slice none 0 0, .int .i64 2, .slice none 0 0, .bool false, .bool false, .int .i64 (-1)] 62)) w.heap.size noPages (.slice none 0 0) (.slice none 0 0) :=
    ⟨heap_alloc_new _ _, ⟨rfl, .inl ⟨rfl, rfl⟩⟩, ⟨rfl, .inl ⟨rfl, rfl⟩⟩, (fun q => by cases q), (fun q => by cases q), (fun k q => by cases q), (fun n hn => by cases hn), by decide, ⟨by decide, by decide⟩, ⟨by decide, by decide⟩, by decide⟩
  refine ⟨rfl, ⟨_, _, h⟩, (Only.refl _ w).alloc _, fun k q => ?_⟩
  rcases (h.pown_iff k).1 q with q | q | q
  · omega
  · cases q
  · cases q
set_option maxRecDepth 100000 in
set_option maxHeartbeats 2000000 in
theorem PFree_is (w : World) (b : Nat) (S : PSt) (id : Int) (v : Value) (h : PagesAt w b S) (hg : S.given.length < 1000000) (hv : ∃ g off c, v = .slice (some ⟨g, off, none⟩) 1 c ∧ w.cell? ⟨g, off, none⟩ = some (.int .i64 id) ∧ ¬ pown w b g) :
    Calls Tryz.prog 254 #[.pointer (some ⟨b, 0, none⟩), v] w fun e w' => e = .returned (.tuple #[]) ∧ PagesAt w' b (freeP S id) ∧ PStep b w w' := by
  obtain ⟨i0, hi, hz0, hz1, hz2⟩ := info_parts intInfo5
  obtain ⟨vL, vG, h⟩ := h
  obtain ⟨gi, offi, ci, rfl, hci, hni⟩ := hv
  obtain ⟨aG, cG, rfl⟩ := ownsRow_form h.rowG
  have HP := Lib.hid h
  go_enter Tryz.func254, Tryz.ntmps254
  go_wp2_with fail
  refine wp_loop_rounds 2 ?_
  rw [rounds_succ]
  go_wp2_with fail
  go_loopg [5] S.given.length (fun gh i wr => ∃ (k : Nat) (tw : Bool), gh + k = S.given.length ∧ i = .int .i64 k ∧ tw = (S.twice || (S.given.take k).any (fun g => g == id)) ∧ PagesIn wr b { S with twice := tw } vL (.slice aG S.given.length cG) ∧ PStep b w wr ∧ wr.cell? ⟨gi, offi, none⟩ = some (.int .i64 id))
  case atStart => exact ⟨0, S.twice, by omega, rfl, by simp, h, PStep.refl b w, hci⟩
  case round =>
    obtain ⟨k, tw, hgh, rfl, htw, hin, hst, hc⟩ := hrel
    have c4 := heap_cell hin.heap 4
    have c2 := heap_cell hin.heap 2
    have z4 := heap_frozen hin.heap 4
    simp only [List.getElem?_toArray, List.getElem?_cons_zero, List.getElem?_cons_succ] at c4 c2
    have HI := Lib.hid hin
    have HS := Lib.hid hst
    have HT := Lib.hid htw
    clear hin hst htw
    have hgiv := hg
    by_cases hk : k < S.given.length
    · have hk1 : (k : Int) < (S.given.length : Int) := by omega
      obtain ⟨x, hx⟩ : ∃ x, S.given[k]? = some x := ⟨_, List.getElem?_eq_getElem hk⟩
      obtain ⟨g, rfl⟩ : ∃ g, aG = some ⟨g, 0, none⟩ := by
        rcases HP.out.rowG.2 with ⟨q, h0⟩ | ⟨g, cap, cur, q, _⟩
        · omega
        · injection q with q1 q2 q3; exact ⟨g, q1⟩
      have e0 := own_cell HI.out.rowG k (.int .i64 x) (by unfold intsI; rw [List.getElem?_map]; simp only; rw [hx]; rfl)
      have hw1 : IntKind.i64.wrap ((k : Int) + 1) = (k : Int) + 1 := by exact IntWalk.i64_in _ (by omega)
      have hnx : (S.twice || (S.given.take (k + 1)).any (fun g => g == id)) = (tw || (x == id)) := by
        rw [List.take_add_one, hx, List.any_append, ← Bool.or_assoc, ← HT.out]
        simp
      have HN := Lib.hid hnx
      have HX : ∀ tw' : Bool, PagesIn (wr.drew.setCell ⟨b, 4, none⟩ (.bool tw')) b { S with twice := tw' } vL (.slice (some ⟨g, 0, none⟩) S.given.length cG) ∧ PStep b wr (wr.drew.setCell ⟨b, 4, none⟩ (.bool tw')) := fun tw' =>
        HI.out.put (S' := { S with twice := tw' }) (heap_setCell (w := wr.drew) HI.out.heap 4 (.bool tw')) (own_store HI.out.rowL.drew HI.out.neL 4 _) (own_store HI.out.rowG.drew HI.out.neG 4 _) ((Only.refl _ _).drew.put b 4 (.inl rfl) _) (fun _ q => .inl q) (fun _ q => .inl q) HI.out.apart HI.out.sound HI.out.few rfl HI.out.stop HI.out.given
      have HXX := Lib.hid HX
      have hcb : ∀ tw' : Bool, (wr.drew.setCell ⟨b, 4, none⟩ (.bool tw')).cell? ⟨gi, offi, none⟩ = some (.int .i64 id) := fun tw' => by
        rw [World.cell?_setCell_other wr.drew ⟨b, 4, none⟩ ⟨gi, offi, none⟩ _ (ne_block _ _ (fun e => hni (.inl e.symm)))]
        exact hc
      have HCB := Lib.hid hcb
      clear hnx HX hcb hx
      cases tw with
      | true =>
        go_wp2_with fail
        go_region
        all_goals
          go_wp2_with fail
          go_roundg (gk - 1)
          case measure => omega
          case rel =>
            refine ⟨k + 1, true, by omega, by go_num, ?_, (HXX.out true).1, HS.out.trans (HXX.out true).2, HCB.out true⟩
            rw [HN.out]; rfl
      | false =>
        go_wp2_with fail
        go_region
        all_goals
          go_wp2_with fail
          go_roundg (gk - 1)
          case measure => omega
          case rel =>
            refine ⟨k + 1, x == id, by omega, by go_num, ?_, (HXX.out (x == id)).1, HS.out.trans (HXX.out (x == id)).2, HCB.out (x == id)⟩
            rw [HN.out]; rfl
    · obtain rfl : k = S.given.length := by omega
      have hk1 : ¬ (S.given.length : Int) < (S.given.length : Int) := by omega
      have z2 := heap_frozen HI.out.heap 2
      have hbW : b < wr.heap.size := HI.out.lt
      have hneG := HI.out.neG
      have own := HI.out.rowG
      clear HP
      go_wp2_with fail
      go_region_law (refine step_append_moved _ rfl _ _ 57 rfl 3 i0 _ 1 8 Tryz.underlying57 hi hz0 hz1 hz2 rfl (by decide) _ _ _ rfl (own.drew.alloc _) ⟨wr.heap.size, 0, none⟩ 1 1 [.int .i64 id] rfl rfl (cells_new wr.drew [.int .i64 id] 3 _) (by simp [Value.oneCell']) (by unfold maxLen; omega) (by omega) ?_; intro a' c' wa hown2 hgr hmv; have hq : Only (fun k => (Value.slice aG S.given.length cG).ownBlock = some k) wr wa := (((Only.refl _ wr).drew).alloc _).grown hgr (fun k _ h => h); have e2 := (hq.cell (p := ⟨b, 2, none⟩) hbW hneG).trans c2; have y2 := (hq.frozen (p := ⟨b, 2, none⟩) hbW hneG).trans z2; clear hgr)
      all_goals
        have hgG : ∀ k, (Value.slice a' (S.given.length + 1) c').ownBlock = some k → (Value.slice aG S.given.length cG).ownBlock = some k ∨ wr.heap.size ≤ k := fun k hk => (hmv k hk).imp (fun q => q) fun q => by simp at q; omega
        have hin := HI.out
        have hnb : (Value.slice a' (S.given.length + 1) c').ownBlock ≠ some b := fun e => (hgG b e).elim hneG fun q => by omega
        have hl2 : (S.given ++ [id]).length = S.given.length + 1 := by simp
        have hput := hin.put (S' := freeP S id) (w1 := wa.setCell ⟨b, 2, none⟩ (.slice a' (S.given.length + 1) c')) (vL' := vL) (vG' := .slice a' (S.given.length + 1) c')
          (by
            have := heap_setCell ((hq.block b hbW hneG).trans hin.heap) 2 (.slice a' (S.given.length + 1) c')
            have e : tw = (freeP S id).twice := by rw [HT.out, List.take_length]; rfl
            rw [← e]
            exact this)
          (own_store (own_only hin.rowL hq (fun k hk e => hin.apart k hk e)) hin.neL 2 _)
          (by
            have := own_store hown2 hnb 2 (.slice a' (S.given.length + 1) c')
            show World.ownsRow _ 0 _ 1 _ (S.given ++ [id]).length (intsI (S.given ++ [id]))
            rw [hl2]
            simpa [intsI] using this)
          ((hq.mono (fun k _ hk => (hin.pown_iff k).2 (.inr (.inr hk)))).put b 2 (.inl rfl) _) (fun k hk => .inl hk) hgG
          (fun k hk e => (hgG k e).elim (fun q => hin.apart k hk q) fun q => by have := (hin.rowL.lt k hk).2; omega)
          hin.sound hin.few rfl hin.stop (by show (S.given ++ [id]).length ≤ 1000000; rw [hl2]; omega)
        have HX := Lib.hid hput
        clear hput hq hown2 hmv hin
        go_wp2_with fail
        rw [rounds_succ]
        go_wp2_with fail
        go_end0
        exact ⟨rfl, ⟨_, _, HX.out.1⟩, HS.out.trans HX.out.2⟩
end
end Go.Proofs.YtbhiamcmiopnoaaGreatDoor
