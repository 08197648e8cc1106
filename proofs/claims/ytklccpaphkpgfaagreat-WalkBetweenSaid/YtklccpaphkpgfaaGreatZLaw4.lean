/- A cursor over the law's pages, where it sits behind each move. Conditions: one goroutine; the pages lie in memory and are all told. -/
import Derived.Test.YtklccpaphkpgfaaGreatZWalkB
import Derived.Test.YtklccpaphkpgfaaGreatZPlain
namespace Go.Proofs.YtklccpaphkpgfaaGreat
open Go.RowKit

theorem Face.most {L : List Node} {n : Nat} {id : Int} {l : List Item} {node : Node} {parts : List (List Item)} (h : Face L n id l node parts) : nlen node ≤ 255 := by
  cases h with
  | leaf _ _ _ _ ok => exact ok.2.2
  | twig _ _ _ _ _ ok => exact ok.2.2
theorem Spine.near {L : List Node} {l : List Item} {st : List Place} {n : Nat} {id : Int} {m pre post : List Item} (h : Spine L l st n id m pre post) : ∀ q ∈ st, 0 ≤ q.at_ ∧ q.at_ ≤ 255 := by
  induction h with
  | root => intro q hq; cases hq
  | step st n id A C t pre post s f h ih =>
    intro q hq
    rcases List.mem_cons.1 hq with rfl | hq
    · have := f.most
      simp only [nlen] at this
      rw [List.length_map, List.length_append] at this
      simp only
      omega
    · exact ih q hq
theorem Stands.near {L : List Node} {l : List Item} {c : Cur} {k : Nat} (h : Stands L l c.stack k) : Near 900 c ∧ c.stack.length ≤ 12 := by
  obtain ⟨m, a, r, id, pre, post, hs, S, F, ha, rfl, h11⟩ := h.ex
  refine ⟨fun q hq => ?_, by rw [hs, List.length_cons]; omega⟩
  rw [hs] at hq
  rcases List.mem_cons.1 hq with rfl | hq
  · have := F.most
    simp only [nlen] at this
    simp only
    omega
  · have := S.near q hq; omega

/-- Where a cursor sits: at an item, or nowhere; no error. -/
structure Sits (S : PSt) (root : Int) (l : List Item) (c : Cur) (k : Option Nat) : Prop where
  p : c.p = S
  root : c.root = root
  e : c.e = 0
  at_ : match k with | some k => Stands S.L l c.stack k | none => c.stack = []
theorem Sits.lt {S : PSt} {root : Int} {l : List Item} {c : Cur} {k : Nat} (h : Sits S root l c (some k)) : k < l.length := by
  obtain ⟨m, a, r, x, h1, h2, h3, h4⟩ := stands_item (l := l) h.at_
  exact (List.getElem?_eq_some_iff.1 h3).1
theorem Sits.next {S : PSt} {root : Int} {l : List Item} {c c' : Cur} {k k' : Option Nat} {r : Bool} (h : Sits S root l c k) (hs : S.stop < 0) (he : Ends S.L l c k' r c') : r = k'.isSome ∧ Sits S root l c' k' := by
  have hp := he.pages
  have hc := he.calm (by rw [h.p]; exact hs)
  rcases he.how with ⟨h1, h2, h3⟩ | ⟨h1, _⟩
  · exact ⟨h1, by rw [hp, hc]; exact h.p, he.root.trans h.root, h2.trans h.e, h3⟩
  · rw [h.p] at h1; omega
theorem cMove_nil (by_ : Int) (c : Cur) (h : c.stack = []) : cMove by_ c = some (false, c) := by
  unfold cMove; rw [h]
theorem rooted_range {L : List Node} {root : Int} {l : List Item} {ids : List Int} (R : Rooted L root l ids) (hL : L.length ≤ 3998) : -1000000 ≤ root ∧ root ≤ 1000000 := by
  cases R with
  | none => omega
  | some n _ b _ _ h =>
    have := h.there _ h.self
    omega

/-- The pages with a tree in them. -/
structure Grown (S : PSt) (root : Int) (l : List Item) : Prop where
  rooted : ∃ ids, Rooted S.L root l ids
  few : l.length < 2 ^ 11
  pages : S.L.length ≤ 3998
  stop : S.stop < 0

/-- How a call on a cursor ends that moves it. -/
def Goes (w : World) (x b : Nat) (S : PSt) (root : Int) (l : List Item) (F : Nat → Prop) (k : Option Nat) : Ending → World → Prop := fun e w' => ∃ c' F', e = .returned (.bool k.isSome) ∧ CurAt w' x b c' F' ∧ Sits S root l c' k ∧ CStep b F F' w w'
def fstOf (l : List Item) : Option Nat := if 0 < l.length then some 0 else none
def lstOf (l : List Item) : Option Nat := if 0 < l.length then some (l.length - 1) else none
def skOf (l : List Item) (key : Bytes) : Option Nat := if findAt l key < l.length then some (findAt l key) else none
def nxtOf (l : List Item) : Option Nat → Option Nat
  | some k => if k + 1 < l.length then some (k + 1) else none
  | none => none
def prvOf : Option Nat → Option Nat
  | some k => if 0 < k then some (k - 1) else none
  | none => none

section
variable {S : PSt} {root : Int} {l : List Item} (G : Grown S root l) (w : World) (x b : Nat) (c : Cur) (F : Nat → Prop) (k : Option Nat) (h : CurAt w x b c F) (s : Sits S root l c k)
include G h s
theorem goes_seek (key : Bytes) : Calls Tryz.prog 29 #[.pointer (some ⟨x, 0, none⟩), str key] w (Goes w x b S root l F (skOf l key)) := by
  obtain ⟨ids, R⟩ := G.rooted
  have hr := rooted_range R G.pages
  obtain ⟨r, c', h1, h2⟩ := seek_is S.L l root ids R G.few c (by rw [s.p]) s.root s.e key
  obtain ⟨rfl, h3⟩ := s.next G.stop h2
  refine (wSeek_is w x b c c' F key _ h (by rw [s.root]; exact hr) h1).mono ?_
  rintro e w' ⟨F', e1, e2, e3⟩
  exact ⟨c', F', e1, e2, h3, e3⟩
theorem goes_next : Calls Tryz.prog 34 #[.pointer (some ⟨x, 0, none⟩)] w (Goes w x b S root l F (nxtOf l k)) := by
  cases k with
  | none =>
    have hs : c.stack = [] := s.at_
    refine (wNext_is w x b c c F false h (by rw [hs]; simp) (fun q hq => by rw [hs] at hq; cases hq) (cMove_nil 1 c hs)).mono ?_
    rintro e w' ⟨F', e1, e2, e3⟩
    exact ⟨c, F', e1, e2, s, e3⟩
  | some k =>
    have hst : Stands S.L l c.stack k := s.at_
    obtain ⟨r, c', h1, h2⟩ := next_is S.L l c (by rw [s.p]) k hst
    obtain ⟨rfl, h3⟩ := s.next G.stop h2
    refine (wNext_is w x b c c' F _ h hst.near.2 hst.near.1 h1).mono ?_
    rintro e w' ⟨F', e1, e2, e3⟩
    exact ⟨c', F', e1, e2, h3, e3⟩
end
/-- The item that a place stands for. -/
def itemAt (l : List Item) (k : Option Nat) : Value := match k.bind fun k => l[k]? with | some x => itemV x | none => noItem
theorem goes_item {S : PSt} {root : Int} {l : List Item} (w : World) (x b : Nat) (c : Cur) (F : Nat → Prop) (k : Option Nat) (h : CurAt w x b c F) (s : Sits S root l c k) :
    Calls Tryz.prog 30 #[.pointer (some ⟨x, 0, none⟩)] w fun e w' => e = .returned (.tuple #[itemAt l k, .bool k.isSome]) ∧ Only (fun _ => False) w w' := by
  cases k with
  | none => exact wItem_none w x b c F h s.at_
  | some k =>
    have hst : Stands S.L l c.stack k := s.at_
    obtain ⟨m, a, r, it, h1, h2, h3, h4⟩ := stands_item hst
    have hl := hst.near.2
    rw [h1, List.length_cons] at hl
    have := wItem_some w x b c F h m a r it h1 h2 (by omega)
    unfold itemAt
    simp only [Option.bind_some, h3]
    exact this
theorem goes_on (w : World) (b : Nat) (S : PSt) (root : Int) (l : List Item) (h : PagesAt w b S) :
    Calls Tryz.prog 28 #[pagesV b, .int .i64 root] w fun e w' => e = .returned (.pointer (some ⟨w.heap.size, 0, none⟩)) ∧ CurAt w' w.heap.size b ⟨S, root, [], 0⟩ (fun k => k = w.heap.size) ∧ Sits S root l ⟨S, root, [], 0⟩ none ∧ Only (fun _ => False) w w' :=
  (wOn_is w b S root h).mono fun _ _ h => ⟨h.1, h.2.1, ⟨rfl, rfl, rfl, rfl⟩, h.2.2⟩
/-- A step on blocks that are all new. -/
theorem CStep.fresh {b : Nat} {F F' : Nat → Prop} {w w1 w2 : World} (s : CStep b F F' w1 w2) (ho : Only (fun _ => False) w w1) (hF : ∀ k, F k → w.heap.size ≤ k) (hp : ∀ k, pown w1 b k → w.heap.size ≤ k) : Only (fun _ => False) w w2 :=
  ho.trans s.only fun i hi q => by
    rcases q with q | q
    · have := hF i q; omega
    · have := hp i q; omega
theorem CStep.freshF {b : Nat} {F F' : Nat → Prop} {w w1 w2 : World} (s : CStep b F F' w1 w2) (ho : w.heap.size ≤ w1.heap.size) (hF : ∀ k, F k → w.heap.size ≤ k) : ∀ k, F' k → w.heap.size ≤ k := fun k q => by
  rcases s.grow k q with q | q
  · exact hF k q
  · omega
theorem CStep.freshP {b : Nat} {F F' : Nat → Prop} {w w1 w2 : World} (s : CStep b F F' w1 w2) (ho : w.heap.size ≤ w1.heap.size) (hp : ∀ k, pown w1 b k → w.heap.size ≤ k) : ∀ k, pown w2 b k → w.heap.size ≤ k := fun k q => by
  rcases s.own k q with q | q
  · exact hp k q
  · omega
/-- A cursor over pages that are a law's own, beside a list: the world behind each move. -/
structure Hold (w0 w : World) (x b : Nat) (S : PSt) (root : Int) (l : List Item) (vh : Value) (c : Cur) (F : Nat → Prop) (k : Option Nat) : Prop where
  cur : CurAt w x b c F
  sits : Sits S root l c k
  only : Only (fun _ => False) w0 w
  fF : ∀ j, F j → w0.heap.size ≤ j
  fP : ∀ j, pown w b j → w0.heap.size ≤ j
  row : RowC itemC 3 w vh l
  apart : ∀ j, rowBlock vh = some j → j < w.heap.size ∧ ¬ F j ∧ ¬ pown w b j
variable {w0 w w' : World} {x b : Nat} {S : PSt} {root : Int} {l : List Item} {vh : Value} {c : Cur} {F : Nat → Prop} {k : Option Nat}
theorem Hold.still (H : Hold w0 w x b S root l vh c F k) (o : Only (fun _ => False) w w') : Hold w0 w' x b S root l vh c F k := by
  have hp : ∀ j, pown w' b j ↔ pown w b j := fun j => pown_of_heap (o.block b H.cur.lt.1 id) j
  exact ⟨H.cur.still o, H.sits, H.only.trans o (fun _ _ q => q), H.fF, fun j q => H.fP j ((hp j).1 q), H.row.only o (fun _ _ => id), fun j hj => ⟨Nat.lt_of_lt_of_le (H.apart j hj).1 o.size, (H.apart j hj).2.1, fun q => (H.apart j hj).2.2 ((hp j).1 q)⟩⟩
theorem Hold.step (H : Hold w0 w x b S root l vh c F k) {c' : Cur} {F' : Nat → Prop} {k' : Option Nat} (hc : CurAt w' x b c' F') (hs : Sits S root l c' k') (st : CStep b F F' w w') : Hold w0 w' x b S root l vh c' F' k' := by
  have hsz := H.only.size
  refine ⟨hc, hs, st.fresh H.only H.fF H.fP, st.freshF hsz H.fF, st.freshP hsz H.fP, H.row.only st.only fun j hj q => ?_, fun j hj => ⟨Nat.lt_of_lt_of_le (H.apart j hj).1 st.only.size, fun q => ?_, fun q => ?_⟩⟩
  · rcases q with q | q
    · exact (H.apart j hj).2.1 q
    · exact (H.apart j hj).2.2 q
  · rcases st.grow j q with q | q
    · exact (H.apart j hj).2.1 q
    · have := (H.apart j hj).1; omega
  · rcases st.own j q with q | q
    · exact (H.apart j hj).2.2 q
    · have := (H.apart j hj).1; omega

/-- How a call ends that moves a cursor over a law's own pages. -/
def HGoes (w0 w : World) (x b : Nat) (S : PSt) (root : Int) (l : List Item) (vh : Value) (F : Nat → Prop) (k : Option Nat) : Ending → World → Prop := fun e w' => e = .returned (.bool k.isSome) ∧ ∃ c' F', Hold w0 w' x b S root l vh c' F' k ∧ CStep b F F' w w'
section
variable (G : Grown S root l) (H : Hold w0 w x b S root l vh c F k)
include G H
theorem hold_seek (key : Bytes) : Calls Tryz.prog 29 #[.pointer (some ⟨x, 0, none⟩), str key] w (HGoes w0 w x b S root l vh F (skOf l key)) :=
  (goes_seek G w x b c F k H.cur H.sits key).mono fun _ _ ⟨c', F', h1, h2, h3, h4⟩ => ⟨h1, c', F', H.step h2 h3 h4, h4⟩
theorem hold_next : Calls Tryz.prog 34 #[.pointer (some ⟨x, 0, none⟩)] w (HGoes w0 w x b S root l vh F (nxtOf l k)) :=
  (goes_next G w x b c F k H.cur H.sits).mono fun _ _ ⟨c', F', h1, h2, h3, h4⟩ => ⟨h1, c', F', H.step h2 h3 h4, h4⟩
end
theorem hold_item (H : Hold w0 w x b S root l vh c F k) :
    Calls Tryz.prog 30 #[.pointer (some ⟨x, 0, none⟩)] w fun e w' => e = .returned (.tuple #[itemAt l k, .bool k.isSome]) ∧ Hold w0 w' x b S root l vh c F k :=
  (goes_item w x b c F k H.cur H.sits).mono fun _ _ ⟨h1, h2⟩ => ⟨h1, H.still h2⟩
theorem hold_err (H : Hold w0 w x b S root l vh c F k) :
    Calls Tryz.prog 31 #[.pointer (some ⟨x, 0, none⟩)] w fun e w' => e = .returned (.int .i64 0) ∧ w = w' :=
  (wErr_is w x b c F H.cur).mono fun _ _ ⟨h1, h2⟩ => ⟨by rw [h1, H.sits.e], h2⟩
end Go.Proofs.YtklccpaphkpgfaaGreat
