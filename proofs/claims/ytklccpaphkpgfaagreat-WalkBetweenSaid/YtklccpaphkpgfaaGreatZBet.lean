/- Plain laws: the items from a key on, below another one, as many as are asked for. No program in sight. -/
import Derived.Test.YtklccpaphkpgfaaGreatZPlainD
import Derived.Test.YtklccpaphkpgfaaGreatZLaw4
import Derived.WalkMore
namespace Go.Proofs.YtklccpaphkpgfaaGreat
open Go.RowKit

/-- Is an item below a key? (An empty one: any is.) -/
def belowK (to : Bytes) (x : Item) : Bool := to.isEmpty || Op.bytesLess x.key to
/-- The items from a key on, below another one, at most so many. -/
def betL (l : List Item) (from_ to : Bytes) (most : Int) : List Item := ((l.drop (findAt l from_)).takeWhile (belowK to)).take most.toNat
/-- How far the gathering is, and where the cursor is then. -/
def BetTo (l : List Item) (from_ to : Bytes) (most : Int) (k : Option Nat) (xs : List Item) : Prop := match k with
  | none => xs = betL l from_ to most
  | some p => xs = (l.drop (findAt l from_)).take xs.length ∧ (∀ x ∈ xs, belowK to x = true) ∧ p = findAt l from_ + xs.length ∧ (xs.length : Int) < most
theorem takeWhile_more {α : Type} (p : α → Bool) (A B : List α) (h : ∀ x ∈ A, p x = true) : (A ++ B).takeWhile p = A ++ B.takeWhile p := by
  induction A with
  | nil => rfl
  | cons a A ih =>
    rw [List.cons_append, List.takeWhile_cons, h a (by simp), if_pos rfl, ih fun x hx => h x (by simp [hx])]
    rfl
theorem betL_parts {l : List Item} {from_ to : Bytes} {most : Int} {xs : List Item} (h1 : xs = (l.drop (findAt l from_)).take xs.length) (h2 : ∀ x ∈ xs, belowK to x = true) : betL l from_ to most = (xs ++ ((l.drop (findAt l from_)).drop xs.length).takeWhile (belowK to)).take most.toNat := by
  unfold betL
  have e : l.drop (findAt l from_) = xs ++ (l.drop (findAt l from_)).drop xs.length := by
    have h3 := List.take_append_drop xs.length (l.drop (findAt l from_))
    rw [← h1] at h3
    exact h3.symm
  rw [← takeWhile_more _ _ _ h2, ← e]
theorem BetTo.none_start {l : List Item} {from_ to : Bytes} {most : Int} (h : most ≤ 0) : BetTo l from_ to most none [] := by
  show [] = betL l from_ to most
  unfold betL
  rw [show most.toNat = 0 by omega, List.take_zero]
theorem BetTo.seek {l : List Item} {from_ to : Bytes} {most : Int} (h : 0 < most) : BetTo l from_ to most (if findAt l from_ < l.length then some (findAt l from_) else none) [] := by
  by_cases hl : findAt l from_ < l.length
  · rw [if_pos hl]
    exact ⟨rfl, fun x hx => (by cases hx), rfl, h⟩
  · rw [if_neg hl]
    show [] = betL l from_ to most
    unfold betL
    rw [List.drop_eq_nil_of_le (by omega), List.takeWhile_nil, List.take_nil]
/-- The item is not below the other key. -/
theorem BetTo.stop {l : List Item} {from_ to : Bytes} {most : Int} {p : Nat} {xs : List Item} {x : Item} (h : BetTo l from_ to most (some p) xs) (hx : l[p]? = some x) (hb : belowK to x = false) : xs = betL l from_ to most := by
  obtain ⟨h1, h2, h3, h4⟩ := h
  rw [betL_parts h1 h2]
  have e : ((l.drop (findAt l from_)).drop xs.length).takeWhile (belowK to) = [] := by
    rw [List.drop_drop, ← h3]
    obtain ⟨hp, rfl⟩ := List.getElem?_eq_some_iff.1 hx
    rw [List.drop_eq_getElem_cons hp, List.takeWhile_cons, hb]
    rfl
  rw [e, List.append_nil, List.take_of_length_le (by omega)]
theorem BetTo.more {l : List Item} {from_ to : Bytes} {most : Int} {p : Nat} {xs : List Item} {x : Item} (h : BetTo l from_ to most (some p) xs) (hx : l[p]? = some x) (hb : belowK to x = true) :
    (most ≤ ((xs ++ [x]).length : Int) → xs ++ [x] = betL l from_ to most) ∧ (((xs ++ [x]).length : Int) < most → BetTo l from_ to most (if p + 1 < l.length then some (p + 1) else none) (xs ++ [x])) := by
  obtain ⟨h1, h2, h3, h4⟩ := h
  obtain ⟨hp, hpx⟩ := List.getElem?_eq_some_iff.1 hx
  have g1 : xs ++ [x] = (l.drop (findAt l from_)).take (xs ++ [x]).length := by
    rw [List.length_append, List.length_singleton, List.take_add_one, List.getElem?_drop, ← h3, hx, ← h1]
    rfl
  have g2 : ∀ y ∈ xs ++ [x], belowK to y = true := fun y hy => by
    rcases List.mem_append.1 hy with q | q
    · exact h2 y q
    · rw [List.mem_singleton.1 q]; exact hb
  have hpar := betL_parts (most := most) g1 g2
  refine ⟨fun hm => ?_, fun hm => ?_⟩
  · rw [hpar, List.take_append_of_le_length (by rw [List.length_append, List.length_singleton] at hm ⊢; omega), List.take_of_length_le (by rw [List.length_append, List.length_singleton]; omega)]
  · by_cases hl : p + 1 < l.length
    · rw [if_pos hl]
      exact ⟨g1, g2, by rw [List.length_append, List.length_singleton]; omega, hm⟩
    · rw [if_neg hl]
      show xs ++ [x] = betL l from_ to most
      rw [hpar]
      have e : (l.drop (findAt l from_)).drop (xs ++ [x]).length = [] := by
        rw [List.drop_drop]
        exact List.drop_eq_nil_of_le (by rw [List.length_append, List.length_singleton]; omega)
      rw [e, List.takeWhile_nil, List.append_nil, List.take_of_length_le (by omega)]

/-- The law's own list: one item after the other, those that are between. -/
def wantL (l : List Item) (from_ to : Bytes) (most : Int) : List Item := (l.filter fun x => !Op.bytesLess x.key from_ && belowK to x).take most.toNat
theorem wantL_is {l : List Item} (hr : Rising l) (from_ to : Bytes) (most : Int) : wantL l from_ to most = betL l from_ to most := by
  unfold wantL betL
  congr 1
  have ha := ahead_behind l from_
  have e1 : l.drop (findAt l from_) = behind l from_ := drop_find l from_
  rw [e1]
  have hb := behind_ge hr from_
  have hl := ahead_lt l from_
  have hbr : Rising (behind l from_) := by
    have h2 := hr
    unfold Rising at h2 ⊢
    rw [← ha, List.pairwise_append] at h2
    exact h2.2.1
  have f1 : (ahead l from_).filter (fun x => !Op.bytesLess x.key from_ && belowK to x) = [] := by
    rw [List.filter_eq_nil_iff]
    intro x hx
    have hxl : x.key < from_ := hl x hx
    have q : Op.bytesLess x.key from_ = true := by rw [bytesLess_eq]; exact decide_eq_true hxl
    rw [q]; simp
  have f2 : ∀ B : List Item, Rising B → (∀ x ∈ B, ¬ x.key < from_) → B.filter (fun x => !Op.bytesLess x.key from_ && belowK to x) = B.takeWhile (belowK to) := by
    intro B
    induction B with
    | nil => intro _ _; rfl
    | cons b B ih =>
      intro hB hge
      unfold Rising at hB
      rw [List.pairwise_cons] at hB
      have q : Op.bytesLess b.key from_ = false := by rw [bytesLess_eq]; exact decide_eq_false (hge b (by simp))
      rw [List.filter_cons, List.takeWhile_cons, q]
      by_cases hbb : belowK to b = true
      · rw [hbb]
        simp only [Bool.not_false, Bool.and_self, if_true]
        rw [ih hB.2 fun x hx => hge x (by simp [hx])]
      · have hbf : belowK to b = false := by simpa using hbb
        rw [hbf]
        simp only [Bool.and_false, Bool.false_eq_true, if_false]
        rw [List.filter_eq_nil_iff]
        intro x hx
        have hlt : b.key < x.key := hB.1 x hx
        have hx3 : belowK to x = false := by
          unfold belowK at hbf ⊢
          rw [Bool.or_eq_false_iff] at hbf
          have h4 := hbf.2
          rw [bytesLess_eq] at h4
          have h2 := of_decide_eq_false h4
          have h3 : ¬ x.key < to := fun q => h2 (List.lt_trans hlt q)
          rw [hbf.1, bytesLess_eq, decide_eq_false h3]
          rfl
        rw [hx3]
        simp
  have e2 := congrArg (List.filter (fun x => !Op.bytesLess x.key from_ && belowK to x)) ha
  rw [List.filter_append, f1, List.nil_append] at e2
  rw [← e2]
  exact f2 _ hbr hb
end Go.Proofs.YtklccpaphkpgfaaGreat

namespace Go.Proofs.YtklccpaphkpgfaaGreat
open Go.RowKit

/-- How the gathering stands: the cursor, beside it the row that is told. -/
structure BetAt (w wr : World) (x b : Nat) (S : PSt) (root : Int) (l : List Item) (k : Option Nat) (v : Value) (xs : List Item) : Prop where
  cur : ∃ c F, CurAt wr x b c F ∧ Sits S root l c k ∧ (∀ j, F j → w.heap.size ≤ j) ∧ (∀ j, v.ownBlock = some j → ¬ F j)
  step : PStep b w wr
  own : wr.ownsRow 0 29 3 v xs.length (xs.flatMap itemC)
  new : ∀ j, v.ownBlock = some j → w.heap.size ≤ j ∧ ¬ pown wr b j
section
variable {w wr w' : World} {x b : Nat} {S : PSt} {root : Int} {l : List Item} {k k' : Option Nat} {v v' : Value} {xs : List Item}
theorem BetAt.still (H : BetAt w wr x b S root l k v xs) (ho : Only (fun _ => False) wr w') : BetAt w w' x b S root l k v xs := by
  obtain ⟨c, F, h1, h2, h3, h4⟩ := H.cur
  exact ⟨⟨c, F, h1.still ho, h2, h3, h4⟩, H.step.trans (PStep.still h1.lt.1 ho), own_only H.own ho (fun _ _ => id), fun j hj => ⟨(H.new j hj).1, fun q => (H.new j hj).2 ((pown_of_heap (ho.block b h1.lt.1 id) j).1 q)⟩⟩
theorem BetAt.start (hp : PagesAt w b S) (h1 : CurAt wr x b ⟨S, root, [], 0⟩ (fun j => j = w.heap.size)) (h2 : Sits S root l ⟨S, root, [], 0⟩ none) (ho : Only (fun _ => False) w wr) : BetAt w wr x b S root l none (.slice none 0 0) [] :=
  ⟨⟨_, _, h1, h2, fun j q => by rw [q]; exact Nat.le_refl _, fun j q => by simp [Value.ownBlock] at q⟩, PStep.still hp.lt ho, ⟨rfl, .inl ⟨rfl, rfl⟩⟩, fun j q => by simp [Value.ownBlock] at q⟩
/-- A move of the cursor. -/
theorem BetAt.move (H : BetAt w wr x b S root l k v xs) {c c' : Cur} {F F' : Nat → Prop} (_ : CurAt wr x b c F) (h3 : ∀ j, F j → w.heap.size ≤ j) (h4 : ∀ j, v.ownBlock = some j → ¬ F j) (hc : CurAt w' x b c' F') (hs : Sits S root l c' k') (C : CStep b F F' wr w') : BetAt w w' x b S root l k' v xs := by
  have hsz := H.step.only.size
  refine ⟨⟨c', F', hc, hs, fun j q => ?_, fun j hj q => ?_⟩, ⟨H.step.only.trans C.only fun i hi q => ?_, fun j q => ?_⟩, own_only H.own C.only (fun j hj q => ?_), fun j hj => ⟨(H.new j hj).1, fun q => ?_⟩⟩
  · rcases C.grow j q with q | q
    · exact h3 j q
    · omega
  · rcases C.grow j q with q | q
    · exact h4 j hj q
    · have := (H.own.lt j hj).2; omega
  · rcases q with q | q
    · have := h3 i q; omega
    · exact (H.step.own i q).resolve_right (by omega)
  · rcases C.own j q with q | q
    · exact H.step.own j q
    · exact .inr (by omega)
  · rcases q with q | q
    · exact h4 j hj q
    · exact (H.new j hj).2 q
  · rcases C.own j q with q | q
    · exact (H.new j hj).2 q
    · have := (H.own.lt j hj).2; omega
/-- The row has grown. -/
theorem BetAt.grow {wa : World} (H : BetAt w wr x b S root l k v xs) (ho : Only (fun _ => False) wr wa) (y : Item) {a' : Option Addr} {c' : Nat} {W : World} (hown : W.ownsRow 0 29 3 (.slice a' (xs.length + 1) c') (xs.length + 1) (xs.flatMap itemC ++ itemC y)) (hg : Only (fun j => v.ownBlock = some j) wa W) (hmv : ∀ j, (Value.slice a' (xs.length + 1) c').ownBlock = some j → v.ownBlock = some j ∨ wr.heap.size ≤ j) : BetAt w W x b S root l k (.slice a' (xs.length + 1) c') (xs ++ [y]) := by
  obtain ⟨c, F, ⟨vS, vs, hI0⟩, h2, h3, h4⟩ := H.cur
  have HS := H.still ho
  have hI := hI0.still ho
  have hb : ¬ v.ownBlock = some b := fun e => (HS.new b e).2 (.inl rfl)
  have hp : W.heap[b]? = wa.heap[b]? := hg.block b hI.pages.lt hb
  have hpw : ∀ j, pown W b j ↔ pown wa b j := fun j => pown_of_heap hp j
  have hpw0 : ∀ j, pown W b j → pown wr b j := fun j q => (pown_of_heap (ho.block b hI0.pages.lt id) j).1 ((hpw j).1 q)
  have hsz := H.step.only.size
  have hso := ho.size
  obtain ⟨vL, vG, hP⟩ := hI.pages
  have hP2 : PagesAt W b c.p := ⟨vL, vG, hP.beside hg fun j q e => (HS.new j e).2 q⟩
  refine ⟨⟨c, F, ⟨vS, vs, hI.beside hg (fun j q e => h4 j e q) hP2 (fun j q => .inl ((hpw j).1 q))⟩, h2, h3, fun j hj q => ?_⟩, ⟨HS.step.only.trans hg fun i hi e => ?_, fun j q => HS.step.own j ((hpw j).1 q)⟩, ?_, fun j hj => ⟨?_, fun q => ?_⟩⟩
  · rcases hmv j hj with e | e
    · exact h4 j e q
    · have := hI0.small j q
      omega
  · have := (HS.new i e).1; omega
  · have e1 : (xs ++ [y]).length = xs.length + 1 := by simp
    have e2 : (xs ++ [y]).flatMap itemC = xs.flatMap itemC ++ itemC y := by simp
    rw [e1, e2]; exact hown
  · rcases hmv j hj with e | e
    · exact (HS.new j e).1
    · omega
  · rcases hmv j hj with e | e
    · exact (HS.new j e).2 ((hpw j).1 q)
    · have := pown_lt hI0.pages (hpw0 j q)
      omega
end
/-- How the call ends. -/
def BetTold (w : World) (b : Nat) (S : PSt) (m : List Item) : Ending → World → Prop := fun e w' => ∃ v, e = .returned (.tuple #[v, .int .i64 0]) ∧ RowC itemC 3 w' v m ∧ w'.ownsRow 0 29 3 v m.length (m.flatMap itemC) ∧ PagesAt w' b S ∧ PStep b w w' ∧ ∀ j, v.ownBlock = some j → w.heap.size ≤ j ∧ ¬ pown w' b j
theorem BetAt.told {w wr : World} {x b : Nat} {S : PSt} {root : Int} {l : List Item} {k : Option Nat} {v : Value} {xs : List Item} (H : BetAt w wr x b S root l k v xs) {m : List Item} (hm : xs = m) : BetTold w b S m (.returned (.tuple #[v, .int .i64 0])) wr := by
  subst hm
  obtain ⟨c, F, ⟨vS, vs, hI⟩, h2, h3, h4⟩ := H.cur
  exact ⟨v, rfl, ⟨row_own (fun _ => rfl) H.own, cap_own H.own⟩, H.own, by have := hI.pages; rwa [h2.p] at this, H.step, H.new⟩
/-- The cursor's error: none. -/
theorem BetAt.err {w wr : World} {x b : Nat} {S : PSt} {root : Int} {l : List Item} {k : Option Nat} {v : Value} {xs : List Item} (H : BetAt w wr x b S root l k v xs) : wr.cell? ⟨x, 3, none⟩ = some (.int .i64 0) := by
  obtain ⟨c, F, ⟨vS, vs, hI⟩, h2, h3, h4⟩ := H.cur
  have c3 := heap_cell hI.heap 3
  simp only [List.getElem?_toArray, List.getElem?_cons_zero, List.getElem?_cons_succ] at c3
  rw [c3, h2.e]

set_option maxRecDepth 100000 in
set_option maxHeartbeats 8000000 in
theorem Bet_is (w : World) (b : Nat) (S : PSt) (root : Int) (l : List Item) (from_ to : Bytes) (most : Int) (h : PagesAt w b S) (G : Grown S root l) :
    Calls Tryz.prog 10 #[pagesV b, .int .i64 root, str from_, str to, .int .i64 most] w (BetTold w b S (betL l from_ to most)) := by
  obtain ⟨i0, hi, hz0, hz1, hz2⟩ := info_parts itemInfo
  have HON := Lib.hid (goes_on w b S root l h)
  have HP := Lib.hid h
  have hlen := G.few
  clear h
  unfold pagesV at HON ⊢
  go_enter Tryz.func10, Tryz.ntmps10
  go_wp2_with fail
  go_step3
  go_wp2_with fail
  (with_reducible refine HON.out.mono ?_)
  rintro e w1 ⟨rfl, hc1, hs1, ho1⟩
  have HB1 := Lib.hid (BetAt.start HP.out hc1 hs1 ho1)
  generalize hx : w.heap.size = x at *
  have HXS := Lib.hid hx
  clear hc1 hs1 ho1 HON hx
  by_cases hm : most ≤ 0
  · have hm1 : ¬ 0 < most := by omega
    have HD := Lib.hid (BetTo.none_start (l := l) (from_ := from_) (to := to) hm)
    have c3 := HB1.out.err
    go_wp2_with fail
    go_step3
    go_wp2_with fail
    go_loopg [13, 14] 0 (fun _ ov iv wr => ov = .slice none 0 0 ∧ iv = .bool false ∧ wr = w1)
    case atStart => exact ⟨rfl, rfl, rfl⟩
    case round =>
      obtain ⟨rfl, rfl, rfl⟩ := hrel
      go_wp2_with fail
      try rw [Exit.noGoto_ret]
      go_ret2
      exact HB1.out.told HD.out
  · have hm1 : 0 < most := by omega
    obtain ⟨c, F, h1, h2, h3, h4⟩ := HB1.out.cur
    have HSK := Lib.hid (goes_seek G w1 x b c F none h1 h2 from_)
    have HC := Lib.hid (And.intro h1 (And.intro h3 h4))
    have HGR := Lib.hid G
    clear h1 h2 h3 h4 G
    unfold Goes at HSK
    go_wp2_with fail
    go_step3
    go_wp2_with fail
    (with_reducible refine HSK.out.mono ?_)
    rintro e w2 ⟨c', F', rfl, hc2, hs2, st2⟩
    have HB2 := Lib.hid (HB1.out.move HC.out.1 HC.out.2.1 HC.out.2.2 hc2 hs2 st2)
    have HT2 : Hid (BetTo l from_ to most (skOf l from_) []) := Lib.hid (BetTo.seek hm1)
    clear hc2 hs2 st2 HSK HC HB1
    generalize skOf l from_ = k0 at *
    go_wp2_with fail
    go_loopg [13, 14] l.length (fun gh ov iv wr => ∃ (kk : Option Nat) (xs : List Item), iv = .bool kk.isSome ∧ BetAt w wr x b S root l kk ov xs ∧ BetTo l from_ to most kk xs ∧ ∀ p, kk = some p → l.length ≤ gh + p)
    case atStart => exact ⟨k0, [], rfl, HB2.out, HT2.out, fun p _ => by omega⟩
    case round =>
      obtain ⟨kk, xs, rfl, hb, ht, hgh⟩ := hrel
      have c3 := hb.err
      obtain ⟨aO, cO, rfl⟩ := ownsRow_form hb.own
      have HB := Lib.hid hb
      have HT := Lib.hid ht
      clear hb ht HB2 HT2
      cases kk with
      | none =>
        clear hgh
        simp only [Option.isSome_none]
        go_wp2_with fail
        try rw [Exit.noGoto_ret]
        go_ret2
        exact HB.out.told HT.out
      | some p =>
        have hgh2 := hgh p rfl
        obtain ⟨c, F, h1, h2, h3, h4⟩ := HB.out.cur
        have hpl := h2.lt
        obtain ⟨y, hy⟩ : ∃ y, l[p]? = some y := ⟨_, List.getElem?_eq_getElem hpl⟩
        have hit := goes_item wr x b c F (some p) h1 h2
        have e2 : itemAt l (some p) = .agg #[str y.key, str y.val, .int .i64 y.kind] := by unfold itemAt; simp only [Option.bind_some, hy]; rfl
        rw [e2] at hit
        simp only [Option.isSome_some] at hit ⊢
        have HIT := Lib.hid hit
        have HY := Lib.hid hy
        clear hit e2 hgh h1 h2 h3 h4 hy c3
        go_wp2_with fail
        (with_reducible refine HIT.out.mono ?_)
        rintro e w4 ⟨rfl, o4⟩
        have oA := (Only.refl (fun _ => False) w4).alloc (.cells #[str y.key, str y.val, .int .i64 y.kind] 29)
        have HB4 := Lib.hid ((HB.out.still o4).still oA)
        have hN := heap_alloc_new w4 (.cells #[str y.key, str y.val, .int .i64 y.kind] 29)
        have n0 := heap_cell hN 0
        have n1 := heap_cell hN 1
        have n2 := heap_cell hN 2
        simp only [List.getElem?_toArray, List.getElem?_cons_zero, List.getElem?_cons_succ] at n0 n1 n2
        clear HIT o4 oA hN
        by_cases hbk : belowK to y = true
        · have hAB : (to.isEmpty = true ∧ True) ∨ (to.isEmpty = false ∧ Op.bytesLess y.key to = true) := by
            unfold belowK at hbk
            rw [Bool.or_eq_true] at hbk
            cases hie : to.isEmpty with
            | true => exact .inl ⟨rfl, trivial⟩
            | false => exact .inr ⟨rfl, hbk.resolve_left (by rw [hie]; simp)⟩
          have HMO := Lib.hid (HT.out.more HY.out hbk)
          have HOWN := Lib.hid (HB4.out.own.alloc (.cells #[str y.key, str y.val, .int .i64 y.kind] 29))
          have HCE : Hid (∀ (j : Nat) (u : Value), (itemC y)[j]? = some u → ((w4.alloc (.cells #[str y.key, str y.val, .int .i64 y.kind] 29)).alloc (.cells #[str y.key, str y.val, .int .i64 y.kind] 29)).cell? ((⟨w4.heap.size + 1, 0, none⟩ : Addr).add j) = some u) := Lib.hid (by
            have := cells_new (w4.alloc (.cells #[str y.key, str y.val, .int .i64 y.kind] 29)) (itemC y) 29 (0, 0)
            rw [World.size_alloc] at this
            exact this)
          have hxs : xs.length ≤ l.length := by
            have h5 := congrArg List.length HT.out.1
            rw [List.length_take, List.length_drop] at h5
            omega
          have hmax : xs.length + 1 ≤ maxLen := by unfold maxLen; omega
          have hby : (xs.length + 1) * 40 ≤ 140737488355328 := by omega
          clear hbk hxs
          by_cases hfull : most ≤ (xs.length : Int) + 1
          · rcases hAB with ⟨hie, hbl⟩ | ⟨hie, hbl⟩
            all_goals
              go_wp2_with (at_builtin; refine wpList_append_moved _ rfl _ _ 22 rfl 29 i0 _ 3 40 Tryz.underlying22 hi hz0 hz1 hz2 rfl (by decide) _ _ _ rfl HOWN.out ⟨w4.heap.size + 1, 0, none⟩ 1 1 (itemC y) rfl rfl HCE.out (itemC_one y) hmax hby ?_; intro a' c' wx hown2 hgr hmv; have HG := Lib.hid (HB4.out.grow ((Only.refl (fun _ => False) _).alloc (.cells #[str y.key, str y.val, .int .i64 y.kind] 29)) y hown2 ((Only.refl _ _).grown hgr (fun _ _ e => e)) (fun j e => (hmv j e).imp (fun q => q) fun q => by simp only [World.size_alloc] at q ⊢; omega)); have c3 := HG.out.err; clear hown2 hgr hmv)
              all_goals
                try rw [Exit.noGoto_ret]
                go_ret2
                exact HG.out.told (HMO.out.1 (by rw [List.length_append, List.length_singleton]; omega))
          · have hnf : ¬ most ≤ ((xs.length + 1 : Nat) : Int) := by omega
            rcases hAB with ⟨hie, hbl⟩ | ⟨hie, hbl⟩
            all_goals
              go_wp2_with (at_builtin; refine wpList_append_moved _ rfl _ _ 22 rfl 29 i0 _ 3 40 Tryz.underlying22 hi hz0 hz1 hz2 rfl (by decide) _ _ _ rfl HOWN.out ⟨w4.heap.size + 1, 0, none⟩ 1 1 (itemC y) rfl rfl HCE.out (itemC_one y) hmax hby ?_; intro a' c' wx hown2 hgr hmv; have HG := Lib.hid (HB4.out.grow ((Only.refl (fun _ => False) _).alloc (.cells #[str y.key, str y.val, .int .i64 y.kind] 29)) y hown2 ((Only.refl _ _).grown hgr (fun _ _ e => e)) (fun j e => (hmv j e).imp (fun q => q) fun q => by simp only [World.size_alloc] at q ⊢; omega)); clear hown2 hgr hmv)
              obtain ⟨c, F, h1, h2, h3, h4⟩ := HG.out.cur
              have HNX := Lib.hid (goes_next HGR.out _ x b c F (some p) h1 h2)
              have HC := Lib.hid (And.intro h1 (And.intro h3 h4))
              clear h1 h2 h3 h4
              unfold Goes at HNX
              (with_reducible refine HNX.out.mono ?_)
              rintro e w6 ⟨c', F', rfl, hc2, hs2, st2⟩
              have HB6 := Lib.hid (HG.out.move HC.out.1 HC.out.2.1 HC.out.2.2 hc2 hs2 st2)
              clear hc2 hs2 st2 HNX HC
              go_wp2_with fail
              go_roundg (gk - 1)
              case measure => omega
              case rel => exact ⟨nxtOf l (some p), xs ++ [y], rfl, HB6.out, HMO.out.2 (by rw [List.length_append, List.length_singleton]; omega), fun p' hp' => by
                unfold nxtOf at hp'
                simp only at hp'
                split at hp'
                · cases hp'; omega
                · cases hp'⟩
        · have hbf : belowK to y = false := by simpa using hbk
          have hie : to.isEmpty = false := by unfold belowK at hbf; rw [Bool.or_eq_false_iff] at hbf; exact hbf.1
          have hbl : Op.bytesLess y.key to = false := by unfold belowK at hbf; rw [Bool.or_eq_false_iff] at hbf; exact hbf.2
          have HD := Lib.hid (HT.out.stop HY.out hbf)
          have c3 := HB4.out.err
          clear hbk hbf
          go_wp2_with fail
          try rw [Exit.noGoto_ret]
          go_ret2
          exact HB4.out.told HD.out
end Go.Proofs.YtklccpaphkpgfaaGreat
