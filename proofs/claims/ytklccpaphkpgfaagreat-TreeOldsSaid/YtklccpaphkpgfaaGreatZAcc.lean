/- The document's own list of numbers: is one in it? Conditions: one goroutine; the list lies in memory; it is short. -/
import Derived.Test.YtklccpaphkpgfaaGreatZTree3
import Derived.Test.YtklccpaphkpgfaaGreatZSame
import Derived.Test.YtklccpaphkpgfaaGreatZPages
import Derived.BigRegion
import Derived.Test.YtklccpaphkpgfaaGreatZLight12
import Derived.Test.YtklccpaphkpgfaaGreatZAct12
import Derived.Test.YtklccpaphkpgfaaGreatZPlain14
namespace Go.Proofs.YtklccpaphkpgfaaGreat
open Go.RowKit

set_option maxRecDepth 100000 in
set_option maxHeartbeats 2000000 in
theorem In_is (w : World) (v : Value) (l : List Int) (id : Int) (h : RowAt intE 1 w v l) (hn : l.length ≤ 1000000) : Calls Tryz.prog 21 #[v, .int .i64 id] w fun e w' => e = .returned (.bool (decide (id ∈ l))) ∧ Only (fun _ => False) w w' := by
  obtain ⟨a1, c1, rfl⟩ : ∃ a c, v = .slice a l.length c := by cases h with
    | none => exact ⟨_, _, rfl⟩
    | some g off cap => exact ⟨_, _, rfl⟩
  have HA := Lib.hid h
  clear h
  go_enter Tryz.func21, Tryz.ntmps21
  go_wp2_with fail
  go_loopg [5] l.length (fun gh iv wr => ∃ k : Nat, gh + k = l.length ∧ iv = .int .i64 k ∧ Only (fun _ => False) w wr ∧ id ∉ l.take k)
  case atStart => exact ⟨0, by omega, rfl, Only.refl _ w, by simp⟩
  case round =>
    obtain ⟨k, hgk, rfl, ho, hne⟩ := hrel
    have HO := Lib.hid ho
    have HNE := Lib.hid hne
    clear ho hne
    by_cases hk : k < l.length
    · have hk1 : (k : Int) < (l.length : Int) := by omega
      have hk0 : (0 : Int) ≤ (k : Int) := by omega
      obtain ⟨x, hx⟩ : ∃ x, l[k]? = some x := ⟨_, List.getElem?_eq_getElem hk⟩
      obtain ⟨g1, off1, rfl, i0⟩ := row_int (row_only HA.out HO.out (fun _ _ q => q)) hx
      have hw1 : IntKind.i64.wrap ((k : Int) + 1) = (k : Int) + 1 := by exact IntWalk.i64_in _ (by omega)
      have HX := Lib.hid hx
      clear hx
      by_cases hxi : x = id
      · subst hxi
        have HIN : Hid (decide (x ∈ l) = true) := Lib.hid (decide_eq_true (List.mem_of_getElem? HX.out))
        go_wp2_with fail
        go_ret
        exact ⟨by rw [HIN.out]; rfl, HO.out⟩
      · have hd : (x == id) = false := by simpa using hxi
        have HND : Hid (id ∉ l.take (k + 1)) := Lib.hid (by
          rw [List.take_add_one, HX.out]
          intro q
          rcases List.mem_append.1 q with q | q
          · exact HNE.out q
          · rw [Option.toList_some, List.mem_singleton] at q
            exact hxi q.symm)
        go_wp2_with fail
        go_roundg (gk - 1)
        case measure => omega
        case rel => exact ⟨k + 1, by omega, by go_num, HO.out, HND.out⟩
    · obtain rfl : k = l.length := by omega
      have hk1 : ¬ (l.length : Int) < (l.length : Int) := by omega
      have HIN : Hid (decide (id ∈ l) = false) := Lib.hid (decide_eq_false (by have := HNE.out; rwa [List.take_length] at this))
      go_wp2_with fail
      go_ret
      exact ⟨by rw [HIN.out]; rfl, HO.out⟩
end Go.Proofs.YtklccpaphkpgfaaGreat

namespace Go.Proofs.YtklccpaphkpgfaaGreat
open Go.RowKit

set_option maxRecDepth 100000 in
set_option maxHeartbeats 2000000 in
theorem PMark_is (w : World) (b : Nat) (S : PSt) (h : PagesAt w b S) :
    Calls Tryz.prog 20 #[.pointer (some ⟨b, 0, none⟩)] w fun e w' => e = .returned (.tuple #[]) ∧ PagesAt w' b { S with mine := (S.L.length : Int) + 2, given := [] } ∧ PStep b w w' := by
  obtain ⟨vL, vG, h⟩ := h
  have hlen := h.few
  obtain ⟨aL, cL, rfl⟩ := ownsRow_form h.rowL
  have c0 := heap_cell h.heap 0
  have c1 := heap_cell h.heap 1
  have c2 := heap_cell h.heap 2
  have z1 := heap_frozen h.heap 1
  have z2 := heap_frozen h.heap 2
  simp only [List.getElem?_toArray, List.getElem?_cons_zero, List.getElem?_cons_succ] at c0 c1 c2
  have hw1 : IntKind.i64.wrap ((S.L.length : Int) + 2) = (S.L.length : Int) + 2 := by exact IntWalk.i64_in _ (by omega)
  have HP := Lib.hid h
  clear h
  go_enter Tryz.func20, Tryz.ntmps20
  go_wp2_with fail
  have h := HP.out
  have hh := heap_setCell (heap_setCell h.heap 1 (.int .i64 ((S.L.length : Int) + 2))) 2 (.slice none 0 0)
  have hI : PagesIn ((w.setCell ⟨b, 1, none⟩ (.int .i64 ((S.L.length : Int) + 2))).setCell ⟨b, 2, none⟩ (.slice none 0 0)) b { S with mine := (S.L.length : Int) + 2, given := [] } (.slice aL S.L.length cL) (.slice none 0 0) :=
    ⟨hh, own_store (own_store h.rowL h.neL 1 _) h.neL 2 _, ⟨rfl, .inl ⟨rfl, rfl⟩⟩, h.neL, (by simp [Value.ownBlock]), (fun _ _ => by simp [Value.ownBlock]), h.sound, h.few, ⟨by simp only; omega, by simp only; omega⟩, h.stop, by simp⟩
  refine bodyPost_end (results_none Tryz.results20 _ _ _) rfl ⟨rfl, ⟨_, _, hI⟩, ((Only.refl (pown w b) w).put b 1 (.inl rfl) _).put b 2 (.inl rfl) _, fun k q => ?_⟩
  rw [h.pown_iff]
  rcases (hI.pown_iff k).1 q with q | q | q
  · exact .inl (.inl q)
  · exact .inl (.inr (.inl q))
  · simp [Value.ownBlock] at q
end Go.Proofs.YtklccpaphkpgfaaGreat

namespace Go.Proofs.YtklccpaphkpgfaaGreat
open Go.RowKit

theorem build_act (d : Int) (a b : ByteArray) (n : Int) (w : World) : (Instr.build 53 #[(0, .int .i64 d), (1, .agg #[.string a, .string b, .int .i64 n])]).run Tryz.prog w = .ok (.agg #[.int .i64 d, .string a, .string b, .int .i64 n]) w := by kernel_rfl
/-- An act is built out of an item. -/
theorem wpList_build_act (w : World) {ops : Array Oper} {rest : List Oper} {o : Oper} {a : Act} {Q : Exit → Act → World → Prop} (hgd : o.guard = none) (d : Int) (x : Operand) (ho : o.op = .build 53 #[(0, .const (.int .i64 d)), (1, x)]) (y : Item) (hx : a.eval x = itemV y)
    (h : wpList Tryz.prog ops Q rest (a.put o.dst (.agg #[.int .i64 d, str y.key, str y.val, .int .i64 y.kind])) w) : wpList Tryz.prog ops Q (o :: rest) a w := by
  refine wpList_plain hgd fun K hK => ?_
  have hb := build_act d ⟨y.key.toArray⟩ ⟨y.val.toArray⟩ y.kind w
  have h1 : a.eval (.const (.int .i64 d)) = .int .i64 d := rfl
  have h2 : a.eval x = .agg #[.string ⟨y.key.toArray⟩, .string ⟨y.val.toArray⟩, .int .i64 y.kind] := hx
  unfold Oper.wp execOp
  simp only [ho, List.map_toArray, List.map_cons, List.map_nil, h1, h2, Sem.run_bind, hb, Result.andThen_ok]
  exact hK _ _ h
end Go.Proofs.YtklccpaphkpgfaaGreat

namespace Go.Proofs.YtklccpaphkpgfaaGreat
open Go.RowKit

/-- What an act leaves. -/
theorem act_moved {S : PSt} {root : Int} {h : List Item} {k : Nat} {ids : List Int} (H : PlaysTo S root h k) (R : Rooted S.L root h ids) (hk : k < 250) (x : Do) :
    ∃ ids', Rooted (actP S root x).2.L (actP S root x).1 (actL h x) ids' ∧ ∃ few, Moved2 S ids (actP S root x).2 ids' few := by
  obtain ⟨m, m1, m2, m3, m4⟩ := roomOf_next hk
  have hl := H.len
  have hf := H.few
  have hs := H.stop
  unfold actP actL
  by_cases h2 : x.kind = 2
  · rw [if_pos h2, if_pos h2]
    rcases delTree_is S root h ids x.item.key R (by omega) m (by omega) (by omega) (by omega) with ⟨h1, h2⟩ | ⟨h1, r, p', ids', h2, h3, M⟩
    · rw [h2]
      refine ⟨ids, ?_, 0, Moved2.refl S ids⟩
      have e : (dropL h x.item.key).1 = h := by
        rw [dropL_cut] at h1 ⊢
        split at h1
        · cases h1
        · rename_i q; rw [if_neg q]
      rw [e]
      exact R
    · rw [h2]
      exact ⟨ids', h3, _, M⟩
  · rw [if_neg h2, if_neg h2]
    by_cases ho : okItem x.item = true
    · rw [if_pos ho, if_pos ho]
      obtain ⟨r, p', ids', h1, h3, _, M⟩ := putTree_is S root h ids x.item ho R (by omega) m (by omega) (by omega) (by omega)
      rw [h1]
      exact ⟨ids', h3, _, M⟩
    · rw [if_neg ho, if_neg ho]
      exact ⟨ids, R, 0, Moved2.refl S ids⟩
theorem Moved2.apart {p p' : PSt} {ids ids' : List Int} {few : Nat} (M : Moved2 p ids p' ids' few) (hg : ∀ j ∈ ids, j ∉ p.given) (ht : ∀ j ∈ p.given, j < (p.L.length : Int) + 2) : ∀ j ∈ ids', j ∉ p'.given := by
  obtain ⟨gs, g1, g2, g3⟩ := M.gone
  intro j hj q
  rw [g1] at q
  rcases List.mem_append.1 q with q | q
  · rcases M.new j hj with k | k
    · exact hg j k q
    · have := ht j q
      omega
  · exact ((g2 j).1 q).2 hj
/-- A mark: nothing was given back, nothing is its own any more. -/
def markP (S : PSt) : PSt := { S with mine := (S.L.length : Int) + 2, given := [] }
theorem plays_mark0 {p : PSt} {root : Int} {l : List Item} {i : Nat} (h : PlaysTo p root l i) : PlaysTo (markP p) root l i := by
  obtain ⟨ids, R, hg⟩ := h.rooted
  exact ⟨⟨ids, R, fun j hj q => by cases q⟩, h.right, h.len, h.few, by simp [markP], (fun j hj => by cases hj), h.stop, h.bad, h.twice⟩

/-- What became of the pages of an old tree since a mark. -/
structure Since (S0 : PSt) (ids0 : List Int) (S : PSt) (ids : List Int) : Prop where
  same : ∀ j : Int, j < (S0.L.length : Int) + 2 → nodeAt S.L j = nodeAt S0.L j
  grow : S0.L.length ≤ S.L.length
  mine : S.mine = (S0.L.length : Int) + 2
  keep : ∀ j ∈ ids0, j ∈ ids ∨ j ∈ S.given
  new : ∀ j ∈ ids, j ∈ ids0 ∨ (S0.L.length : Int) + 2 ≤ j
  apart : ∀ j ∈ ids, j ∉ S.given
theorem Since.start {S : PSt} {ids : List Int} (hm : S.mine = (S.L.length : Int) + 2) (hg : S.given = []) : Since S ids S ids :=
  ⟨fun _ _ => rfl, Nat.le_refl _, hm, fun _ h => .inl h, fun _ h => .inl h, fun _ _ q => by rw [hg] at q; cases q⟩
theorem Since.step {S0 S S' : PSt} {ids0 ids ids' : List Int} {few : Nat} (H : Since S0 ids0 S ids) (M : Moved2 S ids S' ids' few) (ht : ∀ j ∈ S.given, j < (S.L.length : Int) + 2) : Since S0 ids0 S' ids' := by
  have hgr := H.grow
  have hm := H.mine
  obtain ⟨gs, g1, g2, g3⟩ := M.gone
  refine ⟨fun j hj => (M.other j (by omega) (.inr ?_)).trans (H.same j hj), Nat.le_trans hgr M.grow, M.mine.trans hm, fun j hj => ?_, fun j hj => ?_, M.apart H.apart ht⟩
  · unfold isMine
    rw [decide_eq_false_iff_not]
    rintro ⟨q, _⟩
    omega
  · rcases H.keep j hj with q | q
    · by_cases hj' : j ∈ ids'
      · exact .inl hj'
      · exact .inr (by rw [g1]; exact List.mem_append_right _ ((g2 j).2 ⟨q, hj'⟩))
    · exact .inr (by rw [g1]; exact List.mem_append_left _ q)
  · rcases M.new j hj with q | q
    · exact H.new j q
    · exact .inr (by omega)
theorem Rooted.since {S0 S : PSt} {ids0 ids : List Int} {root : Int} {l : List Item} (H : Since S0 ids0 S ids) (R : Rooted S0.L root l ids0) : Rooted S.L root l ids0 := by
  have ht := R.there
  cases R with
  | none => exact .none
  | some n _ b _ _ T => exact .some n root b l ids0 (T.keep fun j hj => H.same j (ht j hj).2)

/-- Each page that was ever made is in the tree, or was given back, once. -/
structure Counted (S : PSt) (ids : List Int) : Prop where
  all : ∀ j : Int, 2 ≤ j → j < (S.L.length : Int) + 2 → j ∈ ids ∨ j ∈ S.given
  nd : S.given.Nodup
  range : ∀ j ∈ S.given, 2 ≤ j ∧ j < (S.L.length : Int) + 2
  apart : ∀ j ∈ ids, j ∉ S.given
theorem Counted.step {S S' : PSt} {ids ids' : List Int} {few : Nat} (H : Counted S ids) (M : Moved2 S ids S' ids' few) (hr : ∀ j ∈ ids, 2 ≤ j ∧ j < (S.L.length : Int) + 2) : Counted S' ids' := by
  have hgr := M.grow
  obtain ⟨gs, g1, g2, g3⟩ := M.gone
  refine ⟨fun j h2 hj => ?_, ?_, fun j hj => ?_, M.apart H.apart fun j hj => (H.range j hj).2⟩
  · by_cases hl : j < (S.L.length : Int) + 2
    · rcases H.all j h2 hl with q | q
      · by_cases hj' : j ∈ ids'
        · exact .inl hj'
        · exact .inr (by rw [g1]; exact List.mem_append_right _ ((g2 j).2 ⟨q, hj'⟩))
      · exact .inr (by rw [g1]; exact List.mem_append_left _ q)
    · exact .inl (M.all j (by omega) (by omega))
  · rw [g1, List.nodup_append]
    refine ⟨H.nd, g3, fun a ha b hb e => ?_⟩
    subst e
    exact H.apart a ((g2 a).1 hb).1 ha
  · rw [g1] at hj
    rcases List.mem_append.1 hj with q | q
    · have := H.range j q; omega
    · have := hr j ((g2 j).1 q).1; omega
theorem Counted.none : Counted { L := [], mine := 2, given := [], bad := false, twice := false, stop := -1 } [] :=
  ⟨fun j h1 h2 => absurd h2 (by simp; omega), List.nodup_nil, fun j hj => (by cases hj), fun j hj => (by cases hj)⟩
theorem Counted.empty {S : PSt} (H : Counted S []) : S.given.length = S.L.length := by
  have p : S.given.Perm ((List.range S.L.length).map fun i : Nat => (i : Int) + 2) := by
    refine (List.perm_ext_iff_of_nodup H.nd ?_).2 fun j => ?_
    · refine List.pairwise_map.2 (List.nodup_range.imp fun {a b} q => ?_)
      omega
    · simp only [List.mem_map, List.mem_range]
      constructor
      · intro q
        have := H.range j q
        exact ⟨(j - 2).toNat, by omega, by omega⟩
      · rintro ⟨i, hi, rfl⟩
        rcases H.all ((i : Int) + 2) (by omega) (by omega) with q | q
        · cases q
        · exact q
  rw [p.length_eq]
  simp

/-! ### All is deleted -/
theorem mem_dropL {h : List Item} (hr : Rising h) {k : Bytes} {y : Item} (q : y ∈ (dropL h k).1) : y ∈ h ∧ y.key ≠ k := by
  rw [dropL_cut] at q
  by_cases hA : isAt h k = true
  · rw [if_pos hA] at q
    unfold isAt at hA
    have hA2 := hA
    obtain ⟨x, hx⟩ : ∃ x, h[findAt h k]? = some x := by
      cases e : h[findAt h k]? with
      | none => rw [e] at hA2; simp at hA2
      | some x => exact ⟨x, rfl⟩
    rw [hx] at hA2
    have hxk : x.key = k := by simpa using hA2
    obtain ⟨hlt, hxe⟩ := List.getElem?_eq_some_iff.1 hx
    have hpw := List.pairwise_iff_getElem.1 hr
    rcases List.mem_append.1 q with q | q
    · obtain ⟨i, hi, rfl⟩ := List.mem_iff_getElem.1 q
      rw [List.length_take] at hi
      rw [List.getElem_take]
      refine ⟨List.getElem_mem _, fun e => ?_⟩
      have h1 : Keyed.key h[i] < Keyed.key h[findAt h k] := hpw i (findAt h k) (by omega) hlt (by omega)
      have h2 : Keyed.key h[i] = Keyed.key h[findAt h k] := by
        rw [hxe]; exact e.trans hxk.symm
      rw [h2] at h1
      exact List.lt_irrefl _ h1
    · obtain ⟨i, hi, rfl⟩ := List.mem_iff_getElem.1 q
      rw [List.length_drop] at hi
      rw [List.getElem_drop]
      refine ⟨List.getElem_mem _, fun e => ?_⟩
      have h1 : Keyed.key h[findAt h k] < Keyed.key h[findAt h k + 1 + i] := hpw (findAt h k) (findAt h k + 1 + i) hlt (by omega) (by omega)
      have h2 : Keyed.key h[findAt h k + 1 + i] = Keyed.key h[findAt h k] := by
        rw [hxe]; exact e.trans hxk.symm
      rw [h2] at h1
      exact List.lt_irrefl _ h1
  · rw [if_neg hA] at q
    refine ⟨q, fun e => ?_⟩
    obtain ⟨i, hi, he⟩ := List.mem_iff_getElem.1 q
    exact hA (findAt_eq hr (List.getElem?_eq_some_iff.2 ⟨hi, he⟩) e).2
/-- Of a list's items those are left whose keys were not deleted yet. -/
def Left (l m : List Item) (i : Nat) (h : List Item) : Prop := ∀ y ∈ h, y ∈ l ∧ ∀ z ∈ m.take i, y.key ≠ z.key
theorem Left.start {l m h : List Item} (H : ∀ y ∈ h, y ∈ l) : Left l m 0 h := fun y hy => ⟨H y hy, fun z hz => by simp at hz⟩
theorem Left.next {l m h : List Item} {i : Nat} {x : Item} (H : Left l m i h) (hr : Rising h) (hx : m[i]? = some x) : Left l m (i + 1) (dropL h x.key).1 := fun y hy => by
  obtain ⟨h1, h2⟩ := mem_dropL hr hy
  refine ⟨(H y h1).1, fun z hz => ?_⟩
  rw [List.take_add_one, hx] at hz
  rcases List.mem_append.1 hz with hz | hz
  · exact (H y h1).2 z hz
  · rw [Option.toList_some, List.mem_singleton] at hz
    rw [hz]
    exact h2
theorem Left.none {l m h : List Item} (H : Left l m m.length h) (hm : ∀ y ∈ l, y ∈ m) : h = [] := by
  cases h with
  | nil => rfl
  | cons y h =>
    obtain ⟨h1, h2⟩ := H y (by simp)
    rw [List.take_length] at h2
    exact absurd rfl (h2 y (hm y h1))
theorem mem_actL {l h : List Item} (hr : rightL h = true) {x : Item} (hx : x ∈ l) (H : ∀ y ∈ h, y ∈ l) : ∀ y ∈ actL h ⟨1, x⟩, y ∈ l := fun y hy => by
  unfold actL at hy
  rw [if_neg (show ¬ (1 : Int) = 2 by decide)] at hy
  split at hy
  · rcases (mem_putL ((rightL_iff _).1 hr).2 x y).1 hy with e | ⟨q, _⟩
    · rw [e]; exact hx
    · exact H y q
  · exact H y hy
end Go.Proofs.YtklccpaphkpgfaaGreat
