/- The law's book, of items: marks for a list. Conditions: one goroutine; the numbers are small. -/
import Derived.Test.YtklccpaphkpgfaaGreatZTree3
import Derived.Test.YtklccpaphkpgfaaGreatZSame
import Derived.Test.YtklccpaphkpgfaaGreatZLaw3
import Derived.Test.YtklccpaphkpgfaaGreatZLeaf6
import Derived.Deep.RegionHeld3
import Derived.Deep.RegionLaw
namespace Go.Proofs.YtklccpaphkpgfaaGreat
open Go.RowKit

/-- A mark; marks for a list. -/
def markI (i k : Nat) : Item := ⟨[], [], -1000 * (i : Int) - k - 1⟩
def marksI (i from_ n : Nat) : List Item := (List.range n).map fun j => markI i (from_ + j)
theorem marksI_length (i from_ n : Nat) : (marksI i from_ n).length = n := by simp [marksI]
theorem marksI_next (i from_ n : Nat) : marksI i from_ (n + 1) = marksI i from_ n ++ [markI i (from_ + n)] := by
  unfold marksI
  rw [List.range_succ, List.map_append]
  rfl
theorem marksI_more (i from_ n m : Nat) : marksI i from_ (n + m) = marksI i from_ n ++ marksI i (from_ + n) m := by
  induction m with
  | zero => simp [marksI]
  | succ m ih => rw [← Nat.add_assoc, marksI_next, ih, marksI_next, List.append_assoc, Nat.add_assoc]
theorem marksI_at {i from_ n k : Nat} (h : k < n) : (marksI i from_ n)[k]? = some (markI i (from_ + k)) := by
  unfold marksI
  rw [List.getElem?_map, List.getElem?_range h]
  rfl
/-- How a row of the call's own is told. -/
def OwnTold (w : World) (m : List Item) : Ending → World → Prop := fun e w' => ∃ v, e = .returned v ∧ w'.ownsRow 0 29 3 v m.length (m.flatMap itemC) ∧ Only (fun _ => False) w w' ∧ ∀ j, v.ownBlock = some j → w.heap.size ≤ j

set_option maxRecDepth 100000 in
set_option maxHeartbeats 4000000 in
theorem markI_is (w : World) (i from_ n : Nat) (hi1 : i ≤ 1000) (hn : from_ + n ≤ 1000000) :
    Calls Tryz.prog 100 #[.int .i64 (i : Int), .int .i64 (from_ : Int), .int .i64 (n : Int)] w (OwnTold w (marksI i from_ n)) := by
  obtain ⟨i0, hi, hz0, hz1, hz2⟩ := info_parts itemInfo
  have hws : IntKind.i64.wrap ((from_ : Int) + (n : Int)) = (from_ : Int) + (n : Int) := by exact IntWalk.i64_in _ (by omega)
  have hwm : IntKind.i64.wrap (-1000 * (i : Int)) = -1000 * (i : Int) := by exact IntWalk.i64_in _ (by omega)
  go_enter Tryz.func100, Tryz.ntmps100
  go_wp2_with fail
  go_loopg [7, 8] n (fun gh ov kv wr => ∃ k : Nat, gh + k = n ∧ kv = .int .i64 ((from_ : Int) + (k : Int)) ∧ wr.ownsRow 0 29 3 ov k ((marksI i from_ k).flatMap itemC) ∧ Only (fun _ => False) w wr ∧ ∀ j, ov.ownBlock = some j → w.heap.size ≤ j)
  case atStart => exact ⟨0, by omega, by simp, ⟨rfl, .inl ⟨rfl, rfl⟩⟩, Only.refl _ w, fun j hj => by simp [Value.ownBlock] at hj⟩
  case round =>
    obtain ⟨k, hgk, rfl, hown, ho, hnew⟩ := hrel
    obtain ⟨aO, cO, rfl⟩ := ownsRow_form hown
    have HH := Lib.hid (And.intro hown (And.intro ho hnew))
    clear hown ho hnew
    by_cases hk : k < n
    · have hk1 : (from_ : Int) + (k : Int) < (from_ : Int) + (n : Int) := by omega
      have hk2 : (k : Int) < (n : Int) := by omega
      have hw1 : IntKind.i64.wrap ((from_ : Int) + (k : Int) + 1) = (from_ : Int) + ((k + 1 : Nat) : Int) := by rw [IntWalk.i64_in _ (by omega)]; omega
      have hw2 : IntKind.i64.wrap (-1000 * (i : Int) - ((from_ : Int) + (k : Int))) = -1000 * (i : Int) - ((from_ + k : Nat) : Int) := by rw [IntWalk.i64_in _ (by omega)]; omega
      have hw3 : IntKind.i64.wrap (-1000 * (i : Int) - ((from_ + k : Nat) : Int) - 1) = (markI i (from_ + k)).kind := by rw [IntWalk.i64_in _ (by omega)]; rfl
      have HOWN := Lib.hid (HH.out.1.alloc (.cells #[str [], str [], .int .i64 (markI i (from_ + k)).kind] 29))
      have HCE := Lib.hid (cells_new wr (itemC (markI i (from_ + k))) 29 (0, 0))
      have HOA := Lib.hid ((Only.refl (fun _ => False) wr).alloc (.cells #[str [], str [], .int .i64 (markI i (from_ + k)).kind] 29))
      have HNX := Lib.hid (marksI_next i from_ k)
      have hmax : k + 1 ≤ maxLen := by unfold maxLen; omega
      have hgk2 := hgk
      clear hgk
      go_wp2_with (at_builtin; refine wpList_append_moved _ rfl _ _ 22 rfl 29 i0 _ 3 40 Tryz.underlying22 hi hz0 hz1 hz2 rfl (by decide) _ _ _ rfl HOWN.out ⟨wr.heap.size, 0, none⟩ 1 1 (itemC (markI i (from_ + k))) rfl rfl HCE.out (itemC_one _) hmax (by omega) ?_; intro a' c' wx hown2 hgr hmv; have HG := Lib.hid (And.intro hown2 (And.intro hgr hmv)); clear hown2 hgr hmv)
      all_goals
        go_roundg (n - (k + 1))
        case measure => omega
        case rel =>
          obtain ⟨h2, hgr, hmv⟩ := HG.out
          refine ⟨k + 1, by omega, by go_num, ?_, (HH.out.2.1.alloc _).grown hgr (fun j hj e => ?_), fun j hj => ?_⟩
          · rw [HNX.out, List.flatMap_append]
            simpa using h2
          · have e2 : (Value.slice aO k cO).ownBlock = some j := e
            have := HH.out.2.2 j e2; omega
          · have h5 := HH.out.2.1.size
            rcases hmv j hj with e | e
            · exact HH.out.2.2 j e
            · rw [World.size_alloc] at e; omega
    · obtain rfl : k = n := by omega
      have hk1 : ¬ (from_ : Int) + (k : Int) < (from_ : Int) + (k : Int) := by omega
      have HM := Lib.hid (marksI_length i from_ k)
      go_wp2_with fail
      go_ret
      exact ⟨_, rfl, by rw [HM.out]; exact HH.out.1, HH.out.2⟩
end Go.Proofs.YtklccpaphkpgfaaGreat

namespace Go.Proofs.YtklccpaphkpgfaaGreat
open Go.RowKit

theorem wpList_append_any {P : Program} (w : World) {ops : Array Oper} {rest : List Oper} {o : Oper} {a : Act} {Q : Exit → Act → World → Prop} (hgd : o.guard = none) (s x : Operand) (t : TypeId)
    (ho : o.op = .call { callee := .builtin .append, args := #[s, x], argTypes := #[t, t] })
    (e : TypeId) (i : TypeInfo) (z : Value) (size bytes : Nat) (ht : P.underlying t = some (.slice e)) (hi : P.info? e = some i) (hz : i.zero = some z)
    (hsize : i.size = size) (hby : i.bytes = bytes) (hzs : z.cells.size = size) (hsz : 0 < size)
    (v : Value) (n : Nat) (xs : List Value) (hs : a.eval s = v) (hown : w.ownsRow 0 e size v n xs)
    (ao : Option Addr) (m c : Nat) (news : List Value) (hx : a.eval x = .slice ao m c) (hl : news.length = m * size) (hnone : ao = none → m = 0 ∧ c = 0)
    (hnews : ∀ ad, ao = some ad → ∀ j u, news[j]? = some u → w.cell? (ad.add j) = some u) (h1 : ∀ u ∈ news, u.oneCell' = true)
    (h63 : n + m ≤ maxLen) (hbytes : (n + m) * bytes ≤ 140737488355328)
    (h : ∀ a' c' w', w'.ownsRow 0 e size (.slice a' (n + m) c') (n + m) (xs ++ news) → w.grownBy w' v.ownBlock → Moved w v (.slice a' (n + m) c') → wpList P ops Q rest (a.put o.dst (.slice a' (n + m) c')) w') :
    wpList P ops Q (o :: rest) a w :=
  wpList_step fun _ hK => step_append_any w hgd s x t ho e i z size bytes ht hi hz hsize hby hzs hsz v n xs hs hown ao m c news hx hl hnone hnews h1 h63 hbytes fun a' c' w' h2 h3 h4 => hK _ _ (h a' c' w' h2 h3 h4)
set_option maxRecDepth 100000 in
set_option maxHeartbeats 4000000 in
theorem copyI_is (w : World) (v : Value) (l : List Item) (h : RowAt itemC 3 w v l) (hn : l.length ≤ 1000000) : Calls Tryz.prog 35 #[v] w (OwnTold w l) := by
  obtain ⟨i0, hi, hz0, hz1, hz2⟩ := info_parts itemInfo
  obtain ⟨a, c, rfl⟩ := row_form h
  have hnil := row_nil h
  have HRD := Lib.hid (row_read h)
  have HFL := Lib.hid (flatI_length l)
  have hmax : 0 + l.length ≤ maxLen := by unfold maxLen; omega
  clear h
  go_enter Tryz.func35, Tryz.ntmps35
  go_wp2_with (at_builtin; refine wpList_append_any _ rfl _ _ 22 rfl 29 i0 _ 3 40 Tryz.underlying22 hi hz0 hz1 hz2 rfl (by decide) (.slice none 0 0) 0 [] rfl ⟨rfl, .inl ⟨rfl, rfl⟩⟩ a l.length c (l.flatMap itemC) rfl HFL.out hnil (HRD.out _ (Only.refl _ w)) (one_items l) hmax (by omega) ?_; intro a' c' wx hown2 hgr hmv; have HG := Lib.hid (And.intro hown2 (And.intro hgr hmv)); clear hown2 hgr hmv)
  go_ret
  obtain ⟨h2, hgr, hmv⟩ := HG.out
  rw [Nat.zero_add] at h2 hmv
  exact ⟨_, rfl, by simpa using h2, (Only.refl _ w).grown hgr (fun j _ e => by cases e), fun j hj => (hmv j hj).elim (fun e => by cases e) id⟩

/-- A list's own block. -/
def OwnB (v : Value) (b : Nat) : Prop := v.ownBlock = some b
/-- A book of lists of items, without their copies. -/
structure BookX (w : World) (k : Nat) (vI : Value) (xs : List Value) (ls : List (List Item)) (B : Nat) : Prop where
  heap : ∃ vW, w.heap[k]? = some (.cells #[.slice none 0 0, .slice none 0 0, .slice none 0 0, .slice none 0 0, vI, vW, .slice none 0 0, .slice none 0 0, .slice none 0 0, .slice none 0 0, .slice none 0 0, .slice none 0 0, .slice none 0 0, .slice none 0 0, .slice none 0 0, .slice none 0 0, .slice none 0 0, .slice none 0 0] 41 (0, 0))
  rowI : w.ownsRow 0 22 1 vI xs.length xs
  len : xs.length = ls.length
  rows : ∀ (i : Nat) (v : Value) (l : List Item), xs[i]? = some v → ls[i]? = some l → w.ownsRow 0 29 3 v l.length (l.flatMap itemC)
  dx : ∀ (i j : Nat) (v v' : Value) (b : Nat), i ≠ j → xs[i]? = some v → xs[j]? = some v' → OwnB v b → ¬ OwnB v' b
  dk : ∀ v ∈ xs, ∀ b, OwnB v b → b ≠ k ∧ ¬ OwnB vI b ∧ B ≤ b
  dI : ∀ b, OwnB vI b → b ≠ k ∧ B ≤ b
  new : B ≤ k
/-- The same with copies. -/
structure BookAt (w : World) (k : Nat) (vI vW : Value) (xs ys : List Value) (ls ms : List (List Item)) (B : Nat) : Prop where
  x : BookX w k vI xs ls B
  heap : w.heap[k]? = some (.cells #[.slice none 0 0, .slice none 0 0, .slice none 0 0, .slice none 0 0, vI, vW, .slice none 0 0, .slice none 0 0, .slice none 0 0, .slice none 0 0, .slice none 0 0, .slice none 0 0, .slice none 0 0, .slice none 0 0, .slice none 0 0, .slice none 0 0, .slice none 0 0, .slice none 0 0] 41 (0, 0))
  rowW : w.ownsRow 0 22 1 vW ys.length ys
  len : ys.length = ms.length
  copies : ∀ (i : Nat) (v : Value) (l : List Item), ys[i]? = some v → ms[i]? = some l → w.ownsRow 0 29 3 v l.length (l.flatMap itemC)
  dW : ∀ b, OwnB vW b → b ≠ k ∧ ¬ OwnB vI b ∧ B ≤ b
  dy : ∀ v ∈ ys, ∀ b, OwnB v b → b ≠ k ∧ ¬ OwnB vI b ∧ ¬ OwnB vW b ∧ B ≤ b
  dxW : ∀ v ∈ xs, ∀ b, OwnB v b → ¬ OwnB vW b
theorem BookX.lt {w : World} {k : Nat} {vI : Value} {xs : List Value} {ls : List (List Item)} {B : Nat} (h : BookX w k vI xs ls B) : k < w.heap.size := by
  obtain ⟨vW, h⟩ := h.heap
  exact (Array.getElem?_eq_some_iff.1 h).1
theorem BookX.row_of {w : World} {k : Nat} {vI : Value} {xs : List Value} {ls : List (List Item)} {B : Nat} (h : BookX w k vI xs ls B) {v : Value} (hv : v ∈ xs) : ∃ l : List Item, w.ownsRow 0 29 3 v l.length (l.flatMap itemC) := by
  obtain ⟨i, hi⟩ := List.getElem?_of_mem hv
  have hl := h.len
  have hlt := (List.getElem?_eq_some_iff.1 hi).1
  exact ⟨_, h.rows i v _ hi (List.getElem?_eq_getElem (by omega))⟩
theorem BookAt.copy_of {w : World} {k : Nat} {vI vW : Value} {xs ys : List Value} {ls ms : List (List Item)} {B : Nat} (h : BookAt w k vI vW xs ys ls ms B) {v : Value} (hv : v ∈ ys) : ∃ l : List Item, w.ownsRow 0 29 3 v l.length (l.flatMap itemC) := by
  obtain ⟨i, hi⟩ := List.getElem?_of_mem hv
  have hl := h.len
  have hlt := (List.getElem?_eq_some_iff.1 hi).1
  exact ⟨_, h.copies i v _ hi (List.getElem?_eq_getElem (by omega))⟩
/-- The book's own blocks. -/
def bown (k : Nat) (vI vW : Value) (xs ys : List Value) (b : Nat) : Prop := b = k ∨ OwnB vI b ∨ OwnB vW b ∨ (∃ v ∈ xs, OwnB v b) ∨ ∃ v ∈ ys, OwnB v b
theorem BookX.only {w w' : World} {k : Nat} {vI : Value} {xs : List Value} {ls : List (List Item)} {B : Nat} {T : Nat → Prop} (h : BookX w k vI xs ls B) (ho : Only T w w') (h1 : ¬ T k) (h2 : ∀ b, OwnB vI b → ¬ T b) (h3 : ∀ v ∈ xs, ∀ b, OwnB v b → ¬ T b) : BookX w' k vI xs ls B := by
  obtain ⟨vW, hh⟩ := h.heap
  exact ⟨⟨vW, (ho.block k h.lt h1).trans hh⟩, own_only h.rowI ho h2, h.len, fun i v l a b => own_only (h.rows i v l a b) ho (h3 v (List.mem_of_getElem? a)), h.dx, h.dk, h.dI, h.new⟩
theorem BookAt.only {w w' : World} {k : Nat} {vI vW : Value} {xs ys : List Value} {ls ms : List (List Item)} {B : Nat} {T : Nat → Prop} (h : BookAt w k vI vW xs ys ls ms B) (ho : Only T w w') (hT : ∀ b, bown k vI vW xs ys b → ¬ T b) : BookAt w' k vI vW xs ys ls ms B :=
  ⟨h.x.only ho (hT k (.inl rfl)) (fun b e => hT b (.inr (.inl e))) (fun v hv b e => hT b (.inr (.inr (.inr (.inl ⟨v, hv, e⟩))))), (ho.block k h.x.lt (hT k (.inl rfl))).trans h.heap, own_only h.rowW ho (fun b e => hT b (.inr (.inr (.inl e)))), h.len,
    fun i v l a b => own_only (h.copies i v l a b) ho (fun j e => hT j (.inr (.inr (.inr (.inr ⟨v, List.mem_of_getElem? a, e⟩))))), h.dW, h.dy, h.dxW⟩
theorem BookAt.still {w w' : World} {k : Nat} {vI vW : Value} {xs ys : List Value} {ls ms : List (List Item)} {B : Nat} (h : BookAt w k vI vW xs ys ls ms B) (ho : Only (fun _ => False) w w') : BookAt w' k vI vW xs ys ls ms B := h.only ho fun _ _ => id
/-- A book of nothing. -/
theorem BookAt.empty {w : World} {k B : Nat} (h : w.heap[k]? = some (.cells #[.slice none 0 0, .slice none 0 0, .slice none 0 0, .slice none 0 0, .slice none 0 0, .slice none 0 0, .slice none 0 0, .slice none 0 0, .slice none 0 0, .slice none 0 0, .slice none 0 0, .slice none 0 0, .slice none 0 0, .slice none 0 0, .slice none 0 0, .slice none 0 0, .slice none 0 0, .slice none 0 0] 41 (0, 0))) (hB : B ≤ k) : BookAt w k (.slice none 0 0) (.slice none 0 0) [] [] [] [] B :=
  ⟨⟨⟨_, h⟩, ⟨rfl, .inl ⟨rfl, rfl⟩⟩, rfl, (fun i v l a _ => by simp at a), (fun i j v v' b _ a _ => by simp at a), (fun v hv => by cases hv), (fun b e => by simp [OwnB, Value.ownBlock] at e), hB⟩, h, ⟨rfl, .inl ⟨rfl, rfl⟩⟩, rfl, (fun i v l a _ => by simp at a), (fun b e => by simp [OwnB, Value.ownBlock] at e), (fun v hv => by cases hv), fun v hv => by cases hv⟩
theorem snoc_at {α : Type} {l : List α} {x y : α} {i : Nat} (h : (l ++ [x])[i]? = some y) : l[i]? = some y ∨ (i = l.length ∧ y = x) := by
  rcases Nat.lt_or_ge i l.length with q | q
  · rw [List.getElem?_append_left q] at h; exact .inl h
  · rw [List.getElem?_append_right q] at h
    have := (List.getElem?_eq_some_iff.1 h).1
    rw [List.length_singleton] at this
    have e : i - l.length = 0 := by omega
    rw [e] at h
    exact .inr ⟨by omega, (Option.some.inj h).symm⟩
/-- One more list is kept. -/
theorem BookAt.growI {w W wa : World} {k : Nat} {vI vW v : Value} {xs ys : List Value} {ls ms : List (List Item)} {l : List Item} {B : Nat} (h : BookAt w k vI vW xs ys ls ms B) (hv : w.ownsRow 0 29 3 v l.length (l.flatMap itemC)) (hB : ∀ b, OwnB v b → B ≤ b ∧ ¬ bown k vI vW xs ys b)
    (ho : Only (fun _ => False) w W) {a' : Option Addr} {c' : Nat} (hown : wa.ownsRow 0 22 1 (.slice a' (xs.length + 1) c') (xs.length + 1) (xs ++ [v])) (hg : W.grownBy wa vI.ownBlock) (hmv : ∀ b, OwnB (.slice a' (xs.length + 1) c') b → OwnB vI b ∨ w.heap.size ≤ b) :
    BookAt (wa.setCell ⟨k, 4, none⟩ (.slice a' (xs.length + 1) c')) k (.slice a' (xs.length + 1) c') vW (xs ++ [v]) ys (ls ++ [l]) ms B ∧ Only (fun b => b = k ∨ OwnB vI b) w (wa.setCell ⟨k, 4, none⟩ (.slice a' (xs.length + 1) c')) := by
  have hk := h.x.lt
  have hkB := h.x.new
  have hO : Only (fun b => b = k ∨ OwnB vI b) w wa := ((ho.mono (fun _ _ q => q.elim)).grown hg (fun b _ e => .inr e) : Only (fun b => b = k ∨ OwnB vI b) w wa)
  have hO2 := hO.put k 4 (.inl rfl) (.slice a' (xs.length + 1) c')
  have hOg : Only (fun b => OwnB vI b) w wa := (ho.mono (fun _ _ q => q.elim)).grown hg (fun b _ e => e)
  have hvI : ¬ OwnB vI k := fun e => (h.x.dI k e).1 rfl
  have hka : wa.heap[k]? = _ := (hOg.block k hk hvI).trans h.heap
  have hset := heap_setCell hka 4 (.slice a' (xs.length + 1) c')
  have hnk : (Value.slice a' (xs.length + 1) c').ownBlock ≠ some k := fun e => (hmv k e).elim hvI fun q => by omega
  have hvlt : ∀ b, OwnB v b → b < w.heap.size := fun b e => (hv.lt b e).2
  have hxlt : ∀ u ∈ xs, ∀ b, OwnB u b → b < w.heap.size := fun u hu b e => by obtain ⟨_, r⟩ := h.x.row_of hu; exact (r.lt b e).2
  have hylt : ∀ u ∈ ys, ∀ b, OwnB u b → b < w.heap.size := fun u hu b e => by obtain ⟨_, r⟩ := h.copy_of hu; exact (r.lt b e).2
  have hWlt : ∀ b, OwnB vW b → b < w.heap.size := fun b e => (h.rowW.lt b e).2
  refine ⟨⟨⟨⟨vW, hset⟩, ?_, by rw [List.length_append, List.length_append, h.x.len]; rfl, fun i u m a b => ?_, fun i j u u' b hij a a' e e' => ?_, fun u hu b e => ?_, fun b e => ?_, hkB⟩, hset, own_only h.rowW hO2 (fun b e q => ?_), h.len, fun i u m a b => own_only (h.copies i u m a b) hO2 (fun j e q => ?_), fun b e => ?_, fun u hu b e => ?_, fun u hu b e => ?_⟩, hO2⟩
  · have := own_store hown hnk 4 (.slice a' (xs.length + 1) c')
    rw [List.length_append, List.length_singleton]
    exact this
  · rcases snoc_at a with a | ⟨rfl, rfl⟩
    · rcases snoc_at b with b | ⟨rfl, rfl⟩
      · refine own_only (h.x.rows i u m a b) hO2 fun j e q => ?_
        have hd := h.x.dk u (List.mem_of_getElem? a) j e
        rcases q with q | q
        · exact hd.1 q
        · exact hd.2.1 q
      · have := (List.getElem?_eq_some_iff.1 a).1
        have := h.x.len; omega
    · have hm : m = l := by
        rcases snoc_at b with b | ⟨_, rfl⟩
        · have := (List.getElem?_eq_some_iff.1 b).1
          have := h.x.len; omega
        · rfl
      subst hm
      refine own_only hv hO2 fun j e q => (hB j e).2 ?_
      rcases q with q | q
      · exact .inl q
      · exact .inr (.inl q)
  · rcases snoc_at a with q1 | ⟨f1, f2⟩
    · rcases snoc_at a' with q2 | ⟨f1, f2⟩
      · exact h.x.dx i j u u' b hij q1 q2 e e'
      · rw [f2] at e'
        exact (hB b e').2 (.inr (.inr (.inr (.inl ⟨u, List.mem_of_getElem? q1, e⟩))))
    · rcases snoc_at a' with q2 | ⟨f3, f4⟩
      · rw [f2] at e
        exact (hB b e).2 (.inr (.inr (.inr (.inl ⟨u', List.mem_of_getElem? q2, e'⟩))))
      · exact hij (f1.trans f3.symm)
  · rcases List.mem_append.1 hu with hu | hu
    · have hd := h.x.dk u hu b e
      refine ⟨hd.1, fun q => ?_, hd.2.2⟩
      rcases hmv b q with q | q
      · exact hd.2.1 q
      · have := hxlt u hu b e; omega
    · rw [List.mem_singleton] at hu
      subst hu
      refine ⟨fun q => (hB b e).2 (.inl q), fun q => ?_, (hB b e).1⟩
      rcases hmv b q with q | q
      · exact (hB b e).2 (.inr (.inl q))
      · have := hvlt b e; omega
  · rcases hmv b e with q | q
    · exact h.x.dI b q
    · exact ⟨by omega, by omega⟩
  · have hd := h.dW b e
    rcases q with q | q
    · exact hd.1 q
    · exact hd.2.1 q
  · have hd := h.dy u (List.mem_of_getElem? a) j e
    rcases q with q | q
    · exact hd.1 q
    · exact hd.2.1 q
  · have hd := h.dW b e
    refine ⟨hd.1, fun q => ?_, hd.2.2⟩
    rcases hmv b q with q | q
    · exact hd.2.1 q
    · have := hWlt b e; omega
  · have hd := h.dy u hu b e
    refine ⟨hd.1, fun q => ?_, hd.2.2⟩
    rcases hmv b q with q | q
    · exact hd.2.1 q
    · have := hylt u hu b e; omega
  · rcases List.mem_append.1 hu with hu | hu
    · exact h.dxW u hu b e
    · rw [List.mem_singleton] at hu
      subst hu
      exact fun q => (hB b e).2 (.inr (.inr (.inl q)))
/-- One more copy is kept. -/
theorem BookAt.growW {w W wa : World} {k : Nat} {vI vW v : Value} {xs ys : List Value} {ls ms : List (List Item)} {l : List Item} {B : Nat} (h : BookAt w k vI vW xs ys ls ms B) (hv : w.ownsRow 0 29 3 v l.length (l.flatMap itemC)) (hB : ∀ b, OwnB v b → B ≤ b ∧ ¬ bown k vI vW xs ys b)
    (ho : Only (fun _ => False) w W) {a' : Option Addr} {c' : Nat} (hown : wa.ownsRow 0 22 1 (.slice a' (ys.length + 1) c') (ys.length + 1) (ys ++ [v])) (hg : W.grownBy wa vW.ownBlock) (hmv : ∀ b, OwnB (.slice a' (ys.length + 1) c') b → OwnB vW b ∨ w.heap.size ≤ b) :
    BookAt (wa.setCell ⟨k, 5, none⟩ (.slice a' (ys.length + 1) c')) k vI (.slice a' (ys.length + 1) c') xs (ys ++ [v]) ls (ms ++ [l]) B ∧ Only (fun b => b = k ∨ OwnB vW b) w (wa.setCell ⟨k, 5, none⟩ (.slice a' (ys.length + 1) c')) := by
  have hk := h.x.lt
  have hkB := h.x.new
  have hO : Only (fun b => b = k ∨ OwnB vW b) w wa := ((ho.mono (fun _ _ q => q.elim)).grown hg (fun b _ e => .inr e) : Only (fun b => b = k ∨ OwnB vW b) w wa)
  have hO2 := hO.put k 5 (.inl rfl) (.slice a' (ys.length + 1) c')
  have hOg : Only (fun b => OwnB vW b) w wa := (ho.mono (fun _ _ q => q.elim)).grown hg (fun b _ e => e)
  have hvW : ¬ OwnB vW k := fun e => (h.dW k e).1 rfl
  have hka : wa.heap[k]? = _ := (hOg.block k hk hvW).trans h.heap
  have hset := heap_setCell hka 5 (.slice a' (ys.length + 1) c')
  have hnk : (Value.slice a' (ys.length + 1) c').ownBlock ≠ some k := fun e => (hmv k e).elim hvW fun q => by omega
  have hvlt : ∀ b, OwnB v b → b < w.heap.size := fun b e => (hv.lt b e).2
  have hxlt : ∀ u ∈ xs, ∀ b, OwnB u b → b < w.heap.size := fun u hu b e => by obtain ⟨_, r⟩ := h.x.row_of hu; exact (r.lt b e).2
  have hylt : ∀ u ∈ ys, ∀ b, OwnB u b → b < w.heap.size := fun u hu b e => by obtain ⟨_, r⟩ := h.copy_of hu; exact (r.lt b e).2
  have hIlt : ∀ b, OwnB vI b → b < w.heap.size := fun b e => (h.x.rowI.lt b e).2
  have hX : BookX (wa.setCell ⟨k, 5, none⟩ (.slice a' (ys.length + 1) c')) k vI xs ls B :=
    ⟨⟨_, hset⟩, own_only h.x.rowI hO2 (fun b e q => q.elim (h.x.dI b e).1 fun q => (h.dW b q).2.1 e), h.x.len, fun i u m a b => own_only (h.x.rows i u m a b) hO2 (fun j e q => q.elim (h.x.dk u (List.mem_of_getElem? a) j e).1 fun q => h.dxW u (List.mem_of_getElem? a) j e q), h.x.dx, h.x.dk, h.x.dI, h.x.new⟩
  refine ⟨⟨hX, hset, ?_, by rw [List.length_append, List.length_append, h.len]; rfl, fun i u m a b => ?_, fun b e => ?_, fun u hu b e => ?_, fun u hu b e q => ?_⟩, hO2⟩
  · have := own_store hown hnk 5 (.slice a' (ys.length + 1) c')
    rw [List.length_append, List.length_singleton]
    exact this
  · rcases snoc_at a with a | ⟨rfl, rfl⟩
    · rcases snoc_at b with b | ⟨rfl, rfl⟩
      · refine own_only (h.copies i u m a b) hO2 fun j e q => ?_
        have hd := h.dy u (List.mem_of_getElem? a) j e
        rcases q with q | q
        · exact hd.1 q
        · exact hd.2.2.1 q
      · have := (List.getElem?_eq_some_iff.1 a).1
        have := h.len; omega
    · have hm : m = l := by
        rcases snoc_at b with b | ⟨_, rfl⟩
        · have := (List.getElem?_eq_some_iff.1 b).1
          have := h.len; omega
        · rfl
      subst hm
      refine own_only hv hO2 fun j e q => (hB j e).2 ?_
      rcases q with q | q
      · exact .inl q
      · exact .inr (.inr (.inl q))
  · rcases hmv b e with q | q
    · exact h.dW b q
    · exact ⟨by omega, fun q2 => by have := hIlt b q2; omega, by omega⟩
  · rcases List.mem_append.1 hu with hu | hu
    · have hd := h.dy u hu b e
      refine ⟨hd.1, hd.2.1, fun q => ?_, hd.2.2.2⟩
      rcases hmv b q with q | q
      · exact hd.2.2.1 q
      · have := hylt u hu b e; omega
    · rw [List.mem_singleton] at hu
      subst hu
      refine ⟨fun q => (hB b e).2 (.inl q), fun q => (hB b e).2 (.inr (.inl q)), fun q => ?_, (hB b e).1⟩
      rcases hmv b q with q | q
      · exact (hB b e).2 (.inr (.inr (.inl q)))
      · have := hvlt b e; omega
  · rcases hmv b q with q | q
    · exact h.dxW u hu b e q
    · have := hxlt u hu b e; omega

theorem BookAt.bown_lt {w : World} {k : Nat} {vI vW : Value} {xs ys : List Value} {ls ms : List (List Item)} {B : Nat} (h : BookAt w k vI vW xs ys ls ms B) {b : Nat} (q : bown k vI vW xs ys b) : b < w.heap.size ∧ B ≤ b := by
  rcases q with rfl | q | q | ⟨v, hv, q⟩ | ⟨v, hv, q⟩
  · exact ⟨h.x.lt, h.x.new⟩
  · exact ⟨(h.x.rowI.lt b q).2, (h.x.dI b q).2⟩
  · exact ⟨(h.rowW.lt b q).2, (h.dW b q).2.2⟩
  · obtain ⟨_, r⟩ := h.x.row_of hv
    exact ⟨(r.lt b q).2, (h.x.dk v hv b q).2.2⟩
  · obtain ⟨_, r⟩ := h.copy_of hv
    exact ⟨(r.lt b q).2, (h.dy v hv b q).2.2.2⟩
/-- How the book stands when one more list is kept. -/
def BookTold (w : World) (k : Nat) (vI vW : Value) (xs ys : List Value) (ls : List (List Item)) (B : Nat) (v : Value) (l : List Item) : Ending → World → Prop := fun e w' => e = .returned (.tuple #[]) ∧ Only (fun b => b = k ∨ OwnB vI b ∨ OwnB vW b) w w' ∧ ∃ vI' vW' y, BookAt w' k vI' vW' (xs ++ [v]) (ys ++ [y]) (ls ++ [l]) (ls ++ [l]) B ∧ (∀ b, OwnB vI' b → OwnB vI b ∨ w.heap.size ≤ b) ∧ (∀ b, OwnB vW' b → OwnB vW b ∨ w.heap.size ≤ b) ∧ ∀ b, OwnB y b → w.heap.size ≤ b

set_option maxRecDepth 100000 in
set_option maxHeartbeats 8000000 in
theorem BItems_is (w : World) (k : Nat) (vI vW : Value) (xs ys : List Value) (ls : List (List Item)) (B : Nat) (v : Value) (l : List Item) (h : BookAt w k vI vW xs ys ls ls B) (hl : ls.length < 200) (hv : w.ownsRow 0 29 3 v l.length (l.flatMap itemC)) (hn : l.length ≤ 1000000) (hB : ∀ b, OwnB v b → B ≤ b ∧ ¬ bown k vI vW xs ys b) :
    Calls Tryz.prog 11 #[.pointer (some ⟨k, 0, none⟩), v] w (BookTold w k vI vW xs ys ls B v l) := by
  obtain ⟨i0, hi, hz0, hz1, hz2⟩ := info_parts rowInfoI
  have hlt : (xs.length : Int) < 250 := by have := h.x.len; omega
  have hlt2 : xs.length < 250 := by have := h.x.len; omega
  have hlt3 : ys.length < 250 := by have := h.len; omega
  have hrowI := h.x.rowI
  have hrowW := h.rowW
  obtain ⟨aV, cV, rfl⟩ := ownsRow_form hv
  obtain ⟨aI, cI, rfl⟩ := ownsRow_form hrowI
  obtain ⟨aW, cW, rfl⟩ := ownsRow_form hrowW
  have c4 := heap_cell h.heap 4
  have z4 := heap_frozen h.heap 4
  simp only [List.getElem?_toArray, List.getElem?_cons_zero, List.getElem?_cons_succ] at c4
  have HH := Lib.hid h
  have HV := Lib.hid (And.intro hv hB)
  have HOA := Lib.hid ((Only.refl (fun _ => False) w).alloc (.cells #[.slice aV l.length cV] 22))
  have HOWN := Lib.hid (hrowI.alloc (.cells #[.slice aV l.length cV] 22))
  have HCE := Lib.hid (cells_new w [Value.slice aV l.length cV] 22 (0, 0))
  have hmax : xs.length + 1 ≤ maxLen := by unfold maxLen; omega
  have hnb : (Value.slice aI xs.length cI).ownBlock ≠ some k := fun e => (h.x.dI k e).1 rfl
  clear h hv hB hrowW hrowI
  go_enter Tryz.func11, Tryz.ntmps11
  go_wp2_with (at_builtin; refine wpList_append_moved _ rfl _ _ 33 rfl 22 i0 _ 1 24 Tryz.underlying33 hi hz0 hz1 hz2 rfl (by decide) _ _ _ rfl HOWN.out ⟨w.heap.size, 0, none⟩ 1 1 [Value.slice aV l.length cV] rfl rfl HCE.out (fun u hu => by rw [List.mem_singleton.1 hu]; rfl) hmax (by omega) ?_; intro a' c' wx hown2 hgr hmv; have hq : Only (fun b => OwnB (Value.slice aI xs.length cI) b) w wx := (HOA.out.mono (fun _ _ q => q.elim)).grown hgr (fun _ _ e => e); have e4 := (hq.cell (p := ⟨k, 4, none⟩) HH.out.x.lt hnb).trans c4; have y4 := (hq.frozen (p := ⟨k, 4, none⟩) HH.out.x.lt hnb).trans z4; have HG := Lib.hid (And.intro hown2 (And.intro hgr hmv)); clear hown2 hgr hmv hq)
  all_goals
    obtain ⟨hM, hO1⟩ := HH.out.growI HV.out.1 HV.out.2 HOA.out HG.out.1 HG.out.2.1 (fun b e => (HG.out.2.2 b e).imp id fun q => by rw [World.size_alloc] at q; omega)
    obtain ⟨W1, hW1⟩ : ∃ W1, wx.setCell ⟨k, 4, none⟩ (.slice a' (xs.length + 1) c') = W1 := ⟨_, rfl⟩
    rw [hW1] at hM hO1 ⊢
    have HMV : Hid (∀ b, OwnB (.slice a' (xs.length + 1) c') b → OwnB (.slice aI xs.length cI) b ∨ w.heap.size ≤ b) := Lib.hid fun b e => (HG.out.2.2 b e).imp id fun q => by rw [World.size_alloc] at q; omega
    generalize hvI : (Value.slice a' (xs.length + 1) c') = vI2 at *
    have HM := Lib.hid hM
    have HO1 := Lib.hid hO1
    have c5 := heap_cell hM.heap 5
    have z5 := heap_frozen hM.heap 5
    simp only [List.getElem?_toArray, List.getElem?_cons_zero, List.getElem?_cons_succ] at c5
    have HCP : Hid (∀ W, Only (fun _ => False) W1 W → Calls Tryz.prog 35 #[.slice aV l.length cV] W (OwnTold W l)) := Lib.hid fun W hW => copyI_is W _ l (row_only (row_own (fun _ => rfl) (own_only HV.out.1 HO1.out (fun b e q => q.elim (fun q => (HV.out.2 b e).2 (.inl q)) fun q => (HV.out.2 b e).2 (.inr (.inl q))))) hW (fun _ _ => id)) hn
    have hmax2 : ys.length + 1 ≤ maxLen := by unfold maxLen; omega
    have hnw : (Value.slice aW ys.length cW).ownBlock ≠ some k := fun e => (hM.dW k e).1 rfl
    clear hM hO1 HOA HOWN HCE HG e4 y4 c4 z4 hvI hW1 hnb
    go_region_law (first
      | (refine step_append_moved _ rfl _ _ 33 rfl 22 i0 _ 1 24 Tryz.underlying33 hi hz0 hz1 hz2 rfl (by decide) _ _ _ rfl ((own_only HM.out.rowW o5 (fun _ _ q => q)).alloc _) ⟨_, 0, none⟩ 1 1 [.slice aY l.length cY] rfl rfl (cells_new _ [.slice aY l.length cY] 22 (0, 0)) (fun u hu => by rw [List.mem_singleton.1 hu]; rfl) hmax2 (by omega) ?_; intro a3 c3 w3 hown3 hgr3 hmv3; have hq3 : Only (fun b => OwnB (Value.slice aW ys.length cW) b) W1 w3 := ((o5.mono (fun _ _ q => q.elim)).alloc _).grown hgr3 (fun _ _ e => e); have z6 := (hq3.frozen (p := ⟨k, 5, none⟩) (lt_of_cell c5) hnw).trans z5; have c6 := (hq3.cell (p := ⟨k, 5, none⟩) (lt_of_cell c5) hnw).trans c5)
      | (rw [if_pos (by simp [Region.wanted])]; go_simp; (with_reducible refine (HCP.out _ (by first | exact Only.refl _ _ | exact (Only.refl _ _).drew)).mono ?_); rintro e w4 ⟨y, rfl, hy, o4, hyn⟩; obtain ⟨aY, cY, rfl⟩ := ownsRow_form hy; have o5 : Only (fun _ => False) W1 w4 := (by first | exact o4 | exact ((Only.refl _ W1).drew).trans o4 (fun _ _ q => q)); have c7 := (o5.cell (p := ⟨k, 5, none⟩) (lt_of_cell c5) (fun q => q)).trans c5; have c8 := (((Only.refl (fun _ => False) w4).alloc (.cells #[.slice aY l.length cY] 22)).cell (p := ⟨k, 5, none⟩) (lt_of_cell c7) (fun q => q)).trans c7))
    all_goals
      go_end0
      have hM4 := HM.out.still o5
      have h45 := o5.size
      obtain ⟨hB9, hO9⟩ := hM4.growW hy (fun b e => ⟨by have := hyn b e; have h3 : W1.heap.size ≤ b := this; have := HM.out.x.lt; have := HM.out.x.new; omega, fun q => by have := (HM.out.bown_lt q).1; have h3 : W1.heap.size ≤ b := hyn b e; omega⟩) ((Only.refl (fun _ => False) w4).alloc _) hown3 hgr3 (fun b e => (hmv3 b e).imp id fun q => by rw [World.size_alloc] at q; omega)
      have hsz := HO1.out.size
      have hO1 : Only (fun b => b = k ∨ OwnB (Value.slice aI xs.length cI) b ∨ OwnB (Value.slice aW ys.length cW) b) w W1 := HO1.out.mono fun b _ q => q.imp id .inl
      have hO5 := hO1.trans o5 (fun _ _ q => q.elim)
      refine ⟨rfl, hO5.trans hO9 (fun b hb q => q.imp id .inr), vI2, _, _, hB9, HMV.out, fun b e => ?_, fun b e => ?_⟩
      · rcases hmv3 b e with q | q
        · exact .inl q
        · rw [World.size_alloc] at q; exact .inr (by omega)
      · have h3 : W1.heap.size ≤ b := hyn b e
        omega
end Go.Proofs.YtklccpaphkpgfaaGreat

namespace Go.Proofs.YtklccpaphkpgfaaGreat
open Go.RowKit

/-- How a question about the book ends. -/
def StillTold (w : World) : Ending → World → Prop := fun e w' => e = .returned (.bool true) ∧ Only (fun _ => False) w w'

set_option maxRecDepth 100000 in
set_option maxHeartbeats 8000000 in
theorem stillItems_is (w : World) (k : Nat) (vI vW : Value) (xs ys : List Value) (ls : List (List Item)) (B : Nat) (h : BookAt w k vI vW xs ys ls ls B) (hl : ls.length < 250) (hn : ∀ l ∈ ls, l.length ≤ 1000000) :
    Calls Tryz.prog 38 #[.pointer (some ⟨k, 0, none⟩)] w (StillTold w) := by
  have hxl := h.x.len
  have hyl := h.len
  have hrowI := h.x.rowI
  have hrowW := h.rowW
  obtain ⟨aI, cI, rfl⟩ := ownsRow_form hrowI
  obtain ⟨aW, cW, rfl⟩ := ownsRow_form hrowW
  obtain ⟨n, hnx⟩ : ∃ n, xs.length = n := ⟨_, rfl⟩
  have hny : ys.length = n := by omega
  have c4 := heap_cell h.heap 4
  have c5 := heap_cell h.heap 5
  simp only [List.getElem?_toArray, List.getElem?_cons_zero, List.getElem?_cons_succ] at c4 c5
  rw [hnx] at c4 hrowI
  rw [hny] at c5 hrowW
  have HH := Lib.hid (And.intro h (And.intro hn (And.intro hnx hny)))
  have HR := Lib.hid (And.intro hrowI hrowW)
  have hn250 : n < 250 := by omega
  clear h hn hnx hny hrowI hrowW hxl hyl hl
  go_enter Tryz.func38, Tryz.ntmps38
  go_wp2_with fail
  go_loopg [3] n (fun gh iv wr => ∃ i : Nat, gh + i = n ∧ iv = .int .i64 i ∧ Only (fun _ => False) w wr)
  case atStart => exact ⟨0, by omega, rfl, Only.refl _ w⟩
  case round =>
    obtain ⟨i, hgi, rfl, ho⟩ := hrel
    have d4 := (ho.cell (p := ⟨k, 4, none⟩) (lt_of_cell c4) (fun q => q)).trans c4
    have HO := Lib.hid ho
    by_cases hi : i < n
    · as_aux_lemma =>
      have hi2 : (i : Int) < (n : Int) := by omega
      have hi3 : (0 : Int) ≤ (i : Int) := by omega
      have hw1 : IntKind.i64.wrap ((i : Int) + 1) = (i : Int) + 1 := by exact IntWalk.i64_in _ (by omega)
      obtain ⟨hB, hn, hnx, hny⟩ := HH.out
      obtain ⟨x, hx⟩ : ∃ x, xs[i]? = some x := ⟨_, List.getElem?_eq_getElem (by omega)⟩
      obtain ⟨y, hy⟩ : ∃ y, ys[i]? = some y := ⟨_, List.getElem?_eq_getElem (by omega)⟩
      obtain ⟨l, hl⟩ : ∃ l, ls[i]? = some l := ⟨_, List.getElem?_eq_getElem (by have := hB.x.len; omega)⟩
      obtain ⟨gI, rfl⟩ : ∃ g, aI = some ⟨g, 0, none⟩ := (own_addr HR.out.1).resolve_left (fun q => by have := q.2.1; omega)
      obtain ⟨gW, rfl⟩ : ∃ g, aW = some ⟨g, 0, none⟩ := (own_addr HR.out.2).resolve_left (fun q => by have := q.2.1; omega)
      have ex := own_cell HR.out.1 i x hx
      have ey := own_cell HR.out.2 i y hy
      have rx := row_own (enc := itemC) (k := 3) (fun _ => rfl) (hB.x.rows i x l hx hl)
      have ry := row_own (enc := itemC) (k := 3) (fun _ => rfl) (hB.copies i y l hy hl)
      have hll := hn l (List.mem_of_getElem? hl)
      obtain ⟨aX, cX, rfl⟩ := row_form rx
      obtain ⟨aY, cY, rfl⟩ := row_form ry
      have q4 : ∀ p : Grew wr, p.u.cell? ⟨k, 4, none⟩ = some (.slice (some ⟨gI, 0, none⟩) n cI) := fun p => p.cell d4
      have q5 : ∀ p : Grew wr, p.u.cell? ⟨k, 5, none⟩ = some (.slice (some ⟨gW, 0, none⟩) n cW) := fun p => p.cell ((HO.out.cell (p := ⟨k, 5, none⟩) (lt_of_cell c5) (fun q => q)).trans c5)
      have qx : ∀ p : Grew wr, p.u.cell? ⟨gI, i, none⟩ = some (.slice aX l.length cX) := fun p => p.cell ((HO.out.cell (p := ⟨gI, i, none⟩) (lt_of_cell ex) (fun q => q)).trans ex)
      have qy : ∀ p : Grew wr, p.u.cell? ⟨gW, i, none⟩ = some (.slice aY l.length cY) := fun p => p.cell ((HO.out.cell (p := ⟨gW, i, none⟩) (lt_of_cell ey) (fun q => q)).trans ey)
      have HV1 : Hid (∀ p : Grew wr, Calls Tryz.prog 12 #[.slice aX l.length cX, .slice aY l.length cY] p.u fun e w' => e = .returned (.bool true) ∧ Only (fun _ => False) p.u w') := Lib.hid (fun p => SameI_is p.u _ _ l (row_only rx (HO.out.trans p.h (fun _ _ q => q)) (fun _ _ => id)) (row_only ry (HO.out.trans p.h (fun _ _ q => q)) (fun _ _ => id)) hll)
      clear rx ry ex ey hx hy hl hB hn hnx hny c4 c5 ho HR HH
      go_wp2_with fail
      refine wp_region_grew (by kernel_rfl) (by kernel_rfl) (fun _W h0 h1 => ?_)
      repeat (refine h1 _ _ _ (fun K hK => ?_); go_simp; first | (refine hK _ ?_; clear hK K) | (apply Exists.intro; refine ⟨fun _ => ?_, hK _ ?_⟩; (with_reducible refine Grew.calls _ (HV1.out _)); clear hK K))
      refine h0 _ (fun p => ?_)
      clear h0 h1 q4 q5 qx qy
      go_wp2_with fail
      go_roundg (gk - 1)
      case measure => omega
      case rel => exact ⟨i + 1, by omega, by go_num, HO.out.trans p.h (fun _ _ q => q)⟩
    · obtain rfl : i = n := by omega
      have hi2 : ¬ (i : Int) < (i : Int) := by omega
      clear ho
      go_wp2_with fail
      go_ret
      exact ⟨rfl, HO.out⟩

/-- The lists, the first so many of them marked. -/
def marksTo (ls : List (List Item)) (i : Nat) : List (List Item) := ls.mapIdx fun j l => if j < i then marksI j 0 l.length else l
theorem marksTo_length (ls : List (List Item)) (i : Nat) : (marksTo ls i).length = ls.length := by simp [marksTo]
theorem marksTo_at (ls : List (List Item)) (i j : Nat) : (marksTo ls i)[j]? = ls[j]?.map fun l => if j < i then marksI j 0 l.length else l := by
  unfold marksTo
  rw [List.getElem?_mapIdx]
theorem marksTo_zero (ls : List (List Item)) : marksTo ls 0 = ls := by
  apply List.ext_getElem?
  intro j
  rw [marksTo_at]
  cases ls[j]? <;> simp
theorem marksTo_next {ls : List (List Item)} {i : Nat} {l : List Item} (h : ls[i]? = some l) : marksTo ls (i + 1) = (marksTo ls i).set i (marksI i 0 l.length) := by
  apply List.ext_getElem?
  intro j
  rw [marksTo_at, List.getElem?_set]
  by_cases hij : i = j
  · subst hij
    rw [if_pos rfl, if_pos (by rw [marksTo_length]; exact (List.getElem?_eq_some_iff.1 h).1), h]
    simp
  · rw [if_neg hij, marksTo_at]
    cases ls[j]? with
    | none => rfl
    | some m =>
      simp only [Option.map_some]
      by_cases h2 : j < i
      · rw [if_pos (by omega), if_pos h2]
      · rw [if_neg (by omega), if_neg h2]
/-- A list is written over. -/
theorem BookX.write {w w' : World} {k : Nat} {vI v : Value} {xs : List Value} {ls : List (List Item)} {B i : Nat} (h : BookX w k vI xs ls B) (hi : xs[i]? = some v) (l' : List Item) (hown : w'.ownsRow 0 29 3 v l'.length (l'.flatMap itemC)) (ho : Only (fun b => OwnB v b) w w') : BookX w' k vI xs (ls.set i l') B := by
  obtain ⟨vW, hh⟩ := h.heap
  have hv := List.mem_of_getElem? hi
  refine ⟨⟨vW, (ho.block k h.lt fun e => (h.dk v hv k e).1 rfl).trans hh⟩, own_only h.rowI ho (fun b e q => (h.dk v hv b q).2.1 e), by rw [List.length_set]; exact h.len, fun j u m a b => ?_, h.dx, h.dk, h.dI, h.new⟩
  rw [List.getElem?_set] at b
  by_cases hij : i = j
  · subst hij
    rw [hi] at a
    cases a
    split at b
    · split at b
      · cases b; exact hown
      · cases b
    · exact absurd rfl (by assumption)
  · rw [if_neg hij] at b
    exact own_only (h.rows j u m a b) ho fun c e q => h.dx i j v u c hij hi a q e
end Go.Proofs.YtklccpaphkpgfaaGreat
