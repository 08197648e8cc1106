/- Package tree over the law's pages: the looker, and what it looks at in a leaf. Conditions: one goroutine; the pages hold the tree. (Printed by wip/gen/look3.py.) -/
import Derived.Test.YtklccpaphkpgfaaGreatZItems
import Derived.Test.YtklccpaphkpgfaaGreatZSame
namespace Go.Proofs.YtklccpaphkpgfaaGreat
open Go.RowKit

/-- A looker in memory, beside the pages: the pages that it has seen, the depth of the leaves. -/
structure Looks (w : World) (b lb sb : Nat) (S : PSt) (level : Int) (A : List Int) : Prop where
  pages : PagesAt w b S
  obj : w.heap[lb]? = some (.cells #[pagesV b, .map (some sb), .int .i64 level] 114 (0, 0))
  set : SetAt w sb A
  ne : lb ≠ sb
  pl : ¬ pown w b lb
  ps : ¬ pown w b sb
def lblk (lb sb : Nat) (k : Nat) : Prop := k = lb ∨ k = sb
section
variable {w w' : World} {b lb sb : Nat} {S S' : PSt} {level : Int} {A : List Int}
theorem Looks.lt (h : Looks w b lb sb S level A) : ∀ k, lblk lb sb k → k < w.heap.size := by
  rintro k (rfl | rfl)
  · exact (Array.getElem?_eq_some_iff.1 h.obj).1
  · exact h.set.lt
theorem Looks.apart (h : Looks w b lb sb S level A) : ∀ k, lblk lb sb k → ¬ pown w b k := by
  rintro k (rfl | rfl)
  · exact h.pl
  · exact h.ps
theorem Looks.beside {T : Nat → Prop} (h : Looks w b lb sb S level A) (ho : Only T w w') (hT : ∀ k, lblk lb sb k → ¬ T k) (hp : PagesAt w' b S') (hown : ∀ k, pown w' b k → pown w b k ∨ w.heap.size ≤ k) : Looks w' b lb sb S' level A :=
  have far : ∀ k, lblk lb sb k → ¬ pown w' b k := fun k hk q => (hown k q).elim (h.apart k hk) fun q => by have := h.lt k hk; omega
  ⟨hp, (ho.block lb (h.lt lb (.inl rfl)) (hT lb (.inl rfl))).trans h.obj, h.set.only ho (hT sb (.inr rfl)), h.ne, far lb (.inl rfl), far sb (.inr rfl)⟩
theorem Looks.step (h : Looks w b lb sb S level A) (hp : PagesAt w' b S') (st : PStep b w w') : Looks w' b lb sb S' level A :=
  h.beside st.only (fun k hk => h.apart k hk) hp st.own
theorem Looks.still (h : Looks w b lb sb S level A) (ho : Only (fun _ => False) w w') : Looks w' b lb sb S level A :=
  h.beside ho (fun _ _ => id) (h.pages.still ho) (PStep.still h.pages.lt ho).own
theorem Looks.see (h : Looks w b lb sb S level A) {i : Int} (hs : SetAt w' sb (i :: A)) (ho : Only (fun k => k = sb) w w') : Looks w' b lb sb S level (i :: A) ∧ CStep b (lblk lb sb) (lblk lb sb) w w' := by
  have hb : b ≠ sb := fun e => h.ps (.inl e.symm)
  have hw := ho.block b h.pages.lt hb
  have far : ∀ k, lblk lb sb k → ¬ pown w' b k := fun k hk q => h.apart k hk ((pown_of_heap hw k).1 q)
  obtain ⟨vL, vG, hI⟩ := h.pages
  exact ⟨⟨⟨vL, vG, hI.beside ho (fun j q e => h.ps (e ▸ q))⟩, (ho.block lb (h.lt lb (.inl rfl)) h.ne).trans h.obj, hs, h.ne, far lb (.inl rfl), far sb (.inr rfl)⟩,
    ⟨ho.mono (fun k _ q => .inl (.inr q)), fun _ q => .inl q, fun k q => .inl ((pown_of_heap hw k).1 q)⟩⟩
theorem Looks.leveled (h : Looks w b lb sb S level A) (n : Int) : Looks (w.setCell ⟨lb, 2, none⟩ (.int .i64 n)) b lb sb S n A ∧ CStep b (lblk lb sb) (lblk lb sb) w (w.setCell ⟨lb, 2, none⟩ (.int .i64 n)) := by
  have ho : Only (fun k => k = lb) w (w.setCell ⟨lb, 2, none⟩ (.int .i64 n)) := (Only.refl (fun k => k = lb) w).put lb 2 rfl _
  have hb : b ≠ lb := fun e => h.pl (.inl e.symm)
  have hw := ho.block b h.pages.lt hb
  have far : ∀ k, lblk lb sb k → ¬ pown (w.setCell ⟨lb, 2, none⟩ (.int .i64 n)) b k := fun k hk q => h.apart k hk ((pown_of_heap hw k).1 q)
  obtain ⟨vL, vG, hI⟩ := h.pages
  exact ⟨⟨⟨vL, vG, hI.beside ho (fun j q e => h.pl (e ▸ q))⟩, heap_setCell h.obj 2 _, h.set.only ho (fun e => h.ne e.symm), h.ne, far lb (.inl rfl), far sb (.inr rfl)⟩,
    ⟨ho.mono (fun k _ q => .inl (.inl q)), fun _ q => .inl q, fun k q => .inl ((pown_of_heap hw k).1 q)⟩⟩
end

/-- How a look ends. -/
def LeafEnds (w : World) (b lb sb : Nat) (S : PSt) (level : Int) (A : List Int) : Ending → World → Prop := fun e w' => e = .returned (.int .i64 0) ∧ Looks w' b lb sb S level A ∧ CStep b (lblk lb sb) (lblk lb sb) w w'

set_option maxRecDepth 100000 in
set_option maxHeartbeats 600000 in
theorem litems_is (w : World) (b lb sb : Nat) (S : PSt) (level : Int) (A : List Int) (pg depth : Int) (v : Value) (l : List Item) (low high : Bytes) (bd : Bool) (H : Looks w b lb sb S level A) (hr : RowC itemC 3 w v l) (hne : l ≠ []) (hin : InSpan low high bd l)
    (hlv : level = 0 ∨ level = depth) (hd : 1 ≤ depth) (hn : l.length ≤ 1000000) (hv : rowBlock v ≠ some lb) :
    Calls Tryz.prog 109 #[.pointer (some ⟨lb, 0, none⟩), .agg #[.int .i64 pg, .bool true, v, .slice none 0 0], .int .i64 depth, .agg #[str low, str high, .bool bd]] w (LeafEnds w b lb sb S depth A) := by
  obtain ⟨a, n0, c, rfl⟩ := capOk_form hr.cap
  obtain ⟨rfl, hsh⟩ := row_shape hr.row
  obtain ⟨g, off, rfl⟩ := hsh hne
  obtain ⟨m, hm⟩ : ∃ m, l.length = m + 1 := ⟨l.length - 1, by have := List.length_pos_iff.2 hne; omega⟩
  have o1 := ((Only.refl (fun _ => False) w).alloc (.cells #[.int .i64 pg, .bool true, .slice (some ⟨g, off, none⟩) l.length c, .slice none 0 0] 170)).alloc (.cells #[str low, str high, .bool bd] 117)
  have hN := (((Only.refl (fun _ => False) (w.alloc (.cells #[.int .i64 pg, .bool true, .slice (some ⟨g, off, none⟩) l.length c, .slice none 0 0] 170))).alloc (.cells #[str low, str high, .bool bd] 117)).block w.heap.size (by simp) id).trans (heap_alloc_new w (.cells #[.int .i64 pg, .bool true, .slice (some ⟨g, off, none⟩) l.length c, .slice none 0 0] 170))
  have hS := heap_alloc_new (w.alloc (.cells #[.int .i64 pg, .bool true, .slice (some ⟨g, off, none⟩) l.length c, .slice none 0 0] 170)) (.cells #[str low, str high, .bool bd] 117)
  rw [show (w.alloc (.cells #[.int .i64 pg, .bool true, .slice (some ⟨g, off, none⟩) l.length c, .slice none 0 0] 170)).heap.size = w.heap.size + 1 by simp] at hS
  have H1 := H.still o1
  have C1 := CStep.still (F := lblk lb sb) H.pages.lt o1
  have hr1 := row_only hr.row o1 (fun _ _ => id)
  have hlb := H.lt lb (.inl rfl)
  obtain ⟨x, hx⟩ : ∃ x, l[0]? = some x := ⟨_, List.getElem?_eq_getElem (by omega)⟩
  obtain ⟨y, hy⟩ : ∃ y, l[m]? = some y := ⟨_, List.getElem?_eq_getElem (by omega)⟩
  have hix := hin x (List.mem_of_getElem? hx)
  have hiy := hin y (List.mem_of_getElem? hy)
  have hgl : g ≠ lb := fun e => hv (by rw [e]; rfl)
  have l2 := heap_cell H1.obj 2
  have z2 := heap_frozen H1.obj 2
  simp only [List.getElem?_toArray, List.getElem?_cons_zero, List.getElem?_cons_succ] at l2
  have hHD : ∀ (key : Bytes), holdsB low high bd key = true → ∀ W, Calls Tryz.prog 110 #[.agg #[str low, str high, .bool bd], str key] W fun e w' => e = .returned (.bool true) ∧ Only (fun _ => False) W w' := fun key hk W => by
    have := holds_is W low high bd key
    rwa [hk] at this
  have hw1 : IntKind.i64.wrap ((l.length : Int) - 1) = (m : Int) := by rw [show (l.length : Int) - 1 = (m : Int) by omega]; exact IntWalk.i64_in _ (by omega)
  have hd0 : ¬ depth = 0 := by omega
  clear hr hin hv H hn
  rcases hlv with rfl | rfl
  · obtain ⟨H2, C2⟩ := H1.leveled depth
    obtain ⟨w2, hw2'⟩ : ∃ w2, ((w.alloc (.cells #[.int .i64 pg, .bool true, .slice (some ⟨g, off, none⟩) l.length c, .slice none 0 0] 170)).alloc (.cells #[str low, str high, .bool bd] 117)).setCell ⟨lb, 2, none⟩ (.int .i64 depth) = w2 := ⟨_, rfl⟩
    have oS : Only (fun k => k = lb) ((w.alloc (.cells #[.int .i64 pg, .bool true, .slice (some ⟨g, off, none⟩) l.length c, .slice none 0 0] 170)).alloc (.cells #[str low, str high, .bool bd] 117)) w2 := by
      rw [← hw2']
      exact (Only.refl (fun k => k = lb) ((w.alloc (.cells #[.int .i64 pg, .bool true, .slice (some ⟨g, off, none⟩) l.length c, .slice none 0 0] 170)).alloc (.cells #[str low, str high, .bool bd] 117))).put lb 2 rfl _
    have hN2 := (oS.block w.heap.size (by simp; omega) (by omega)).trans hN
    have hS2 := (oS.block (w.heap.size + 1) (by simp) (by omega)).trans hS
    have hr2 := row_only hr1 oS (fun k hk e => by have h3 : g = k := Option.some.inj hk; have h4 : k = lb := e; omega)
    rw [hw2'] at H2 C2
    have HL := Lib.hid (And.intro H2 (C1.trans C2))
    obtain ⟨g', off', he, x0, _, _⟩ := row_item hr2 hx
    cases he
    obtain ⟨g', off', he, y0, _, _⟩ := row_item hr2 hy
    cases he
    simp only [Nat.zero_mul, Nat.add_zero] at x0
    have qx : ∀ p : Grew w2, p.u.cell? ⟨g, off, none⟩ = some (str x.key) := fun p => p.cell x0
    have qy : ∀ p : Grew w2, p.u.cell? ⟨g, off + m * 3, none⟩ = some (str y.key) := fun p => p.cell y0
    have qn : ∀ p : Grew w2, p.u.cell? ⟨w.heap.size, 2, none⟩ = some (.slice (some ⟨g, off, none⟩) l.length c) := fun p => p.cell (by rw [heap_cell hN2]; rfl)
    have q0 : ∀ p : Grew w2, p.u.cell? ⟨w.heap.size + 1, 0, none⟩ = some (str low) := fun p => p.cell (by rw [heap_cell hS2]; rfl)
    have q1 : ∀ p : Grew w2, p.u.cell? ⟨w.heap.size + 1, 1, none⟩ = some (str high) := fun p => p.cell (by rw [heap_cell hS2]; rfl)
    have q2 : ∀ p : Grew w2, p.u.cell? ⟨w.heap.size + 1, 2, none⟩ = some (.bool bd) := fun p => p.cell (by rw [heap_cell hS2]; rfl)
    have ql : ∀ p : Grew w2, p.u.cell? ⟨lb, 2, none⟩ = some (.int .i64 depth) := fun p => p.cell (by rw [heap_cell HL.out.1.obj]; rfl)
    have HX := Lib.hid (fun p : Grew w2 => hHD x.key hix p.u)
    have HY := Lib.hid (fun p : Grew w2 => hHD y.key hiy p.u)
    have hln : ¬ ((l.length : Int) = 0) := by omega
    have hml : (m : Int) < (l.length : Int) := by omega
    have hm0 : (0 : Int) < (l.length : Int) := by omega
    have hln2 : ¬ (l.length = 0) := by omega
    have hln3 : 0 < l.length := by omega
    clear hx hy hix hiy hr1 hr2 hN hS hN2 hS2 o1 x0 y0 H1 C1 H2 C2 hHD hsh hne oS
    clear hm
    generalize hlL : l.length = L at *
    clear hlL
    go_enter Tryz.func109, Tryz.ntmps109
    go_wp2_with fail
    refine wp_region_grew (by kernel_rfl) (by kernel_rfl) (fun _W h0 h1 => ?_)
    repeat (refine h1 _ _ _ (fun K hK => ?_); go_simp; first | (refine hK _ ?_; clear hK K) | (apply Exists.intro; refine ⟨fun _ => ?_, hK _ ?_⟩; (first | with_reducible refine Grew.calls _ (HX.out _) | with_reducible refine Grew.calls _ (HY.out _)); clear hK K))
    refine h0 _ (fun p => ?_)
    clear h0 h1
    go_wp2_with fail
    go_ret
    exact ⟨rfl, HL.out.1.still p.h, HL.out.2.trans (CStep.still HL.out.1.pages.lt p.h)⟩
  · obtain ⟨w2, hw2'⟩ : ∃ w2, ((w.alloc (.cells #[.int .i64 pg, .bool true, .slice (some ⟨g, off, none⟩) l.length c, .slice none 0 0] 170)).alloc (.cells #[str low, str high, .bool bd] 117)) = w2 := ⟨_, rfl⟩
    have hN2 := hN
    have hS2 := hS
    have hr2 := hr1
    rw [hw2'] at hN2 hS2 hr2 l2
    have H2 := H1
    have C2 := C1
    rw [hw2'] at H2 C2
    have HL := Lib.hid (And.intro H2 C2)
    obtain ⟨g', off', he, x0, _, _⟩ := row_item hr2 hx
    cases he
    obtain ⟨g', off', he, y0, _, _⟩ := row_item hr2 hy
    cases he
    simp only [Nat.zero_mul, Nat.add_zero] at x0
    have qx : ∀ p : Grew w2, p.u.cell? ⟨g, off, none⟩ = some (str x.key) := fun p => p.cell x0
    have qy : ∀ p : Grew w2, p.u.cell? ⟨g, off + m * 3, none⟩ = some (str y.key) := fun p => p.cell y0
    have qn : ∀ p : Grew w2, p.u.cell? ⟨w.heap.size, 2, none⟩ = some (.slice (some ⟨g, off, none⟩) l.length c) := fun p => p.cell (by rw [heap_cell hN2]; rfl)
    have q0 : ∀ p : Grew w2, p.u.cell? ⟨w.heap.size + 1, 0, none⟩ = some (str low) := fun p => p.cell (by rw [heap_cell hS2]; rfl)
    have q1 : ∀ p : Grew w2, p.u.cell? ⟨w.heap.size + 1, 1, none⟩ = some (str high) := fun p => p.cell (by rw [heap_cell hS2]; rfl)
    have q2 : ∀ p : Grew w2, p.u.cell? ⟨w.heap.size + 1, 2, none⟩ = some (.bool bd) := fun p => p.cell (by rw [heap_cell hS2]; rfl)
    have ql : ∀ p : Grew w2, p.u.cell? ⟨lb, 2, none⟩ = some (.int .i64 level) := fun p => p.cell (by rw [heap_cell HL.out.1.obj]; rfl)
    have HX := Lib.hid (fun p : Grew w2 => hHD x.key hix p.u)
    have HY := Lib.hid (fun p : Grew w2 => hHD y.key hiy p.u)
    have hln : ¬ ((l.length : Int) = 0) := by omega
    have hml : (m : Int) < (l.length : Int) := by omega
    have hm0 : (0 : Int) < (l.length : Int) := by omega
    have hln2 : ¬ (l.length = 0) := by omega
    have hln3 : 0 < l.length := by omega
    clear hx hy hix hiy hr1 hr2 hN hS hN2 hS2 o1 x0 y0 H1 C1 H2 C2 hHD hsh hne
    clear hm
    generalize hlL : l.length = L at *
    clear hlL
    go_enter Tryz.func109, Tryz.ntmps109
    go_wp2_with fail
    refine wp_region_grew (by kernel_rfl) (by kernel_rfl) (fun _W h0 h1 => ?_)
    repeat (refine h1 _ _ _ (fun K hK => ?_); go_simp; first | (refine hK _ ?_; clear hK K) | (apply Exists.intro; refine ⟨fun _ => ?_, hK _ ?_⟩; (first | with_reducible refine Grew.calls _ (HX.out _) | with_reducible refine Grew.calls _ (HY.out _)); clear hK K))
    refine h0 _ (fun p => ?_)
    clear h0 h1
    go_wp2_with fail
    go_ret
    exact ⟨rfl, HL.out.1.still p.h, HL.out.2.trans (CStep.still HL.out.1.pages.lt p.h)⟩
end Go.Proofs.YtklccpaphkpgfaaGreat

namespace Go.Proofs.YtklccpaphkpgfaaGreat
open Go.RowKit

theorem run_max_str (ts : Array TypeId) (t : TypeId) (x y : Bytes) (w : World) : (Builtin.max_ ts t #[str x, str y]).run Tryz.prog w = .ok (str (maxB x y)) w := by
  unfold maxB str
  by_cases h : x < y
  · simp [Builtin.max_, Builtin.max2, Op.stringOp, asBool, bytesLess_eq, h]
  · simp [Builtin.max_, Builtin.max2, Op.stringOp, asBool, bytesLess_eq, h]

/-- A block that stays as it is, beside the looker and the pages. -/
structure Stay (w : World) (b lb sb k : Nat) (o : Obj) : Prop where
  obj : w.heap[k]? = some o
  far : ¬ lblk lb sb k
  apart : ¬ pown w b k
theorem Stay.lt {w : World} {b lb sb k : Nat} {o : Obj} (h : Stay w b lb sb k o) : k < w.heap.size := (Array.getElem?_eq_some_iff.1 h.obj).1
theorem Stay.step {w w' : World} {b lb sb k : Nat} {o : Obj} (h : Stay w b lb sb k o) (C : CStep b (lblk lb sb) (lblk lb sb) w w') : Stay w' b lb sb k o :=
  ⟨(C.only.block k h.lt (fun q => q.elim h.far h.apart)).trans h.obj, h.far, fun q => (C.own k q).elim h.apart (by have := h.lt; omega)⟩
theorem Looks.fresh {w w' : World} {b lb sb : Nat} {S : PSt} {level : Int} {A : List Int} {T : Nat → Prop} (h : Looks w b lb sb S level A) (ho : Only T w w') (hT : ∀ k, T k → w.heap.size ≤ k) : Looks w' b lb sb S level A ∧ CStep b (lblk lb sb) (lblk lb sb) w w' := by
  have hb : ¬ T b := fun q => by have := hT b q; have := h.pages.lt; omega
  have hw := ho.block b h.pages.lt hb
  have own : ∀ k, pown w' b k → pown w b k ∨ w.heap.size ≤ k := fun k q => .inl ((pown_of_heap hw k).1 q)
  have hlt := h.pages
  refine ⟨h.beside ho (fun k hk q => by have := hT k q; have := h.lt k hk; omega) ?_ own, ⟨(Only.refl (fun k => lblk lb sb k ∨ pown w b k) w).trans ho fun i hi q => by have := hT i q; omega, fun _ q => .inl q, own⟩⟩
  obtain ⟨vL, vG, hI⟩ := hlt
  exact ⟨vL, vG, hI.beside ho (fun j q e => by have := pown_lt h.pages q; have := hT j e; omega)⟩

/-- How a look ends. -/
def LookEnds (w : World) (b lb sb : Nat) (S : PSt) (level : Int) (A ids : List Int) : Ending → World → Prop := fun e w' => ∃ A', e = .returned (.int .i64 0) ∧ Looks w' b lb sb S level A' ∧ CStep b (lblk lb sb) (lblk lb sb) w w' ∧ (∀ j ∈ A', j ∈ A ∨ j ∈ ids) ∧ A'.length ≤ A.length + ids.length
/-- What a look does. -/
def LookDo (n : Nat) : Prop := ∀ (S : PSt) (id : Int) (b0 : Bytes) (l : List Item) (ids : List Int) (depth : Int) (low high : Bytes) (bd : Bool) (level : Int) (A : List Int) (w : World) (b lb sb : Nat), Tree S.L n id b0 l ids → 1 ≤ depth → depth + n ≤ 12 → S.stop < 0 → InSpan low high bd l → (level = 0 ∨ level = depth + n) → l.length ≤ 100000 →
    (∀ j ∈ ids, j ∉ A) → A.length + ids.length ≤ 1000000 → Looks w b lb sb S level A →
    Calls Tryz.prog 78 #[.pointer (some ⟨lb, 0, none⟩), .int .i64 id, .int .i64 depth, .agg #[str low, str high, .bool bd]] w (LookEnds w b lb sb S (depth + n) A ids)

set_option maxRecDepth 100000 in
set_option maxHeartbeats 4000000 in
theorem look_leaf : LookDo 0 := by
  intro S pg b0 l ids depth low high bd level A w b lb sb T hd hdm hs hin hlv hl hA hAn H
  cases T with
  | leaf _ _ hnd ne ok =>
    have hid := nodeAt_lt hnd
    have hfew : S.L.length ≤ 3998 := by
      obtain ⟨vL, vG, hI⟩ := H.pages
      exact hI.few
    have hwf : (Lit.int .i64 pg).wf = true := WalkArith.wf_i64 (by omega)
    have o0 := (Only.refl (fun _ => False) w).alloc (.cells #[str low, str high, .bool bd] 117)
    have hB0 := heap_alloc_new w (.cells #[str low, str high, .bool bd] 117)
    have H0 := H.still o0
    have hST0 : Stay (w.alloc (.cells #[str low, str high, .bool bd] 117)) b lb sb w.heap.size (.cells #[str low, str high, .bool bd] 117) := ⟨hB0, fun q => by have := H.lt _ q; omega, fun q => by have := pown_lt H.pages ((pown_of_heap (o0.block b H.pages.lt id) _).1 q); omega⟩
    have hLD := tload_leaf (w.alloc (.cells #[str low, str high, .bool bd] 117)) b S pg depth l H0.pages hs hnd (by omega) (by omega)
    have HLD := Lib.hid hLD
    have c0 := heap_cell H0.obj 0
    simp only [List.getElem?_toArray, List.getElem?_cons_zero] at c0
    have HH0 := Lib.hid (And.intro H0 (And.intro hST0 (CStep.still (F := lblk lb sb) H.pages.lt o0)))
    have HA := Lib.hid (And.intro (hA pg (by simp)) hin)
    rw [List.length_singleton] at hAn
    clear hLD hnd hA H H0 hST0 o0 hB0 hin
    unfold pagesV at HLD c0
    go_enter Tryz.func78, Tryz.ntmps78
    go_wp2_with fail
    refine HLD.out.mono ?_
    rintro e w1 ⟨v1, rfl, hrow, hap, hp1, st1⟩
    obtain ⟨a1, n1, c1, rfl⟩ := capOk_form hrow.cap
    obtain ⟨rfl, hsh⟩ := row_shape hrow.row
    obtain ⟨g, off, rfl⟩ := hsh ne
    have H1 := HH0.out.1.step hp1 st1
    have C1 := HH0.out.2.2.trans (CStep.ofP (F := lblk lb sb) st1)
    have ST1 := HH0.out.2.1.step (CStep.ofP st1)
    have o2 := (Only.refl (fun _ => False) w1).alloc (.cells #[.int .i64 pg, .bool true, .slice (some ⟨g, off, none⟩) l.length c1, .slice none 0 0] 170)
    have hN := heap_alloc_new w1 (.cells #[.int .i64 pg, .bool true, .slice (some ⟨g, off, none⟩) l.length c1, .slice none 0 0] 170)
    have H2 := H1.still o2
    have hrg : g ≠ lb := fun e => by
      subst e
      obtain ⟨x, hx⟩ : ∃ x, l[0]? = some x := ⟨_, List.getElem?_eq_getElem (List.length_pos_iff.2 ne)⟩
      obtain ⟨g2, off2, q, q0, _⟩ := row_item hrow.row hx
      cases q
      have hc := heap_cell H1.obj (off + 0 * 3)
      rw [q0] at hc
      match off, hc with
      | 0, hc => simp [pagesV, str] at hc
      | 1, hc => simp [str] at hc
      | 2, hc => simp [str] at hc
      | k + 3, hc => simp at hc
    have hrgs : g ≠ sb := fun e => by
      subst e
      obtain ⟨D, ⟨es, clock, hb, _⟩, _⟩ := H1.set
      obtain ⟨x, hx⟩ : ∃ x, l[0]? = some x := ⟨_, List.getElem?_eq_getElem (List.length_pos_iff.2 ne)⟩
      obtain ⟨g2, off2, q, q0, _⟩ := row_item hrow.row hx
      cases q
      simp [World.cell?, hb] at q0
    have hLK := H2.set.not_in pg hwf HA.out.1
    have d1 := heap_cell H2.obj 1
    simp only [List.getElem?_toArray, List.getElem?_cons_zero, List.getElem?_cons_succ] at d1
    obtain ⟨w3, hrun, hset, ho3⟩ := H2.set.put pg hwf (by unfold maxLen; omega)
    obtain ⟨H3, C3⟩ := H2.see hset ho3
    have hsb := H1.lt sb (.inr rfl)
    have hN3 := (ho3.block w1.heap.size (by simp) (by omega)).trans hN
    have ST3 := (ST1.step (CStep.still H1.pages.lt o2)).step C3
    have n0 := heap_cell hN3 0
    have n1 := heap_cell hN3 1
    have n2 := heap_cell hN3 2
    have n3 := heap_cell hN3 3
    have s0 := heap_cell ST3.obj 0
    have s1 := heap_cell ST3.obj 1
    have s2 := heap_cell ST3.obj 2
    simp only [List.getElem?_toArray, List.getElem?_cons_zero, List.getElem?_cons_succ] at n0 n1 n2 n3 s0 s1 s2
    have hrow3 := (hrow.only o2 (fun _ _ => id)).only ho3 (fun k hk e => by have hk2 : g = k := Option.some.inj hk; have e2 : k = sb := e; omega)
    have HLI := Lib.hid (litems_is w3 b lb sb S level (pg :: A) pg depth _ l low high bd H3 hrow3 ne HA.out.2 (by simpa using hlv) (by omega) (by omega) (fun e => hrg (Option.some.inj e)))
    have HC := Lib.hid ((C1.trans (CStep.still H1.pages.lt o2)).trans C3)
    clear hrow hap hp1 st1 HLD o2 hN H1 C1 ST1 H2 H3 C3 hset ho3 hrow3 hN3 ST3 HH0 hsh
    unfold LeafEnds at HLI
    generalize hlL : l.length = L at *
    clear hlL
    go_wp2_with fail
    refine HLI.out.mono ?_
    rintro e w5 ⟨rfl, H5, C5⟩
    have HF : Hid (LookEnds w b lb sb S (depth + (0 : Nat)) A [pg] (.returned (.int .i64 0)) w5) := Lib.hid ⟨pg :: A, rfl, by simpa using H5, HC.out.trans C5, (fun j hj => by rcases List.mem_cons.1 hj with rfl | hj; exact .inr (by simp); exact .inl hj), by simp⟩
    clear H5 C5 HLI
    go_wp2_with fail
    go_ret
    exact HF.out
end Go.Proofs.YtklccpaphkpgfaaGreat

namespace Go.Proofs.YtklccpaphkpgfaaGreat
open Go.RowKit

/-- How a look stands behind so many children. -/
structure Part (w wr : World) (b lb sb : Nat) (S : PSt) (lv top : Int) (A : List Int) (pg : Int) (ts : List Sprout) (g off nK c1 nb B0 : Nat) (low high : Bytes) (bd : Bool) (i : Nat) (Aj : List Int) : Prop where
  look : Looks wr b lb sb S lv Aj
  lev : (lv = 0 ∨ lv = top) ∧ (0 < i → lv = top)
  step : CStep b (lblk lb sb) (lblk lb sb) w wr
  row : RowC kidC 2 wr (.slice (some ⟨g, off, none⟩) nK c1) (ts.map Sprout.kid)
  lt : g < wr.heap.size
  far : ¬ lblk lb sb g
  apart : ¬ pown wr b g
  node : Stay wr b lb sb nb (.cells #[.int .i64 pg, .bool false, .slice none 0 0, .slice (some ⟨g, off, none⟩) nK c1] 170)
  span : Stay wr b lb sb B0 (.cells #[str low, str high, .bool bd] 117)
  sub : ∀ x ∈ Aj, x ∈ A ∨ x = pg ∨ x ∈ (ts.take i).flatMap Sprout.ids
  len : Aj.length ≤ A.length + 1 + ((ts.take i).flatMap Sprout.ids).length
section
variable {w wr w' : World} {b lb sb : Nat} {S : PSt} {lv lv' top : Int} {A A' : List Int} {pg : Int} {ts : List Sprout} {t : Sprout} {g off nK c1 nb B0 : Nat} {low high : Bytes} {bd : Bool} {i : Nat} {Aj : List Int}
theorem Part.go (h : Part w wr b lb sb S lv top A pg ts g off nK c1 nb B0 low high bd i Aj) (L : Looks w' b lb sb S lv' A') (C : CStep b (lblk lb sb) (lblk lb sb) wr w') (i' : Nat) (hl : (lv' = 0 ∨ lv' = top) ∧ (0 < i' → lv' = top)) (hs : ∀ x ∈ A', x ∈ A ∨ x = pg ∨ x ∈ (ts.take i').flatMap Sprout.ids) (hn : A'.length ≤ A.length + 1 + ((ts.take i').flatMap Sprout.ids).length) :
    Part w w' b lb sb S lv' top A pg ts g off nK c1 nb B0 low high bd i' A' :=
  ⟨L, hl, h.step.trans C, h.row.only C.only (fun k hk q => by have e : g = k := Option.some.inj hk; subst e; exact q.elim h.far h.apart), by have := C.only.size; have := h.lt; omega, h.far, fun q => (C.own g q).elim h.apart (by have := h.lt; omega), h.node.step C, h.span.step C, hs, hn⟩
theorem Part.fresh {T : Nat → Prop} (h : Part w wr b lb sb S lv top A pg ts g off nK c1 nb B0 low high bd i Aj) (ho : Only T wr w') (hT : ∀ k, T k → wr.heap.size ≤ k) : Part w w' b lb sb S lv top A pg ts g off nK c1 nb B0 low high bd i Aj :=
  h.go (h.look.fresh ho hT).1 (h.look.fresh ho hT).2 i h.lev h.sub h.len
theorem Part.next (h : Part w wr b lb sb S lv top A pg ts g off nK c1 nb B0 low high bd i Aj) (ht : ts[i]? = some t) (L : Looks w' b lb sb S top A') (C : CStep b (lblk lb sb) (lblk lb sb) wr w') (hs : ∀ j ∈ A', j ∈ Aj ∨ j ∈ t.ids) (hl : A'.length ≤ Aj.length + t.ids.length) :
    Part w w' b lb sb S top top A pg ts g off nK c1 nb B0 low high bd (i + 1) A' := by
  refine h.go L C (i + 1) ⟨.inr rfl, fun _ => rfl⟩ (fun x hx => ?_) ?_
  · rw [take_more ht]
    rcases hs x hx with q | q
    · rcases h.sub x q with q | q | q
      · exact .inl q
      · exact .inr (.inl q)
      · exact .inr (.inr (List.mem_append_left _ q))
    · exact .inr (.inr (List.mem_append_right _ q))
  · rw [take_more ht, List.length_append]
    have := h.len
    omega
end

set_option maxRecDepth 100000 in
set_option maxHeartbeats 8000000 in
theorem look_twig (n : Nat) (IH : LookDo n) : LookDo (n + 1) := by
  intro S pg b0 l ids depth low high bd level A w b lb sb T hd hdm hs hin hlv hl hA hAn H
  cases T with
  | twig _ _ ts hnd two ok sub bnd nd =>
    have hid := nodeAt_lt hnd
    have hfew : S.L.length ≤ 3998 := by
      obtain ⟨vL, vG, hI⟩ := H.pages
      exact hI.few
    have hwf : (Lit.int .i64 pg).wf = true := WalkArith.wf_i64 (by omega)
    have hne : ts ≠ [] := by intro q; subst q; simp at two
    have hnek : ts.map Sprout.kid ≠ [] := by simpa using hne
    have hlen : (ts.map Sprout.kid).length ≤ 255 := ok.2.2
    have htl : ts.length = (ts.map Sprout.kid).length := by simp
    have o0 := (Only.refl (fun _ => False) w).alloc (.cells #[str low, str high, .bool bd] 117)
    have hB0 := heap_alloc_new w (.cells #[str low, str high, .bool bd] 117)
    have H0 := H.still o0
    have hST0 : Stay (w.alloc (.cells #[str low, str high, .bool bd] 117)) b lb sb w.heap.size (.cells #[str low, str high, .bool bd] 117) := ⟨hB0, fun q => by have := H.lt _ q; omega, fun q => by have := pown_lt H.pages ((pown_of_heap (o0.block b H.pages.lt id) _).1 q); omega⟩
    have HLD := Lib.hid (tload_twig_new (w.alloc (.cells #[str low, str high, .bool bd] 117)) b S pg depth (ts.map Sprout.kid) H0.pages hs hnd (by omega) (by omega))
    have c0 := heap_cell H0.obj 0
    simp only [List.getElem?_toArray, List.getElem?_cons_zero] at c0
    have hHl := H.lt
    have hw0 := o0.size
    have HH0 := Lib.hid (And.intro H0 (And.intro hST0 (CStep.still (F := lblk lb sb) H.pages.lt o0)))
    have HT := Lib.hid (And.intro sub (And.intro nd (And.intro hA (And.intro hAn (And.intro hl (And.intro hin bnd))))))
    have HLV := Lib.hid hlv
    have hApg := hA pg (by simp)
    rw [List.length_cons] at hAn
    clear hnd hA H H0 hST0 o0 hB0 hin sub nd hl hlv bnd
    unfold pagesV at HLD c0
    go_enter Tryz.func78, Tryz.ntmps78
    go_wp2_with fail
    refine HLD.out.mono ?_
    rintro e w1 ⟨v1, rfl, hrow, hap, hp1, st1, hnew⟩
    obtain ⟨a1, n1, c1, rfl⟩ := capOk_form hrow.cap
    obtain ⟨rfl, hsh⟩ := row_shape hrow.row
    obtain ⟨g, off, rfl⟩ := hsh hnek
    have hcap := hrow.cap
    have hg0 := hnew g rfl
    have hg1 := hap g rfl
    have H1 := HH0.out.1.step hp1 st1
    have C1 := HH0.out.2.2.trans (CStep.ofP (F := lblk lb sb) st1)
    have ST1 := HH0.out.2.1.step (CStep.ofP st1)
    have o2 := (Only.refl (fun _ => False) w1).alloc (.cells #[.int .i64 pg, .bool false, .slice none 0 0, .slice (some ⟨g, off, none⟩) (ts.map Sprout.kid).length c1] 170)
    have hN := heap_alloc_new w1 (.cells #[.int .i64 pg, .bool false, .slice none 0 0, .slice (some ⟨g, off, none⟩) (ts.map Sprout.kid).length c1] 170)
    have H2 := H1.still o2
    have hLK := H2.set.not_in pg hwf hApg
    have d1 := heap_cell H2.obj 1
    simp only [List.getElem?_toArray, List.getElem?_cons_zero, List.getElem?_cons_succ] at d1
    obtain ⟨w3, hrun, hset, ho3⟩ := H2.set.put pg hwf (by unfold maxLen; omega)
    obtain ⟨H3, C3⟩ := H2.see hset ho3
    have hsb := H1.lt sb (.inr rfl)
    have C2 := CStep.still (F := lblk lb sb) H1.pages.lt o2
    have hNS2 : Stay (w1.alloc (.cells #[.int .i64 pg, .bool false, .slice none 0 0, .slice (some ⟨g, off, none⟩) (ts.map Sprout.kid).length c1] 170)) b lb sb w1.heap.size (.cells #[.int .i64 pg, .bool false, .slice none 0 0, .slice (some ⟨g, off, none⟩) (ts.map Sprout.kid).length c1] 170) := ⟨hN, fun q => by have := H1.lt _ q; omega, fun q => by have := pown_lt H1.pages ((pown_of_heap (o2.block b H1.pages.lt id) _).1 q); omega⟩
    have hNS3 := hNS2.step C3
    have ST3 := (ST1.step C2).step C3
    have hgw : w.heap.size ≤ g := by omega
    have hrow3 := (hrow.only o2 (fun _ _ => id)).only ho3 (fun k hk e => by have hk2 : g = k := Option.some.inj hk; have e2 : k = sb := e; have := hHl sb (.inr rfl); omega)
    have hP : Part w w3 b lb sb S level (depth + ((n + 1 : Nat) : Int)) A pg ts g off (ts.map Sprout.kid).length c1 w1.heap.size w.heap.size low high bd 0 (pg :: A) := by
      refine ⟨H3, ⟨HLV.out, fun q => by omega⟩, (C1.trans C2).trans C3, hrow3, ?_, fun q => ?_, fun q => ?_, hNS3, ST3, fun x hx => ?_, ?_⟩
      · have := C3.only.size; have := C2.only.size; have := hg1.2; omega
      · have := hHl g q; omega
      · rcases C3.own g q with q | q
        · rcases C2.own g q with q | q
          · exact hg1.1 q
          · have := hg1.2; omega
        · have := C2.only.size; have := hg1.2; omega
      · rcases List.mem_cons.1 hx with q | q
        · exact .inr (.inl q)
        · exact .inl q
      · rw [List.length_cons]; omega
    have HP3 := Lib.hid hP
    have n1 := heap_cell hNS3.obj 1
    have n3 := heap_cell hNS3.obj 3
    simp only [List.getElem?_toArray, List.getElem?_cons_zero, List.getElem?_cons_succ] at n1 n3
    clear hrow hap hp1 st1 hnew HLD o2 hN H1 C1 ST1 H2 H3 C3 C2 hset ho3 hrow3 hNS2 hNS3 ST3 HH0 hsh hP hg0 hg1 hsb hgw hHl hw0 HLV
    have h2k : ¬ ((ts.map Sprout.kid).length : Int) < 2 := by omega
    generalize hnV : (ts.map Sprout.kid).length = nV at *
    generalize hwB : w.heap.size = B0 at *
    clear hwB
    have hc1 : nV ≤ c1 := hcap.1
    clear hcap hnV
    go_wp2_with fail
    generalize w1.heap.size = nb at *
    go_loopg [55] nV (fun gh iv wr => ∃ (j : Nat) (lv : Int) (Aj : List Int), gh + j = nV ∧ iv = .int .i64 j ∧ Part w wr b lb sb S lv (depth + ((n + 1 : Nat) : Int)) A pg ts g off nV c1 nb B0 low high bd j Aj)
    case atStart => exact ⟨0, level, pg :: A, by omega, rfl, HP3.out⟩
    case round =>
      obtain ⟨j, lv, Aj, hgj, rfl, hP⟩ := hrel
      have HPj := Lib.hid hP
      clear HP3
      by_cases hj : j < nV
      · have hj1 : (j : Int) < (nV : Int) := by omega
        have hj0 : (0 : Int) ≤ (j : Int) := by omega
        obtain ⟨t, ht⟩ : ∃ t, ts[j]? = some t := ⟨_, List.getElem?_eq_getElem (by omega)⟩
        obtain ⟨g', off', he, k1, k2⟩ := row_kid hP.row.row (k := j) (x := t.kid) (by rw [List.getElem?_map, ht]; rfl)
        cases he
        have hw1 : IntKind.i64.wrap (depth + 1) = depth + 1 := by exact IntWalk.i64_in _ (by omega)
        have hw2 : IntKind.i64.wrap ((j : Int) + 1) = (j : Int) + 1 := by exact IntWalk.i64_in _ (by omega)
        obtain ⟨sub, nd, hA, hAn, hl, hin, bnd⟩ := HT.out
        have hsp := span_kid sub bnd hin ht
        have hap := ids_apart ht nd
        have hir := ids_room ht
        have hit := items_room ht
        have hlen2 := hP.len
        have hsub2 := hP.sub
        have hlev := hP.lev
        rw [List.length_cons] at hAn
        have HIH : Hid (∀ (hi : Bytes) (bb : Bool) (W : World), InSpan (maxB low t.kid.key) hi bb t.items → Looks W b lb sb S lv Aj → Calls Tryz.prog 78 #[.pointer (some ⟨lb, 0, none⟩), .int .i64 t.kid.page, .int .i64 (depth + 1), .agg #[str (maxB low t.kid.key), str hi, .bool bb]] W (LookEnds W b lb sb S (depth + 1 + n) Aj t.ids)) := Lib.hid (fun hi bb W hI hL =>
          IH S t.kid.page t.low t.items t.ids (depth + 1) (maxB low t.kid.key) hi bb lv Aj W b lb sb (sub t (List.mem_of_getElem? ht)) (by omega) (by omega) hs hI (by have := hlev.1; omega) (by omega) (fun y hy q => by
            rcases hsub2 y q with q | q | q
            · exact hA y (List.mem_cons_of_mem _ (hap y hy).2.2) q
            · exact (hap y hy).1 q
            · exact (hap y hy).2.1 q) (by omega) hL)
        have hmx := fun (W : World) => run_max_str #[9, 9] 9 low t.kid.key W
        obtain ⟨w2, hW2⟩ : ∃ w2, (wr.alloc (.cells #[str t.kid.key, .int .i64 t.kid.page] 159)).alloc (.cells #[str low, str high, .bool bd] 117) = w2 := ⟨_, rfl⟩
        have oK := (Only.refl (fun _ => False) wr).alloc (.cells #[str t.kid.key, .int .i64 t.kid.page] 159)
        have oS := (Only.refl (fun _ => False) (wr.alloc (.cells #[str t.kid.key, .int .i64 t.kid.page] 159))).alloc (.cells #[str low, str high, .bool bd] 117)
        have hsz : (wr.alloc (.cells #[str t.kid.key, .int .i64 t.kid.page] 159)).heap.size = wr.heap.size + 1 := by simp
        have hkB := (oS.block wr.heap.size (by omega) id).trans (heap_alloc_new wr (.cells #[str t.kid.key, .int .i64 t.kid.page] 159))
        have hiB := heap_alloc_new (wr.alloc (.cells #[str t.kid.key, .int .i64 t.kid.page] 159)) (.cells #[str low, str high, .bool bd] 117)
        rw [hsz] at hiB
        have o2 := oK.trans oS (fun _ _ q => q)
        rw [hW2] at hkB hiB o2
        have h2s := o2.size
        have hi2 := (Array.getElem?_eq_some_iff.1 hiB).1
        have hk2 := (Array.getElem?_eq_some_iff.1 hkB).1
        have P1 := hP.fresh oK (fun _ q => q.elim)
        have P2 := hP.fresh o2 (fun _ q => q.elim)
        have s0 := heap_cell P1.span.obj 0
        have s1 := heap_cell P1.span.obj 1
        have s2 := heap_cell P1.span.obj 2
        have n3 := heap_cell P2.node.obj 3
        have i0 := heap_cell hiB 0
        have i1 := heap_cell hiB 1
        have i2 := heap_cell hiB 2
        have z0 := heap_frozen hiB 0
        have z1 := heap_frozen hiB 1
        have z2 := heap_frozen hiB 2
        simp only [List.getElem?_toArray, List.getElem?_cons_zero, List.getElem?_cons_succ] at s0 s1 s2 n3 i0 i1 i2
        have HO2 : Hid (Only (fun k => wr.heap.size ≤ k) wr w2) := Lib.hid (o2.mono (fun _ _ q => q.elim))
        have HKB := Lib.hid hkB
        have HIB := Lib.hid hiB
        have HTJ := Lib.hid ht
        have HP2 := Lib.hid P2
        have hspl := hP.span.lt
        have hndl := hP.node.lt
        clear hkB oK oS o2 hsz P1 sub nd hA hAn hl hin bnd hap hir hit hlen2 hsub2 hlev hP
        by_cases hlast : j + 1 < nV
        · have hl1 : (j : Int) + 1 < (nV : Int) := by omega
          have hl0 : (0 : Int) ≤ (j : Int) + 1 := by omega
          obtain ⟨u, hu⟩ : ∃ u, ts[j + 1]? = some u := ⟨_, List.getElem?_eq_getElem (by omega)⟩
          obtain ⟨g', off', he, k3, _⟩ := row_kid P2.row.row (k := j + 1) (x := u.kid) (by rw [List.getElem?_map, hu]; rfl)
          cases he
          have HSP : Hid ((0 < j → holdsB low high bd t.kid.key = true) ∧ InSpan (maxB low t.kid.key) u.kid.key true t.items) := Lib.hid ⟨hsp.1, by
            have := hsp.2
            unfold kidLow kidHigh kidBound at this
            rw [List.getElem?_map, hu, List.length_map, if_pos (by omega)] at this
            exact this⟩
          obtain ⟨w5, hW5⟩ : ∃ w5, (w2.setCell ⟨wr.heap.size + 1, 1, none⟩ (str u.kid.key)).setCell ⟨wr.heap.size + 1, 2, none⟩ (.bool true) = w5 := ⟨_, rfl⟩
          have o5 := ((Only.refl (fun k => k = wr.heap.size + 1) w2).put (wr.heap.size + 1) 1 rfl (str u.kid.key)).put (wr.heap.size + 1) 2 rfl (.bool true)
          have hiB5 : w5.heap[wr.heap.size + 1]? = some (.cells #[str low, str u.kid.key, .bool true] 117 (0, 0)) := by
            rw [← hW5]
            exact heap_setCell (heap_setCell HIB.out 1 (str u.kid.key)) 2 (.bool true)
          rw [hW5] at o5
          have HSP5 := hu
          clear hsp P2 hu
          have IBx := hiB5
          have KBx := (o5.block wr.heap.size hk2 (by show ¬ wr.heap.size = wr.heap.size + 1; omega)).trans HKB.out
          have OX := HO2.out.trans (o5.mono (fun k _ e => by have e2 : k = wr.heap.size + 1 := e; show wr.heap.size ≤ k; omega)) (fun _ _ q => q)
          have Px := HPj.out.fresh OX (fun _ q => q)
          clear hiB5
          have e0 := heap_cell IBx 0
          have e1 := heap_cell IBx 1
          have e2 := heap_cell IBx 2
          have f0 := heap_cell KBx 0
          have f1 := heap_cell KBx 1
          have m0 := heap_cell Px.span.obj 0
          have m1 := heap_cell Px.span.obj 1
          have m2 := heap_cell Px.span.obj 2
          have y0 := heap_frozen IBx 0
          simp only [List.getElem?_toArray, List.getElem?_cons_zero, List.getElem?_cons_succ] at e0 e1 e2 f0 f1 m0 m1 m2
          have HIX := Lib.hid IBx
          have HKX := Lib.hid KBx
          by_cases hjp : 0 < j
          · have hjp1 : (0 : Int) < (j : Int) := by omega
            have HHD := holds_is w5 low high bd t.kid.key
            rw [HSP.out.1 hjp] at HHD
            have HHD := Lib.hid HHD
            clear IBx KBx Px
            go_wp2_with fail
            refine HHD.out.mono ?_
            rintro e w6 ⟨rfl, o6⟩
            have IB6 := (o6.block (wr.heap.size + 1) (Array.getElem?_eq_some_iff.1 HIX.out).1 id).trans HIX.out
            have KB6 := (o6.block wr.heap.size (Array.getElem?_eq_some_iff.1 HKX.out).1 id).trans HKX.out
            have O6 := OX.trans o6 (fun _ _ q => q.elim)
            have P6 := HPj.out.fresh O6 (fun _ q => q)
            have ho6 := o6.size
            obtain ⟨w7, hW7⟩ : ∃ w7, w6.setCell ⟨wr.heap.size + 1, 0, none⟩ (str (maxB low t.kid.key)) = w7 := ⟨_, rfl⟩
            have o7 := (Only.refl (fun k => k = wr.heap.size + 1) w6).put (wr.heap.size + 1) 0 rfl (str (maxB low t.kid.key))
            have IB7 : w7.heap[wr.heap.size + 1]? = some (.cells #[str (maxB low t.kid.key), str u.kid.key, .bool true] 117 (0, 0)) := by
              rw [← hW7]
              exact heap_setCell IB6 0 _
            rw [hW7] at o7
            have KB7 := (o7.block wr.heap.size (Array.getElem?_eq_some_iff.1 KB6).1 (by show ¬ wr.heap.size = wr.heap.size + 1; omega)).trans KB6
            have r0 := heap_cell IB6 0
            have ry := heap_frozen IB6 0
            have rk := heap_cell KB6 0
            have g0 := heap_cell IB7 0
            have g1 := heap_cell IB7 1
            have g2 := heap_cell IB7 2
            have g3 := heap_cell KB7 1
            simp only [List.getElem?_toArray, List.getElem?_cons_zero, List.getElem?_cons_succ] at r0 rk g0 g1 g2 g3
            have P7 := HPj.out.fresh (O6.trans (o7.mono (fun k _ e => by have e2 : k = wr.heap.size + 1 := e; show wr.heap.size ≤ k; omega)) (fun _ _ q => q)) (fun _ q => q)
            have HI7 := Lib.hid (HIH.out u.kid.key true w7 HSP.out.2 P7.look)
            have HP7 := Lib.hid P7
            clear IB6 KB6 P6 P7 IB7 KB7 o7
            unfold LookEnds at HI7
            go_wp2_with fail
            refine HI7.out.mono ?_
            rintro e w8 ⟨A', rfl, L8, C8, s8, l8⟩
            have HP8 := Lib.hid (HP7.out.next HTJ.out (by rw [show depth + 1 + (n : Int) = depth + ((n + 1 : Nat) : Int) by omega] at L8; exact L8) C8 s8 l8)
            clear L8 C8 s8 l8 HI7
            go_wp2_with fail
            go_roundg (gk - 1)
            case measure => omega
            case rel => exact ⟨j + 1, _, A', by omega, by go_num, HP8.out⟩
          · have hjp1 : ¬ (0 : Int) < (j : Int) := by omega
            clear e0 e1 e2 f0 f1 m0 m1 m2 y0
            obtain ⟨w7, hW7⟩ : ∃ w7, w5.setCell ⟨wr.heap.size + 1, 0, none⟩ (str (maxB low t.kid.key)) = w7 := ⟨_, rfl⟩
            have o7 := (Only.refl (fun k => k = wr.heap.size + 1) w5).put (wr.heap.size + 1) 0 rfl (str (maxB low t.kid.key))
            have IB7 : w7.heap[wr.heap.size + 1]? = some (.cells #[str (maxB low t.kid.key), str u.kid.key, .bool true] 117 (0, 0)) := by
              rw [← hW7]
              exact heap_setCell IBx 0 _
            rw [hW7] at o7
            have KB7 := (o7.block wr.heap.size (Array.getElem?_eq_some_iff.1 KBx).1 (by show ¬ wr.heap.size = wr.heap.size + 1; omega)).trans KBx
            have r0 := heap_cell IBx 0
            have ry := heap_frozen IBx 0
            have rk := heap_cell KBx 0
            have g0 := heap_cell IB7 0
            have g1 := heap_cell IB7 1
            have g2 := heap_cell IB7 2
            have g3 := heap_cell KB7 1
            simp only [List.getElem?_toArray, List.getElem?_cons_zero, List.getElem?_cons_succ] at r0 rk g0 g1 g2 g3
            have P7 := HPj.out.fresh (OX.trans (o7.mono (fun k _ e => by have e2 : k = wr.heap.size + 1 := e; show wr.heap.size ≤ k; omega)) (fun _ _ q => q)) (fun _ q => q)
            have HI7 := Lib.hid (HIH.out u.kid.key true w7 HSP.out.2 P7.look)
            have HP7 := Lib.hid P7
            clear IBx KBx Px P7 IB7 KB7 o7
            unfold LookEnds at HI7
            go_wp2_with fail
            refine HI7.out.mono ?_
            rintro e w8 ⟨A', rfl, L8, C8, s8, l8⟩
            have HP8 := Lib.hid (HP7.out.next HTJ.out (by rw [show depth + 1 + (n : Int) = depth + ((n + 1 : Nat) : Int) by omega] at L8; exact L8) C8 s8 l8)
            clear L8 C8 s8 l8 HI7
            go_wp2_with fail
            go_roundg (gk - 1)
            case measure => omega
            case rel => exact ⟨j + 1, _, A', by omega, by go_num, HP8.out⟩
        · have hl1 : ¬ (j : Int) + 1 < (nV : Int) := by omega
          have HSP : Hid ((0 < j → holdsB low high bd t.kid.key = true) ∧ InSpan (maxB low t.kid.key) high bd t.items) := Lib.hid ⟨hsp.1, by
            have := hsp.2
            unfold kidLow kidHigh kidBound at this
            rw [List.getElem?_map, List.getElem?_eq_none (by omega), List.length_map, if_neg (by omega)] at this
            exact this⟩
          clear hsp P2
          have IBx := HIB.out
          have KBx := HKB.out
          have OX := HO2.out
          have Px := HP2.out
          have e0 := heap_cell IBx 0
          have e1 := heap_cell IBx 1
          have e2 := heap_cell IBx 2
          have f0 := heap_cell KBx 0
          have f1 := heap_cell KBx 1
          have m0 := heap_cell Px.span.obj 0
          have m1 := heap_cell Px.span.obj 1
          have m2 := heap_cell Px.span.obj 2
          have y0 := heap_frozen IBx 0
          simp only [List.getElem?_toArray, List.getElem?_cons_zero, List.getElem?_cons_succ] at e0 e1 e2 f0 f1 m0 m1 m2
          have HIX := Lib.hid IBx
          have HKX := Lib.hid KBx
          by_cases hjp : 0 < j
          · have hjp1 : (0 : Int) < (j : Int) := by omega
            have HHD := holds_is w2 low high bd t.kid.key
            rw [HSP.out.1 hjp] at HHD
            have HHD := Lib.hid HHD
            clear IBx KBx Px
            go_wp2_with fail
            refine HHD.out.mono ?_
            rintro e w6 ⟨rfl, o6⟩
            have IB6 := (o6.block (wr.heap.size + 1) (Array.getElem?_eq_some_iff.1 HIX.out).1 id).trans HIX.out
            have KB6 := (o6.block wr.heap.size (Array.getElem?_eq_some_iff.1 HKX.out).1 id).trans HKX.out
            have O6 := OX.trans o6 (fun _ _ q => q.elim)
            have P6 := HPj.out.fresh O6 (fun _ q => q)
            have ho6 := o6.size
            obtain ⟨w7, hW7⟩ : ∃ w7, w6.setCell ⟨wr.heap.size + 1, 0, none⟩ (str (maxB low t.kid.key)) = w7 := ⟨_, rfl⟩
            have o7 := (Only.refl (fun k => k = wr.heap.size + 1) w6).put (wr.heap.size + 1) 0 rfl (str (maxB low t.kid.key))
            have IB7 : w7.heap[wr.heap.size + 1]? = some (.cells #[str (maxB low t.kid.key), str high, .bool bd] 117 (0, 0)) := by
              rw [← hW7]
              exact heap_setCell IB6 0 _
            rw [hW7] at o7
            have KB7 := (o7.block wr.heap.size (Array.getElem?_eq_some_iff.1 KB6).1 (by show ¬ wr.heap.size = wr.heap.size + 1; omega)).trans KB6
            have r0 := heap_cell IB6 0
            have ry := heap_frozen IB6 0
            have rk := heap_cell KB6 0
            have g0 := heap_cell IB7 0
            have g1 := heap_cell IB7 1
            have g2 := heap_cell IB7 2
            have g3 := heap_cell KB7 1
            simp only [List.getElem?_toArray, List.getElem?_cons_zero, List.getElem?_cons_succ] at r0 rk g0 g1 g2 g3
            have P7 := HPj.out.fresh (O6.trans (o7.mono (fun k _ e => by have e2 : k = wr.heap.size + 1 := e; show wr.heap.size ≤ k; omega)) (fun _ _ q => q)) (fun _ q => q)
            have HI7 := Lib.hid (HIH.out high bd w7 HSP.out.2 P7.look)
            have HP7 := Lib.hid P7
            clear IB6 KB6 P6 P7 IB7 KB7 o7
            unfold LookEnds at HI7
            go_wp2_with fail
            refine HI7.out.mono ?_
            rintro e w8 ⟨A', rfl, L8, C8, s8, l8⟩
            have HP8 := Lib.hid (HP7.out.next HTJ.out (by rw [show depth + 1 + (n : Int) = depth + ((n + 1 : Nat) : Int) by omega] at L8; exact L8) C8 s8 l8)
            clear L8 C8 s8 l8 HI7
            go_wp2_with fail
            go_roundg (gk - 1)
            case measure => omega
            case rel => exact ⟨j + 1, _, A', by omega, by go_num, HP8.out⟩
          · exfalso; omega
      · obtain rfl : j = nV := by omega
        have hj1 : ¬ (j : Int) < (j : Int) := by omega
        have HTS : Hid (ts.take j = ts) := Lib.hid (List.take_of_length_le (by omega))
        have HF : Hid (LookEnds w b lb sb S (depth + ((n + 1 : Nat) : Int)) A (pg :: ts.flatMap Sprout.ids) (.returned (.int .i64 0)) wr) := Lib.hid (by
          have hlv2 := hP.lev.2 (by omega)
          have hL := hP.look
          rw [hlv2] at hL
          refine ⟨Aj, rfl, hL, hP.step, fun y hy => ?_, ?_⟩
          · rcases hP.sub y hy with q | q | q
            · exact .inl q
            · exact .inr (by simp [q])
            · rw [HTS.out] at q
              exact .inr (List.mem_cons_of_mem _ q)
          · have := hP.len
            rw [HTS.out] at this
            rw [List.length_cons]
            omega)
        clear hP
        go_wp2_with fail
        go_ret
        have hF := HF.out
        rw [show ((n + 1 : Nat) : Int) = (n : Int) + 1 by omega] at hF
        exact hF
theorem look_is (n : Nat) : LookDo n := by
  induction n with
  | zero => exact look_leaf
  | succ n ih => exact look_twig n ih
end Go.Proofs.YtklccpaphkpgfaaGreat

namespace Go.Proofs.YtklccpaphkpgfaaGreat
open Go.RowKit

theorem CStep.toP2 {b lb sb : Nat} {w wA w' : World} (hb : b < w.heap.size) (ho : Only (fun _ => False) w wA) (C : CStep b (lblk lb sb) (lblk lb sb) wA w') (h1 : w.heap.size ≤ lb) (h2 : w.heap.size ≤ sb) : PStep b w w' :=
  CStep.toP hb ho C fun _ hk => hk.elim (fun e => e ▸ h1) (fun e => e ▸ h2)

set_option maxRecDepth 100000 in
set_option maxHeartbeats 4000000 in
theorem tCheck_is (w : World) (b : Nat) (S : PSt) (root : Int) (l : List Item) (ids : List Int) (h : PagesAt w b S) (R : Rooted S.L root l ids) (hs : S.stop < 0) (hl : l.length < 2 ^ 11) :
    Calls Tryz.prog 24 #[pagesV b, .int .i64 root] w fun e w' => e = .returned (.int .i64 0) ∧ PagesAt w' b S ∧ PStep b w w' := by
  have hnil := pages_nil b
  have hidl := R.many
  cases R with
  | none =>
    have HO := Lib.hid h
    clear h
    unfold pagesV at hnil ⊢
    go_enter Tryz.func24, Tryz.ntmps24
    go_wp2_with fail
    go_ret
    exact ⟨rfl, HO.out, PStep.refl b w⟩
  | some n _ bb _ _ T =>
    have hmany := T.many
    have hn : n < 11 := by
      apply Classical.byContradiction
      intro q
      have := Nat.pow_le_pow_right (n := 2) (by omega) (Nat.le_of_not_lt q)
      omega
    have hself := T.there _ T.self
    have hr0 : ¬ root = 0 := by omega
    have o1 := (Only.refl (fun _ => False) w).alloc (.map #[] 0)
    have o2 := o1.alloc (.cells #[pagesV b, .map (some w.heap.size), .int .i64 0] 114)
    have hset := SetAt.made w
    have hset2 := hset.only ((Only.refl (fun _ => False) (w.alloc (.map #[] 0))).alloc (.cells #[pagesV b, .map (some w.heap.size), .int .i64 0] 114)) id
    have hN := heap_alloc_new (w.alloc (.map #[] 0)) (.cells #[pagesV b, .map (some w.heap.size), .int .i64 0] 114)
    rw [show (w.alloc (.map #[] 0)).heap.size = w.heap.size + 1 by simp] at hN
    have hpw := h.lt
    have hfresh : ∀ k, w.heap.size ≤ k → ¬ pown ((w.alloc (.map #[] 0)).alloc (.cells #[pagesV b, .map (some w.heap.size), .int .i64 0] 114)) b k := fun k hk q => by
      have := pown_lt h ((pown_of_heap (o2.block b hpw id) k).1 q)
      omega
    have L : Looks ((w.alloc (.map #[] 0)).alloc (.cells #[pagesV b, .map (some w.heap.size), .int .i64 0] 114)) b (w.heap.size + 1) w.heap.size S 0 [] :=
      ⟨h.still o2, hN, hset2, by omega, hfresh _ (by omega), hfresh _ (Nat.le_refl _)⟩
    have HI := Lib.hid (look_is n S root bb l ids 1 [] [] false 0 [] _ b (w.heap.size + 1) w.heap.size T (by omega) (by omega) hs (InSpan.all l) (.inl rfl) (by omega) (fun _ _ q => by cases q) (by simp only [List.length_nil]; omega) L)
    have HO2 := Lib.hid o2
    have hrun := fun (W : World) => run_makeMap (P := Tryz.prog) 109 W
    clear o1 o2 hset hset2 hN hfresh L T h
    unfold pagesV LookEnds at HI
    unfold pagesV at hnil ⊢
    go_enter Tryz.func24, Tryz.ntmps24
    go_wp2_with fail
    refine HI.out.mono ?_
    rintro e w5 ⟨A', rfl, L5, C5, s5, l5⟩
    have HF : Hid (PagesAt w5 b S ∧ PStep b w w5) := Lib.hid ⟨L5.pages, CStep.toP2 hpw HO2.out C5 (by omega) (by omega)⟩
    clear L5 C5 s5 l5 HI HO2
    go_wp2_with fail
    go_ret
    exact ⟨rfl, HF.out⟩
end Go.Proofs.YtklccpaphkpgfaaGreat
