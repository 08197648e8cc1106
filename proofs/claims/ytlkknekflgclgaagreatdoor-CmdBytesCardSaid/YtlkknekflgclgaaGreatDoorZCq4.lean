/- Package cmd: a request is read: the state of the reading. Conditions: one goroutine. -/
import Derived.Test.YtlkknekflgclgaaGreatDoorZCq3
namespace Go.Proofs.YtlkknekflgclgaaGreatDoor
open Go.RowKit Go.MuLone

theorem cmdInfo : (Tryz.prog.info? 119).map (fun i => (i.zero, i.size, i.bytes)) = some (some (.agg #[.int .i64 0, .string ⟨#[]⟩, .string ⟨#[]⟩, .string ⟨#[]⟩, .string ⟨#[]⟩]), 5, 72) := by kernel_rfl
theorem flat_getQ {α : Type} {enc : α → List Value} {k : Nat} (hk : ∀ x, (enc x).length = k) (xs : List α) (i j : Nat) (x : α) (u : Value) (hx : xs[i]? = some x) (hu : (enc x)[j]? = some u) : (xs.flatMap enc)[i * k + j]? = some u := by
  have hj : j < k := by rw [← hk x]; exact (List.getElem?_eq_some_iff.1 hu).1
  induction xs generalizing i with
  | nil => simp at hx
  | cons y ys ih =>
    rw [List.flatMap_cons]
    cases i with
    | zero =>
      simp only [List.getElem?_cons_zero, Option.some.injEq] at hx
      subst hx
      rw [Nat.zero_mul, Nat.zero_add, List.getElem?_append_left (by rw [hk]; exact hj)]
      exact hu
    | succ i =>
      rw [List.getElem?_cons_succ] at hx
      rw [List.getElem?_append_right (by rw [hk, Nat.succ_mul]; omega), hk, Nat.succ_mul, show i * k + k + j - k = i * k + j by omega]
      exact ih i hx
theorem row_ownQ {α : Type} {enc : α → List Value} {k : Nat} {w : World} {ty : TypeId} {v : Value} {xs : List α} (hk : ∀ x, (enc x).length = k) (h : w.ownsRow 0 ty k v xs.length (xs.flatMap enc)) : RowAt enc k w v xs := by
  rcases h.2 with ⟨rfl, h0⟩ | ⟨g, cap, cur, rfl, _⟩
  · have : xs = [] := List.eq_nil_of_length_eq_zero h0
    subst this
    exact .none
  · refine .some g 0 cap xs fun i x j u hx hu => own_cell h (0 + (i * k + j)) u ?_
    rw [Nat.zero_add]
    exact flat_getQ hk xs i j x u hx hu
/-- The reading: the reader at g, the answer at t, what is read so far at b. -/
structure RdAt (w W : World) (t g b : Nat) (s : GetS) (cl sq : Int) (xs : List Cq) (sv : Value) : Prop where
  get : GetAt W g s
  ans : W.heap[t]? = some (.cells #[.int .i64 0, .int .i64 0, .slice none 0 0] 52 (0, 0))
  req : W.heap[b]? = some (.cells #[.int .i64 cl, .int .i64 sq, sv] 52 (0, 0))
  own : W.ownsRow 0 119 5 sv xs.length (xs.flatMap cmdC)
  only : Only (fun _ => False) w W
  d1 : t ≠ g ∧ t ≠ b ∧ g ≠ b
  d2 : w.heap.size ≤ t ∧ w.heap.size ≤ g ∧ w.heap.size ≤ b
  d3 : ∀ q, sv.ownBlock = some q → w.heap.size ≤ q ∧ q ≠ t ∧ q ≠ g ∧ q ≠ b
section
variable {w W W' : World} {t g b : Nat} {s : GetS} {cl sq : Int} {xs : List Cq} {sv : Value} (h : RdAt w W t g b s cl sq xs sv)
include h
theorem RdAt.still (ho : Only (fun _ => False) W W') : RdAt w W' t g b s cl sq xs sv :=
  ⟨h.get.only ho id, blk_keep h.ans ho id, blk_keep h.req ho id, own_only h.own ho (fun _ _ => id), h.only.trans ho (fun _ _ q => q.elim), h.d1, h.d2, h.d3⟩
theorem RdAt.got {s' : GetS} (hg : GetTo W g s' W') : RdAt w W' t g b s' cl sq xs sv := by
  obtain ⟨ha, ho⟩ := hg
  obtain ⟨e1, e2, e3⟩ := h.d1
  obtain ⟨f1, f2, f3⟩ := h.d2
  refine ⟨ha, blk_keep h.ans ho e1, blk_keep h.req ho (fun q => e3 q.symm), own_only h.own ho (fun q hq e => (h.d3 q hq).2.2.1 e), ?_, h.d1, h.d2, h.d3⟩
  exact (Only.trans (h.only.mono (T := fun k => k = g) (fun _ _ (q : False) => q.elim)) ho (fun _ _ q => q)).mono (fun i hi q => by have q : i = g := q; omega)
theorem RdAt.off {x : Nat} (ho : Only (fun k => k = x) W W') (h1 : t ≠ x) (h2 : g ≠ x) (h3 : b ≠ x) (h4 : ∀ q, sv.ownBlock = some q → q ≠ x) (hw : w.heap.size ≤ x) : RdAt w W' t g b s cl sq xs sv :=
  ⟨h.get.only ho h2, blk_keep h.ans ho h1, blk_keep h.req ho h3, own_only h.own ho (fun q hq e => h4 q hq e), (Only.trans (h.only.mono (T := fun k => k = x) (fun _ _ (q : False) => q.elim)) ho (fun _ _ q => q)).mono (fun i hi q => by have q : i = x := q; omega), h.d1, h.d2, h.d3⟩
theorem RdAt.seq (x : Int) : RdAt w (W.setCell ⟨b, 1, none⟩ (.int .i64 x)) t g b s cl x xs sv := by
  obtain ⟨e1, e2, e3⟩ := h.d1
  obtain ⟨f1, f2, f3⟩ := h.d2
  have ho : Only (fun k => k = b) W (W.setCell ⟨b, 1, none⟩ (.int .i64 x)) := (Only.refl (fun k => k = b) W).put b 1 rfl _
  refine ⟨h.get.only ho e3, blk_keep h.ans ho e2, blk_set h.req 1 _, own_only h.own ho (fun q hq e => (h.d3 q hq).2.2.2 e), ?_, h.d1, h.d2, h.d3⟩
  exact (Only.trans (h.only.mono (T := fun k => k = b) (fun _ _ (q : False) => q.elim)) ho (fun _ _ q => q)).mono (fun i hi q => by have q : i = b := q; omega)
/-- Behind an append and its store. -/
theorem RdAt.app {x : Cq} {sv' : Value} (hown : W'.ownsRow 0 119 5 sv' (xs.length + 1) (xs.flatMap cmdC ++ cmdC x)) (hg : W.grownBy W' sv.ownBlock) (hm : ∀ q, sv'.ownBlock = some q → sv.ownBlock = some q ∨ W.heap.size ≤ q) :
    RdAt w (W'.setCell ⟨b, 2, none⟩ sv') t g b s cl sq (xs ++ [x]) sv' := by
  obtain ⟨e1, e2, e3⟩ := h.d1
  obtain ⟨f1, f2, f3⟩ := h.d2
  have ho : Only (fun k => sv.ownBlock = some k) W W' := (Only.refl _ W).grown hg (fun _ _ q => q)
  have hb : b < W.heap.size := blk_lt h.req
  have ht : t < W.heap.size := blk_lt h.ans
  have hgl : g < W.heap.size := lt_of_cell h.get.c0
  have hne : sv'.ownBlock ≠ some b := fun q => by
    rcases hm b q with q | q
    · exact (h.d3 b q).2.2.2 rfl
    · omega
  have h1 := blk_keep h.req ho (fun q => (h.d3 b q).2.2.2 rfl)
  have hs : Only (fun k => k = b) W' (W'.setCell ⟨b, 2, none⟩ sv') := (Only.refl (fun k => k = b) W').put b 2 rfl _
  have hall : Only (fun k => sv.ownBlock = some k ∨ k = b) W (W'.setCell ⟨b, 2, none⟩ sv') := Only.trans (ho.mono (fun _ _ q => Or.inl q)) hs (fun _ _ q => Or.inr q)
  refine ⟨h.get.only hall (fun q => q.elim (fun q => (h.d3 g q).2.2.1 rfl) e3), blk_keep h.ans hall (fun q => q.elim (fun q => (h.d3 t q).2.1 rfl) e2), blk_set h1 2 sv', ?_, ?_, h.d1, h.d2, fun q hq => ?_⟩
  · have := own_store hown hne 2 sv'
    rw [List.length_append, List.flatMap_append]
    simpa using this
  · exact (Only.trans (h.only.mono (T := fun k => sv.ownBlock = some k ∨ k = b) (fun _ _ (q : False) => q.elim)) hall (fun _ _ q => q)).mono (fun i hi q => by
      rcases q with q | q
      · have := (h.d3 i q).1; omega
      · omega)
  · have hsz := h.only.size
    rcases hm q hq with q2 | q2
    · exact h.d3 q q2
    · exact ⟨by omega, by omega, by omega, by omega⟩
end
end Go.Proofs.YtlkknekflgclgaaGreatDoor
