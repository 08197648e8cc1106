/- Package walk over the law's pages: the place on top, the functions that choose a place. Conditions: one goroutine; the cursor and the pages lie in memory. -/
import Derived.Test.YtcjaokmodicikaaZWalk2
namespace Go.Proofs.Ytcjaokmodicikaa
open Go.RowKit

/-- A place in memory. -/
structure PlaceIn (w : World) (g off : Nat) (p : Place) (v : Value) : Prop where
  cells : ∀ (j : Nat) (u : Value), (placeC p v)[j]? = some u → w.cell? ⟨g, off + j, none⟩ = some u
  row : NodeRow w v p.node
theorem CurIn.topPlace {w : World} {x b : Nat} {c : Cur} {F : Nat → Prop} {g n cap : Nat} {us : List Value} {v : Value} (h : CurIn w x b c F (.slice (some ⟨g, 0, none⟩) n cap) (us ++ [v])) {p : Place} {st : List Place} (hs : c.stack = p :: st) : PlaceIn w g (st.length * 3) p v := by
  obtain ⟨g', cap', us', v', e1, e2, e3, e4, e5⟩ := h.top hs
  cases e1
  obtain ⟨rfl, hv⟩ := List.append_inj' e2 rfl
  cases hv
  refine ⟨fun j u hu => ?_, e4⟩
  have own := h.own
  rw [hs, List.length_cons] at own
  refine own_cell own _ _ ?_
  rw [← hs, e5]
  have hl : ((st.reverse.zip us).flatMap placeE).length = st.length * 3 := by
    have : ∀ l : List (Place × Value), (l.flatMap placeE).length = l.length * 3 := fun l => by
      induction l with
      | nil => rfl
      | cons a l ih => rw [List.flatMap_cons, List.length_append, ih, placeE_length, List.length_cons]; omega
    rw [this, List.length_zip, List.length_reverse, e3, Nat.min_self]
  rw [List.getElem?_append_right (by omega), hl, Nat.add_sub_cancel_left]
  exact hu
/-- The place on top is another one. -/
theorem CurIn.setTop {w : World} {x b : Nat} {c : Cur} {F : Nat → Prop} {g n cap : Nat} {vs : List Value} (h : CurIn w x b c F (.slice (some ⟨g, 0, none⟩) n cap) vs) {p : Place} {st : List Place} (hs : c.stack = p :: st) (a : Int) :
    CurIn (w.setCell ⟨g, st.length * 3 + 2, none⟩ (.int .i64 a)) x b { c with stack := ⟨p.node, a⟩ :: st } F (.slice (some ⟨g, 0, none⟩) n cap) vs ∧ CStep b F F w (w.setCell ⟨g, st.length * 3 + 2, none⟩ (.int .i64 a)) := by
  obtain ⟨g', cap', us, v, e1, rfl, e3, e4, e5⟩ := h.top hs
  cases e1
  have hgF := h.fS g rfl
  have ho := (Only.refl (fun k => k = g) w).put g (st.length * 3 + 2) rfl (.int .i64 a)
  have hbg : ∀ k, pown w b k → ¬ k = g := fun k q e => h.apart k (e ▸ hgF.1) q
  have hpw : ∀ k, pown (w.setCell ⟨g, st.length * 3 + 2, none⟩ (.int .i64 a)) b k ↔ pown w b k := pown_of_heap (ho.block b h.pages.lt (hbg b (.inl rfl)))
  have hP : PagesAt (w.setCell ⟨g, st.length * 3 + 2, none⟩ (.int .i64 a)) b c.p := by
    obtain ⟨vL, vG, hI⟩ := h.pages
    exact ⟨vL, vG, hI.beside ho hbg⟩
  have hl : ((st.reverse.zip us).flatMap placeE).length = st.length * 3 := by
    have : ∀ l : List (Place × Value), (l.flatMap placeE).length = l.length * 3 := fun l => by
      induction l with
      | nil => rfl
      | cons a l ih => rw [List.flatMap_cons, List.length_append, ih, placeE_length, List.length_cons]; omega
    rw [this, List.length_zip, List.length_reverse, e3, Nat.min_self]
  have hz : (({ c with stack := ⟨p.node, a⟩ :: st } : Cur).stack.reverse.zip (us ++ [v])).flatMap placeE = ((c.stack.reverse.zip (us ++ [v])).flatMap placeE).set (st.length * 3 + 2) (.int .i64 a) := by
    rw [e5, List.reverse_cons, List.zip_append (by simp [e3]), List.flatMap_append, List.set_append_right _ _ (by omega), hl, Nat.add_sub_cancel_left]
    congr 1
    simp only [List.zip_cons_cons, List.zip_nil_right, List.flatMap_cons, List.flatMap_nil, List.append_nil, placeE]
    unfold placeC
    cases p.node <;> rfl
  have hown := h.own
  have hsl : c.stack.length = st.length + 1 := by rw [hs]; rfl
  rw [hsl] at hown
  have hset := own_set hown (st.length * 3 + 2) (.int .i64 a)
  have hlen : ({ c with stack := ⟨p.node, a⟩ :: st } : Cur).stack.length = c.stack.length := by rw [hs]; rfl
  refine ⟨⟨(ho.block x h.lt (fun e => hgF.2 (by have e2 : x = g := e; exact e2.symm))).trans h.heap, by rw [hz, hlen, hsl]; exact hset, by rw [hlen]; exact h.len, fun j q u hq hu => ?_, h.fx, h.fS, h.fv, fun k hk => Nat.lt_of_lt_of_le (h.small k hk) ho.size, fun k hk q => h.apart k hk ((hpw k).1 q), hP⟩,
    ⟨ho.mono fun k _ e => .inl (by have e2 : k = g := e; exact e2 ▸ hgF.1), fun k q => .inl q, fun k q => .inl ((hpw k).1 q)⟩⟩
  have hne : ∀ k, rowBlock u = some k → ¬ k = g := fun k hk e => (h.fv u (List.mem_of_getElem? hu) k hk).2.2 (by rw [e]; rfl)
  have hold : ∃ q', c.stack.reverse[j]? = some q' ∧ q'.node = q.node := by
    rw [List.reverse_cons, List.getElem?_append] at hq
    rw [hs, List.reverse_cons, List.getElem?_append]
    split at hq
    · rename_i hj; rw [if_pos hj]; exact ⟨q, hq, rfl⟩
    · rename_i hj
      rw [if_neg hj]
      rw [List.getElem?_singleton] at hq ⊢
      split at hq
      · rename_i h0; rw [if_pos h0]; cases hq; exact ⟨p, rfl, rfl⟩
      · cases hq
  obtain ⟨q', h1, h2⟩ := hold
  rw [← h2]
  exact (h.rows j q' u h1 hu).only ho hne

set_option maxRecDepth 100000 in
theorem wfirst_is (w : World) (a : Addr) : Calls Try.prog 35 #[.pointer (some a)] w fun e w' => e = .returned (.int .i64 0) ∧ Only (fun _ => False) w w' := by
  go_enter Try.func35, Try.ntmps35
  go_wp2_with fail
  go_ret
  exact ⟨rfl, Only.refl _ w⟩

set_option maxRecDepth 100000 in
set_option maxHeartbeats 1000000 in
theorem wlast_is (w : World) (g off : Nat) (p : Place) (v : Value) (h : PlaceIn w g off p v) : Calls Try.prog 36 #[.pointer (some ⟨g, off, none⟩)] w fun e w' => e = .returned (.int .i64 (chLast p.node)) ∧ Only (fun _ => False) w w' := by
  obtain ⟨node, a⟩ := p
  have hc := h.cells
  have hr := h.row
  cases node with
  | leaf l =>
    obtain ⟨av, nv, cv, rfl⟩ := capOk_form hr.1.cap
    have hn : nv = l.length := by cases hr.1.row <;> rfl
    subst hn
    have c0 := hc 0 _ rfl
    have c1 := hc 1 _ rfl
    have hl := hr.2.2.1
    have q0 : ∀ p : Grew w, p.u.cell? ⟨g, off, none⟩ = some (.slice av l.length cv) := fun p => p.cell c0
    have q1 : ∀ p : Grew w, p.u.cell? ⟨g, off + 1, none⟩ = some (.slice none 0 0) := fun p => p.cell c1
    have hw : IntKind.i64.wrap ((l.length : Int) - 1) = (l.length : Int) - 1 := by exact IntWalk.i64_in _ (by omega)
    unfold chLast nlen
    go_enter Try.func36, Try.ntmps36
    go_wp2_with fail
    refine wp_region_grew (by kernel_rfl) (by kernel_rfl) (fun _W h0 h1 => ?_)
    repeat (refine h1 _ _ _ (fun K hK => ?_); go_simp; refine hK _ ?_; clear hK K)
    refine h0 _ (fun p => ?_)
    clear h0 h1
    go_wp2_with fail
    go_ret
    exact ⟨rfl, p.h⟩
  | twig l =>
    obtain ⟨av, nv, cv, rfl⟩ := capOk_form hr.1.cap
    have hn : nv = l.length := by cases hr.1.row <;> rfl
    subst hn
    have c0 := hc 0 _ rfl
    have c1 := hc 1 _ rfl
    have hl := hr.2.2.2.1
    have q0 : ∀ p : Grew w, p.u.cell? ⟨g, off, none⟩ = some (.slice none 0 0) := fun p => p.cell c0
    have q1 : ∀ p : Grew w, p.u.cell? ⟨g, off + 1, none⟩ = some (.slice av l.length cv) := fun p => p.cell c1
    have hw : IntKind.i64.wrap ((l.length : Int) - 1) = (l.length : Int) - 1 := by exact IntWalk.i64_in _ (by omega)
    unfold chLast nlen
    go_enter Try.func36, Try.ntmps36
    go_wp2_with fail
    refine wp_region_grew (by kernel_rfl) (by kernel_rfl) (fun _W h0 h1 => ?_)
    repeat (refine h1 _ _ _ (fun K hK => ?_); go_simp; refine hK _ ?_; clear hK K)
    refine h0 _ (fun p => ?_)
    clear h0 h1
    go_wp2_with fail
    go_ret
    exact ⟨rfl, p.h⟩

set_option maxRecDepth 100000 in
set_option maxHeartbeats 1000000 in
theorem wseek_is (w : World) (g off B : Nat) (key : Bytes) (p : Place) (v : Value) (h : PlaceIn w g off p v) (hk : w.cell? ⟨B, 0, none⟩ = some (str key)) :
    Calls Try.prog 37 #[.pointer (some ⟨g, off, none⟩), .pointer (some ⟨B, 0, none⟩)] w fun e w' => e = .returned (.int .i64 (chSeek key p.node)) ∧ Only (fun _ => False) w w' := by
  obtain ⟨node, a⟩ := p
  have hc := h.cells
  have hr := h.row
  have qk : ∀ p : Grew w, p.u.cell? ⟨B, 0, none⟩ = some (str key) := fun p => p.cell hk
  cases node with
  | leaf l =>
    obtain ⟨av, nv, cv, rfl⟩ := capOk_form hr.1.cap
    have hn : nv = l.length := by cases hr.1.row <;> rfl
    subst hn
    have c0 := hc 0 _ rfl
    have c1 := hc 1 _ rfl
    have hl := hr.2.2.1
    have q0 : ∀ p : Grew w, p.u.cell? ⟨g, off, none⟩ = some (.slice av l.length cv) := fun p => p.cell c0
    have HV : Hid (∀ p : Grew w, Calls Try.prog 39 #[.slice av l.length cv, str key] p.u fun e w' => e = .returned (.tuple #[.int .i64 (findAt l key : Nat), .bool (isAt l key)]) ∧ Only (fun _ => False) p.u w') := Lib.hid (fun p => Find_is _ l key _ (row_only hr.1.row p.h (fun _ _ => id)) ((rightL_iff _).1 hr.2.2.2).2 (by omega))
    unfold chSeek
    go_enter Try.func37, Try.ntmps37
    go_wp2_with fail
    refine wp_region_grew (by kernel_rfl) (by kernel_rfl) (fun _W h0 h1 => ?_)
    repeat (refine h1 _ _ _ (fun K hK => ?_); go_simp; first | (refine hK _ ?_; clear hK K) | (apply Exists.intro; refine ⟨fun _ => ?_, hK _ ?_⟩; (refine Grew.calls _ (HV.out _)); clear hK K))
    refine h0 _ (fun p => ?_)
    clear h0 h1
    go_wp2_with fail
    go_ret
    exact ⟨rfl, p.h⟩
  | twig l =>
    obtain ⟨av, nv, cv, rfl⟩ := capOk_form hr.1.cap
    have hn : nv = l.length := by cases hr.1.row <;> rfl
    subst hn
    have c1 := hc 1 _ rfl
    have hl := hr.2.2.2.1
    have hpos := List.length_pos_iff.2 hr.2.1
    have hpos2 : (0 : Int) < (l.length : Int) := by omega
    have q1 : ∀ p : Grew w, p.u.cell? ⟨g, off + 1, none⟩ = some (.slice av l.length cv) := fun p => p.cell c1
    have HV : Hid (∀ p : Grew w, Calls Try.prog 38 #[.slice av l.length cv, str key] p.u fun e w' => e = .returned (.int .i64 (findK l key : Nat)) ∧ Only (fun _ => False) p.u w') := Lib.hid (fun p => TFind_is _ l key _ (row_only hr.1.row p.h (fun _ _ => id)) hr.2.1 ((rightL_iff _).1 hr.2.2.2.2).2 (by omega))
    unfold chSeek
    go_enter Try.func37, Try.ntmps37
    go_wp2_with fail
    refine wp_region_grew (by kernel_rfl) (by kernel_rfl) (fun _W h0 h1 => ?_)
    repeat (refine h1 _ _ _ (fun K hK => ?_); go_simp; first | (refine hK _ ?_; clear hK K) | (apply Exists.intro; refine ⟨fun _ => ?_, hK _ ?_⟩; (refine Grew.calls _ (HV.out _)); clear hK K))
    refine h0 _ (fun p => ?_)
    clear h0 h1
    go_wp2_with fail
    go_ret
    exact ⟨rfl, p.h⟩
end Go.Proofs.Ytcjaokmodicikaa
