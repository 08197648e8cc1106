/- Package walk over the law's pages: on to an item. Conditions: one goroutine; the cursor and the pages lie in memory. -/
import Derived.Test.YtcjaokmodicikaaZWalk4
import Derived.BigRegion
import Derived.StillTailTactics
namespace Go.Proofs.Ytcjaokmodicikaa
open Go.RowKit

/-- The place on top is taken off. -/
theorem CurIn.pop {w : World} {x b : Nat} {c : Cur} {F : Nat → Prop} {g n cap : Nat} {us : List Value} {v : Value} (h : CurIn w x b c F (.slice (some ⟨g, 0, none⟩) n cap) (us ++ [v])) {p : Place} {st : List Place} (hs : c.stack = p :: st) :
    CurIn (w.setCell ⟨x, 2, none⟩ (.slice (some ⟨g, 0, none⟩) st.length cap)) x b { c with stack := st } F (.slice (some ⟨g, 0, none⟩) st.length cap) us ∧ CStep b F F w (w.setCell ⟨x, 2, none⟩ (.slice (some ⟨g, 0, none⟩) st.length cap)) := by
  obtain ⟨g', cap', us', v', e1, e2, e3, e4, e5⟩ := h.top hs
  cases e1
  obtain ⟨rfl, hv⟩ := List.append_inj' e2 rfl
  cases hv
  have ho := (Only.refl (fun k => k = x) w).put x 2 rfl (.slice (some ⟨g, 0, none⟩) st.length cap)
  have hbx : ∀ k, pown w b k → ¬ k = x := fun k q e => h.apart k (e ▸ h.fx) q
  have hpw : ∀ k, pown (w.setCell ⟨x, 2, none⟩ (.slice (some ⟨g, 0, none⟩) st.length cap)) b k ↔ pown w b k := pown_of_heap (ho.block b h.pages.lt (hbx b (.inl rfl)))
  have hP : PagesAt (w.setCell ⟨x, 2, none⟩ (.slice (some ⟨g, 0, none⟩) st.length cap)) b c.p := by
    obtain ⟨vL, vG, hI⟩ := h.pages
    exact ⟨vL, vG, hI.beside ho hbx⟩
  have hown := h.own
  have hsl : c.stack.length = st.length + 1 := by rw [hs]; rfl
  rw [hsl] at hown
  have hcut := own_cut hown st.length (by omega)
  have hl : ((st.reverse.zip us).flatMap placeE).length = st.length * 3 := by
    have : ∀ l : List (Place × Value), (l.flatMap placeE).length = l.length * 3 := fun l => by
      induction l with
      | nil => rfl
      | cons a l ih => rw [List.flatMap_cons, List.length_append, ih, placeE_length, List.length_cons]; omega
    rw [this, List.length_zip, List.length_reverse, e3, Nat.min_self]
  rw [e5, ← hl, List.take_left] at hcut
  have hgF := h.fS g rfl
  refine ⟨⟨heap_setCell h.heap 2 _, own_store hcut (fun e => hgF.2 (Option.some.inj e)) 2 _, e3, fun j q u hq hu => ?_, h.fx, fun k hk => h.fS k hk, fun u hu => h.fv u (List.mem_append_left _ hu), fun k hk => Nat.lt_of_lt_of_le (h.small k hk) ho.size, fun k hk q => h.apart k hk ((hpw k).1 q), hP⟩,
    ⟨ho.mono fun k _ e => .inl (by have e2 : k = x := e; exact e2 ▸ h.fx), fun k q => .inl q, fun k q => .inl ((hpw k).1 q)⟩⟩
  have hj : j < st.length := by
    have := (List.getElem?_eq_some_iff.1 hq).1
    simpa using this
  refine (h.rows j q u ?_ ?_).only ho (fun k hk e => (h.fv u (List.mem_append_left _ (List.mem_of_getElem? hu)) k hk).2.1 e)
  · rw [hs, List.reverse_cons, List.getElem?_append_left (by simpa using hj)]
    exact hq
  · rw [List.getElem?_append_left (by omega)]
    exact hu

theorem cLoad_true {c c' : Cur} {id : Int} (h : cLoad c id = (true, c')) : ∃ n, c'.stack = ⟨n, 0⟩ :: c.stack := by
  unfold cLoad at h
  split at h
  · cases h
  · split at h
    · cases h
    · rename_i n p _; cases h; exact ⟨n, rfl⟩
def Near (N : Int) (c : Cur) : Prop := ∀ p ∈ c.stack, -N ≤ p.at_ ∧ p.at_ ≤ N

set_option maxRecDepth 100000 in
set_option maxHeartbeats 8000000 in
theorem where_is (by_ : Int) (hby : by_ = 1 ∨ by_ = -1) (f : Nat) (hf : f ≤ 1000) (w : World) (x b : Nat) (c c' : Cur) (F : Nat → Prop) (r : Bool) (h : CurAt w x b c F) (hsl : c.stack.length ≤ 12) (hnr : Near 1000 c) (hd : cHere by_ f c = some (r, c')) :
    Calls Try.prog 55 #[.pointer (some ⟨x, 0, none⟩), .int .i64 by_] w fun e w' => ∃ F', e = .returned (.bool r) ∧ CurAt w' x b c' F' ∧ CStep b F F' w w' := by
  have HA := Lib.hid h
  have HD := Lib.hid hd
  have HNR := Lib.hid hnr
  clear h hd hnr
  go_enter Try.func55, Try.ntmps55
  go_wp2_with fail
  go_loopg [5] f (fun gh n5 wr => ∃ (c1 : Cur) (F1 : Nat → Prop), gh ≤ 1000 ∧ cHere by_ gh c1 = some (r, c') ∧ CurAt wr x b c1 F1 ∧ CStep b F F1 w wr ∧ c1.stack.length ≤ 12 ∧ Near (100000 - (gh : Int)) c1)
  case atStart => exact ⟨c, F, hf, HD.out, HA.out, CStep.refl b F w, hsl, fun p hp => by have := HNR.out p hp; omega⟩
  case round =>
    obtain ⟨c1, F1, hgh, hd, ha, hs, hl, hnr⟩ := hrel
    cases gk with
    | zero => cases hd
    | succ f1 =>
      cases hst : c1.stack with
      | nil =>
        rw [cHere, hst] at hd
        simp only [Option.some.injEq, Prod.mk.injEq] at hd
        obtain ⟨rfl, rfl⟩ := hd
        obtain ⟨vS, vs, hI⟩ := ha
        have hown := hI.own
        rw [hst] at hown
        obtain ⟨aS, cS, rfl⟩ := ownsRow_form hown
        have c2 := heap_cell hI.heap 2
        simp only [List.getElem?_toArray, List.getElem?_cons_zero, List.getElem?_cons_succ, List.length_nil] at c2
        go_wp2_with fail
        go_ret
        first | exact ⟨rfl, F1, hI.at_, hs⟩ | exact ⟨F1, rfl, hI.at_, hs⟩
      | cons p st =>
        obtain ⟨vS, vs, hI⟩ := ha
        obtain ⟨g, cap', us, v, rfl, rfl, hul, hrow, _⟩ := hI.top hst
        have hl2 : st.length ≤ 900 := by rw [hst, List.length_cons] at hl; omega
        have hl9 : st.length ≤ 1000 := by omega
        have HTOP := Lib.hid (wtop_is wr x b c1 F1 g cap' _ st.length hI hl9)
        have c2 := heap_cell hI.heap 2
        simp only [List.getElem?_toArray, List.getElem?_cons_zero, List.getElem?_cons_succ] at c2
        have hlp : (0 : Int) < (st.length : Int) + 1 := by omega
        have HI := Lib.hid hI
        have HS := Lib.hid hs
        have HNR := Lib.hid hnr
        obtain ⟨node, at0⟩ := p
        have hat := hnr ⟨node, at0⟩ (by rw [hst]; simp)
        simp only at hat
        rw [cHere, hst] at hd
        simp only at hd
        clear hI hs hrow hnr
        cases node with
        | leaf l =>
          by_cases hlt : at0 < 0
          · rw [if_pos (.inl hlt)] at hd
            have HDD := Lib.hid hd
            clear hd
            go_wp2_with fail
            refine HTOP.out.mono ?_
            rintro e w1 ⟨rfl, o1⟩
            have hI1 := HI.out.still o1
            have hP1 := hI1.topPlace hst
            have hr := hP1.row
            obtain ⟨al, nl, cl, rfl⟩ := capOk_form hr.1.cap
            have hn : nl = l.length := by cases hr.1.row <;> rfl
            subst hn
            have p0 := hP1.cells 0 _ rfl
            have p1 := hP1.cells 1 _ rfl
            have p2 := hP1.cells 2 _ rfl
            simp only [Nat.add_zero] at p0
            have q0 : ∀ p : Grew w1, p.u.cell? ⟨g, st.length * 3, none⟩ = some (.slice al l.length cl) := fun p => p.cell p0
            have q1 : ∀ p : Grew w1, p.u.cell? ⟨g, st.length * 3 + 1, none⟩ = some (.slice none 0 0) := fun p => p.cell p1
            have q2 : ∀ p : Grew w1, p.u.cell? ⟨g, st.length * 3 + 2, none⟩ = some (.int .i64 at0) := fun p => p.cell p2
            have HI1 := Lib.hid hI1
            have HS1 := Lib.hid (HS.out.trans (CStep.still HI.out.pages.lt o1))
            have HR := Lib.hid hr
            clear hI1 hP1 hr o1 p0 p1 p2 HTOP
            go_wp2_with fail
            refine wp_region_grew (by kernel_rfl) (by kernel_rfl) (fun _W h0 h1 => ?_)
            repeat (refine h1 _ _ _ (fun K hK => ?_); go_simp; refine hK _ ?_; clear hK K)
            refine h0 _ (fun p => ?_)
            clear h0 h1 q0 q1 q2
            have hI2 := HI1.out.still p.h
            have HS2 := Lib.hid (HS1.out.trans (CStep.still HI1.out.pages.lt p.h))
            generalize p.u = w2 at *
            clear p
            have c2 := heap_cell hI2.heap 2
            have z2 := heap_frozen hI2.heap 2
            simp only [List.getElem?_toArray, List.getElem?_cons_zero, List.getElem?_cons_succ] at c2
            obtain ⟨hI3, hs3⟩ := hI2.pop hst
            have HI3 := Lib.hid hI3
            have HS3 := Lib.hid (HS2.out.trans hs3)
            have c3 := heap_cell hI3.heap 2
            simp only [List.getElem?_toArray, List.getElem?_cons_zero, List.getElem?_cons_succ] at c3
            have hdr : Only (fun _ => False) (w2.setCell ⟨x, 2, none⟩ (.slice (some ⟨g, 0, none⟩) st.length cap')) (w2.setCell ⟨x, 2, none⟩ (.slice (some ⟨g, 0, none⟩) st.length cap')).drew := (Only.refl _ _).drew
            have hdr2 : Only (fun _ => False) w2 w2.drew := (Only.refl _ _).drew
            have hw3 : IntKind.i64.wrap (st.length : Int) = (st.length : Int) := by exact IntWalk.i64_in _ (by omega)
            have hnl : (0 : Int) ≤ (st.length : Int) := by omega
            have hcl : (st.length : Int) ≤ (cap' : Int) := by
              have hq := hI2.own
              rw [hst, List.length_cons] at hq
              rcases hq.2 with ⟨q, _⟩ | ⟨_, _, _, q, _, _, hle, _⟩
              · cases q
              · cases q; omega
            clear hI3 hs3
            cases hst2 : st with
            | nil =>
              subst hst2
              simp only [List.length_nil] at *
              go_wp2_with fail
              go_region
              all_goals
                have hI4 := HI3.out.still hdr
                have HS4 := Lib.hid (HS3.out.trans (CStep.still (F := F1) HI3.out.pages.lt hdr))
                have HI4 := Lib.hid hI4
                clear hI4
                go_wp2_with fail
                go_roundg f1
                case measure => omega
                case rel => exact ⟨_, F1, by omega, HDD.out, HI4.out.at_, HS4.out, by simp [bump], fun q hq => by cases hq⟩
            | cons q st2 =>
              subst hst2
              obtain ⟨qn, qa⟩ := q
              have hqa := HNR.out ⟨qn, qa⟩ (by rw [hst]; simp)
              have hlq : (0 : Int) < (st2.length : Int) + 1 := by omega
              simp only [List.length_cons] at *
              have hwq : IntKind.i64.wrap (qa + by_) = qa + by_ := by rcases hby with rfl | rfl <;> exact IntWalk.i64_in _ (by omega)
              have hwq2 : IntKind.i64.wrap ((st2.length : Int) + 1) = (st2.length : Int) + 1 := by exact IntWalk.i64_in _ (by omega)
              have hcl2 : (st2.length : Int) + 1 ≤ (cap' : Int) := by omega
              go_wp2_with fail
              go_region
              all_goals
                have hI4 := HI3.out.still hdr
                have HS4 := Lib.hid (HS3.out.trans (CStep.still (F := F1) HI3.out.pages.lt hdr))
                have HT2 := Lib.hid (wtop_is _ x b _ F1 g cap' us st2.length hI4 (by omega))
                have c4 := heap_cell hI4.heap 2
                simp only [List.getElem?_toArray, List.getElem?_cons_zero, List.getElem?_cons_succ] at c4
                have HI4 := Lib.hid hI4
                clear hI4
                go_wp2_with fail
                refine HT2.out.mono ?_
                rintro e w5 ⟨rfl, o5⟩
                have hI5 := HI4.out.still o5
                obtain ⟨g9, cap9, us2, v2, e9, rfl, _⟩ := hI5.top (p := ⟨qn, qa⟩) (st := st2) rfl
                have q5 := (hI5.topPlace (p := ⟨qn, qa⟩) (st := st2) rfl).cells 2 (.int .i64 qa) (by unfold placeC; cases qn <;> rfl)
                have z5 : w5.frozen? ⟨g, st2.length * 3 + 2, none⟩ = false := own_frozen (n := st2.length + 1) hI5.own _
                obtain ⟨hI6, hs6⟩ := hI5.setTop (p := ⟨qn, qa⟩) (st := st2) rfl (qa + by_)
                have HI6 := Lib.hid hI6
                have HS6 := Lib.hid (HS4.out.trans ((CStep.still (F := F1) HI4.out.pages.lt o5).trans hs6))
                clear hI5 hI6 hs6 o5
                go_wp2_with fail
                go_roundg f1
                case measure => omega
                case rel =>
                  refine ⟨_, F1, by omega, HDD.out, HI6.out.at_, HS6.out, by simp only [bump, List.length_cons] at hl ⊢; rw [hst] at hl; simp only [List.length_cons] at hl; omega, fun q hq => ?_⟩
                  rcases List.mem_cons.1 hq with rfl | hq
                  · simp only at hqa ⊢; rcases hby with rfl | rfl <;> omega
                  · have := HNR.out q (by rw [hst]; simp [hq]); omega
          · by_cases hge : (l.length : Int) ≤ at0
            · rw [if_pos (.inr hge)] at hd
              have HDD := Lib.hid hd
              clear hd
              go_wp2_with fail
              refine HTOP.out.mono ?_
              rintro e w1 ⟨rfl, o1⟩
              have hI1 := HI.out.still o1
              have hP1 := hI1.topPlace hst
              have hr := hP1.row
              obtain ⟨al, nl, cl, rfl⟩ := capOk_form hr.1.cap
              have hn : nl = l.length := by cases hr.1.row <;> rfl
              subst hn
              have p0 := hP1.cells 0 _ rfl
              have p1 := hP1.cells 1 _ rfl
              have p2 := hP1.cells 2 _ rfl
              simp only [Nat.add_zero] at p0
              have q0 : ∀ p : Grew w1, p.u.cell? ⟨g, st.length * 3, none⟩ = some (.slice al l.length cl) := fun p => p.cell p0
              have q1 : ∀ p : Grew w1, p.u.cell? ⟨g, st.length * 3 + 1, none⟩ = some (.slice none 0 0) := fun p => p.cell p1
              have q2 : ∀ p : Grew w1, p.u.cell? ⟨g, st.length * 3 + 2, none⟩ = some (.int .i64 at0) := fun p => p.cell p2
              have HI1 := Lib.hid hI1
              have HS1 := Lib.hid (HS.out.trans (CStep.still HI.out.pages.lt o1))
              have HR := Lib.hid hr
              clear hI1 hP1 hr o1 p0 p1 p2 HTOP
              go_wp2_with fail
              refine wp_region_grew (by kernel_rfl) (by kernel_rfl) (fun _W h0 h1 => ?_)
              repeat (refine h1 _ _ _ (fun K hK => ?_); go_simp; refine hK _ ?_; clear hK K)
              refine h0 _ (fun p => ?_)
              clear h0 h1 q0 q1 q2
              have hI2 := HI1.out.still p.h
              have HS2 := Lib.hid (HS1.out.trans (CStep.still HI1.out.pages.lt p.h))
              generalize p.u = w2 at *
              clear p
              have c2 := heap_cell hI2.heap 2
              have z2 := heap_frozen hI2.heap 2
              simp only [List.getElem?_toArray, List.getElem?_cons_zero, List.getElem?_cons_succ] at c2
              obtain ⟨hI3, hs3⟩ := hI2.pop hst
              have HI3 := Lib.hid hI3
              have HS3 := Lib.hid (HS2.out.trans hs3)
              have c3 := heap_cell hI3.heap 2
              simp only [List.getElem?_toArray, List.getElem?_cons_zero, List.getElem?_cons_succ] at c3
              have hdr : Only (fun _ => False) (w2.setCell ⟨x, 2, none⟩ (.slice (some ⟨g, 0, none⟩) st.length cap')) (w2.setCell ⟨x, 2, none⟩ (.slice (some ⟨g, 0, none⟩) st.length cap')).drew := (Only.refl _ _).drew
              have hdr2 : Only (fun _ => False) w2 w2.drew := (Only.refl _ _).drew
              have hw3 : IntKind.i64.wrap (st.length : Int) = (st.length : Int) := by exact IntWalk.i64_in _ (by omega)
              have hnl : (0 : Int) ≤ (st.length : Int) := by omega
              have hcl : (st.length : Int) ≤ (cap' : Int) := by
                have hq := hI2.own
                rw [hst, List.length_cons] at hq
                rcases hq.2 with ⟨q, _⟩ | ⟨_, _, _, q, _, _, hle, _⟩
                · cases q
                · cases q; omega
              clear hI3 hs3
              cases hst2 : st with
              | nil =>
                subst hst2
                simp only [List.length_nil] at *
                go_wp2_with fail
                go_region
                all_goals
                  have hI4 := HI3.out.still hdr
                  have HS4 := Lib.hid (HS3.out.trans (CStep.still (F := F1) HI3.out.pages.lt hdr))
                  have HI4 := Lib.hid hI4
                  clear hI4
                  go_wp2_with fail
                  go_roundg f1
                  case measure => omega
                  case rel => exact ⟨_, F1, by omega, HDD.out, HI4.out.at_, HS4.out, by simp [bump], fun q hq => by cases hq⟩
              | cons q st2 =>
                subst hst2
                obtain ⟨qn, qa⟩ := q
                have hqa := HNR.out ⟨qn, qa⟩ (by rw [hst]; simp)
                have hlq : (0 : Int) < (st2.length : Int) + 1 := by omega
                simp only [List.length_cons] at *
                have hwq : IntKind.i64.wrap (qa + by_) = qa + by_ := by rcases hby with rfl | rfl <;> exact IntWalk.i64_in _ (by omega)
                have hwq2 : IntKind.i64.wrap ((st2.length : Int) + 1) = (st2.length : Int) + 1 := by exact IntWalk.i64_in _ (by omega)
                have hcl2 : (st2.length : Int) + 1 ≤ (cap' : Int) := by omega
                go_wp2_with fail
                go_region
                all_goals
                  have hI4 := HI3.out.still hdr
                  have HS4 := Lib.hid (HS3.out.trans (CStep.still (F := F1) HI3.out.pages.lt hdr))
                  have HT2 := Lib.hid (wtop_is _ x b _ F1 g cap' us st2.length hI4 (by omega))
                  have c4 := heap_cell hI4.heap 2
                  simp only [List.getElem?_toArray, List.getElem?_cons_zero, List.getElem?_cons_succ] at c4
                  have HI4 := Lib.hid hI4
                  clear hI4
                  go_wp2_with fail
                  refine HT2.out.mono ?_
                  rintro e w5 ⟨rfl, o5⟩
                  have hI5 := HI4.out.still o5
                  obtain ⟨g9, cap9, us2, v2, e9, rfl, _⟩ := hI5.top (p := ⟨qn, qa⟩) (st := st2) rfl
                  have q5 := (hI5.topPlace (p := ⟨qn, qa⟩) (st := st2) rfl).cells 2 (.int .i64 qa) (by unfold placeC; cases qn <;> rfl)
                  have z5 : w5.frozen? ⟨g, st2.length * 3 + 2, none⟩ = false := own_frozen (n := st2.length + 1) hI5.own _
                  obtain ⟨hI6, hs6⟩ := hI5.setTop (p := ⟨qn, qa⟩) (st := st2) rfl (qa + by_)
                  have HI6 := Lib.hid hI6
                  have HS6 := Lib.hid (HS4.out.trans ((CStep.still (F := F1) HI4.out.pages.lt o5).trans hs6))
                  clear hI5 hI6 hs6 o5
                  go_wp2_with fail
                  go_roundg f1
                  case measure => omega
                  case rel =>
                    refine ⟨_, F1, by omega, HDD.out, HI6.out.at_, HS6.out, by simp only [bump, List.length_cons] at hl ⊢; rw [hst] at hl; simp only [List.length_cons] at hl; omega, fun q hq => ?_⟩
                    rcases List.mem_cons.1 hq with rfl | hq
                    · simp only at hqa ⊢; rcases hby with rfl | rfl <;> omega
                    · have := HNR.out q (by rw [hst]; simp [hq]); omega
            · rw [if_neg (fun q => q.elim hlt hge)] at hd
              simp only [Option.some.injEq, Prod.mk.injEq] at hd
              obtain ⟨rfl, rfl⟩ := hd
              go_wp2_with fail
              refine HTOP.out.mono ?_
              rintro e w1 ⟨rfl, o1⟩
              have hI1 := HI.out.still o1
              have hP1 := hI1.topPlace hst
              have hr := hP1.row
              obtain ⟨al, nl, cl, rfl⟩ := capOk_form hr.1.cap
              have hn : nl = l.length := by cases hr.1.row <;> rfl
              subst hn
              have p0 := hP1.cells 0 _ rfl
              have p1 := hP1.cells 1 _ rfl
              have p2 := hP1.cells 2 _ rfl
              simp only [Nat.add_zero] at p0
              have q0 : ∀ p : Grew w1, p.u.cell? ⟨g, st.length * 3, none⟩ = some (.slice al l.length cl) := fun p => p.cell p0
              have q1 : ∀ p : Grew w1, p.u.cell? ⟨g, st.length * 3 + 1, none⟩ = some (.slice none 0 0) := fun p => p.cell p1
              have q2 : ∀ p : Grew w1, p.u.cell? ⟨g, st.length * 3 + 2, none⟩ = some (.int .i64 at0) := fun p => p.cell p2
              have HI1 := Lib.hid hI1
              have HS1 := Lib.hid (HS.out.trans (CStep.still HI.out.pages.lt o1))
              have HR := Lib.hid hr
              clear hI1 hP1 hr o1 p0 p1 p2 HTOP
              go_wp2_with fail
              refine wp_region_grew (by kernel_rfl) (by kernel_rfl) (fun _W h0 h1 => ?_)
              repeat (refine h1 _ _ _ (fun K hK => ?_); go_simp; refine hK _ ?_; clear hK K)
              refine h0 _ (fun p => ?_)
              clear h0 h1 q0 q1 q2
              have hI2 := HI1.out.still p.h
              have HS2 := Lib.hid (HS1.out.trans (CStep.still HI1.out.pages.lt p.h))
              generalize p.u = w2 at *
              clear p
              have q1 := (hI2.topPlace hst).cells 1 _ rfl
              have HI2 := Lib.hid hI2
              clear hI2
              go_wp2_with fail
              go_ret
              first | exact ⟨rfl, F1, HI2.out.at_, HS2.out⟩ | exact ⟨F1, rfl, HI2.out.at_, HS2.out⟩
        | twig l =>
          by_cases hlt : at0 < 0
          · rw [if_pos (.inl hlt)] at hd
            have HDD := Lib.hid hd
            clear hd
            go_wp2_with fail
            refine HTOP.out.mono ?_
            rintro e w1 ⟨rfl, o1⟩
            have hI1 := HI.out.still o1
            have hP1 := hI1.topPlace hst
            have hr := hP1.row
            obtain ⟨al, nl, cl, rfl⟩ := capOk_form hr.1.cap
            have hn : nl = l.length := by cases hr.1.row <;> rfl
            subst hn
            have p0 := hP1.cells 0 _ rfl
            have p1 := hP1.cells 1 _ rfl
            have p2 := hP1.cells 2 _ rfl
            simp only [Nat.add_zero] at p0
            have q0 : ∀ p : Grew w1, p.u.cell? ⟨g, st.length * 3, none⟩ = some (.slice none 0 0) := fun p => p.cell p0
            have q1 : ∀ p : Grew w1, p.u.cell? ⟨g, st.length * 3 + 1, none⟩ = some (.slice al l.length cl) := fun p => p.cell p1
            have q2 : ∀ p : Grew w1, p.u.cell? ⟨g, st.length * 3 + 2, none⟩ = some (.int .i64 at0) := fun p => p.cell p2
            have HI1 := Lib.hid hI1
            have HS1 := Lib.hid (HS.out.trans (CStep.still HI.out.pages.lt o1))
            have HR := Lib.hid hr
            clear hI1 hP1 hr o1 p0 p1 p2 HTOP
            go_wp2_with fail
            refine wp_region_grew (by kernel_rfl) (by kernel_rfl) (fun _W h0 h1 => ?_)
            repeat (refine h1 _ _ _ (fun K hK => ?_); go_simp; refine hK _ ?_; clear hK K)
            refine h0 _ (fun p => ?_)
            clear h0 h1 q0 q1 q2
            have hI2 := HI1.out.still p.h
            have HS2 := Lib.hid (HS1.out.trans (CStep.still HI1.out.pages.lt p.h))
            generalize p.u = w2 at *
            clear p
            have c2 := heap_cell hI2.heap 2
            have z2 := heap_frozen hI2.heap 2
            simp only [List.getElem?_toArray, List.getElem?_cons_zero, List.getElem?_cons_succ] at c2
            obtain ⟨hI3, hs3⟩ := hI2.pop hst
            have HI3 := Lib.hid hI3
            have HS3 := Lib.hid (HS2.out.trans hs3)
            have c3 := heap_cell hI3.heap 2
            simp only [List.getElem?_toArray, List.getElem?_cons_zero, List.getElem?_cons_succ] at c3
            have hdr : Only (fun _ => False) (w2.setCell ⟨x, 2, none⟩ (.slice (some ⟨g, 0, none⟩) st.length cap')) (w2.setCell ⟨x, 2, none⟩ (.slice (some ⟨g, 0, none⟩) st.length cap')).drew := (Only.refl _ _).drew
            have hdr2 : Only (fun _ => False) w2 w2.drew := (Only.refl _ _).drew
            have hw3 : IntKind.i64.wrap (st.length : Int) = (st.length : Int) := by exact IntWalk.i64_in _ (by omega)
            have hnl : (0 : Int) ≤ (st.length : Int) := by omega
            have hcl : (st.length : Int) ≤ (cap' : Int) := by
              have hq := hI2.own
              rw [hst, List.length_cons] at hq
              rcases hq.2 with ⟨q, _⟩ | ⟨_, _, _, q, _, _, hle, _⟩
              · cases q
              · cases q; omega
            clear hI3 hs3
            cases hst2 : st with
            | nil =>
              subst hst2
              simp only [List.length_nil] at *
              go_wp2_with fail
              go_region
              all_goals
                have hI4 := HI3.out.still hdr
                have HS4 := Lib.hid (HS3.out.trans (CStep.still (F := F1) HI3.out.pages.lt hdr))
                have HI4 := Lib.hid hI4
                clear hI4
                go_wp2_with fail
                go_roundg f1
                case measure => omega
                case rel => exact ⟨_, F1, by omega, HDD.out, HI4.out.at_, HS4.out, by simp [bump], fun q hq => by cases hq⟩
            | cons q st2 =>
              subst hst2
              obtain ⟨qn, qa⟩ := q
              have hqa := HNR.out ⟨qn, qa⟩ (by rw [hst]; simp)
              have hlq : (0 : Int) < (st2.length : Int) + 1 := by omega
              simp only [List.length_cons] at *
              have hwq : IntKind.i64.wrap (qa + by_) = qa + by_ := by rcases hby with rfl | rfl <;> exact IntWalk.i64_in _ (by omega)
              have hwq2 : IntKind.i64.wrap ((st2.length : Int) + 1) = (st2.length : Int) + 1 := by exact IntWalk.i64_in _ (by omega)
              have hcl2 : (st2.length : Int) + 1 ≤ (cap' : Int) := by omega
              go_wp2_with fail
              go_region
              all_goals
                have hI4 := HI3.out.still hdr
                have HS4 := Lib.hid (HS3.out.trans (CStep.still (F := F1) HI3.out.pages.lt hdr))
                have HT2 := Lib.hid (wtop_is _ x b _ F1 g cap' us st2.length hI4 (by omega))
                have c4 := heap_cell hI4.heap 2
                simp only [List.getElem?_toArray, List.getElem?_cons_zero, List.getElem?_cons_succ] at c4
                have HI4 := Lib.hid hI4
                clear hI4
                go_wp2_with fail
                refine HT2.out.mono ?_
                rintro e w5 ⟨rfl, o5⟩
                have hI5 := HI4.out.still o5
                obtain ⟨g9, cap9, us2, v2, e9, rfl, _⟩ := hI5.top (p := ⟨qn, qa⟩) (st := st2) rfl
                have q5 := (hI5.topPlace (p := ⟨qn, qa⟩) (st := st2) rfl).cells 2 (.int .i64 qa) (by unfold placeC; cases qn <;> rfl)
                have z5 : w5.frozen? ⟨g, st2.length * 3 + 2, none⟩ = false := own_frozen (n := st2.length + 1) hI5.own _
                obtain ⟨hI6, hs6⟩ := hI5.setTop (p := ⟨qn, qa⟩) (st := st2) rfl (qa + by_)
                have HI6 := Lib.hid hI6
                have HS6 := Lib.hid (HS4.out.trans ((CStep.still (F := F1) HI4.out.pages.lt o5).trans hs6))
                clear hI5 hI6 hs6 o5
                go_wp2_with fail
                go_roundg f1
                case measure => omega
                case rel =>
                  refine ⟨_, F1, by omega, HDD.out, HI6.out.at_, HS6.out, by simp only [bump, List.length_cons] at hl ⊢; rw [hst] at hl; simp only [List.length_cons] at hl; omega, fun q hq => ?_⟩
                  rcases List.mem_cons.1 hq with rfl | hq
                  · simp only at hqa ⊢; rcases hby with rfl | rfl <;> omega
                  · have := HNR.out q (by rw [hst]; simp [hq]); omega
          · by_cases hge : (l.length : Int) ≤ at0
            · rw [if_pos (.inr hge)] at hd
              have HDD := Lib.hid hd
              clear hd
              go_wp2_with fail
              refine HTOP.out.mono ?_
              rintro e w1 ⟨rfl, o1⟩
              have hI1 := HI.out.still o1
              have hP1 := hI1.topPlace hst
              have hr := hP1.row
              obtain ⟨al, nl, cl, rfl⟩ := capOk_form hr.1.cap
              have hn : nl = l.length := by cases hr.1.row <;> rfl
              subst hn
              have p0 := hP1.cells 0 _ rfl
              have p1 := hP1.cells 1 _ rfl
              have p2 := hP1.cells 2 _ rfl
              simp only [Nat.add_zero] at p0
              have q0 : ∀ p : Grew w1, p.u.cell? ⟨g, st.length * 3, none⟩ = some (.slice none 0 0) := fun p => p.cell p0
              have q1 : ∀ p : Grew w1, p.u.cell? ⟨g, st.length * 3 + 1, none⟩ = some (.slice al l.length cl) := fun p => p.cell p1
              have q2 : ∀ p : Grew w1, p.u.cell? ⟨g, st.length * 3 + 2, none⟩ = some (.int .i64 at0) := fun p => p.cell p2
              have HI1 := Lib.hid hI1
              have HS1 := Lib.hid (HS.out.trans (CStep.still HI.out.pages.lt o1))
              have HR := Lib.hid hr
              clear hI1 hP1 hr o1 p0 p1 p2 HTOP
              go_wp2_with fail
              refine wp_region_grew (by kernel_rfl) (by kernel_rfl) (fun _W h0 h1 => ?_)
              repeat (refine h1 _ _ _ (fun K hK => ?_); go_simp; refine hK _ ?_; clear hK K)
              refine h0 _ (fun p => ?_)
              clear h0 h1 q0 q1 q2
              have hI2 := HI1.out.still p.h
              have HS2 := Lib.hid (HS1.out.trans (CStep.still HI1.out.pages.lt p.h))
              generalize p.u = w2 at *
              clear p
              have c2 := heap_cell hI2.heap 2
              have z2 := heap_frozen hI2.heap 2
              simp only [List.getElem?_toArray, List.getElem?_cons_zero, List.getElem?_cons_succ] at c2
              obtain ⟨hI3, hs3⟩ := hI2.pop hst
              have HI3 := Lib.hid hI3
              have HS3 := Lib.hid (HS2.out.trans hs3)
              have c3 := heap_cell hI3.heap 2
              simp only [List.getElem?_toArray, List.getElem?_cons_zero, List.getElem?_cons_succ] at c3
              have hdr : Only (fun _ => False) (w2.setCell ⟨x, 2, none⟩ (.slice (some ⟨g, 0, none⟩) st.length cap')) (w2.setCell ⟨x, 2, none⟩ (.slice (some ⟨g, 0, none⟩) st.length cap')).drew := (Only.refl _ _).drew
              have hdr2 : Only (fun _ => False) w2 w2.drew := (Only.refl _ _).drew
              have hw3 : IntKind.i64.wrap (st.length : Int) = (st.length : Int) := by exact IntWalk.i64_in _ (by omega)
              have hnl : (0 : Int) ≤ (st.length : Int) := by omega
              have hcl : (st.length : Int) ≤ (cap' : Int) := by
                have hq := hI2.own
                rw [hst, List.length_cons] at hq
                rcases hq.2 with ⟨q, _⟩ | ⟨_, _, _, q, _, _, hle, _⟩
                · cases q
                · cases q; omega
              clear hI3 hs3
              cases hst2 : st with
              | nil =>
                subst hst2
                simp only [List.length_nil] at *
                go_wp2_with fail
                go_region
                all_goals
                  have hI4 := HI3.out.still hdr
                  have HS4 := Lib.hid (HS3.out.trans (CStep.still (F := F1) HI3.out.pages.lt hdr))
                  have HI4 := Lib.hid hI4
                  clear hI4
                  go_wp2_with fail
                  go_roundg f1
                  case measure => omega
                  case rel => exact ⟨_, F1, by omega, HDD.out, HI4.out.at_, HS4.out, by simp [bump], fun q hq => by cases hq⟩
              | cons q st2 =>
                subst hst2
                obtain ⟨qn, qa⟩ := q
                have hqa := HNR.out ⟨qn, qa⟩ (by rw [hst]; simp)
                have hlq : (0 : Int) < (st2.length : Int) + 1 := by omega
                simp only [List.length_cons] at *
                have hwq : IntKind.i64.wrap (qa + by_) = qa + by_ := by rcases hby with rfl | rfl <;> exact IntWalk.i64_in _ (by omega)
                have hwq2 : IntKind.i64.wrap ((st2.length : Int) + 1) = (st2.length : Int) + 1 := by exact IntWalk.i64_in _ (by omega)
                have hcl2 : (st2.length : Int) + 1 ≤ (cap' : Int) := by omega
                go_wp2_with fail
                go_region
                all_goals
                  have hI4 := HI3.out.still hdr
                  have HS4 := Lib.hid (HS3.out.trans (CStep.still (F := F1) HI3.out.pages.lt hdr))
                  have HT2 := Lib.hid (wtop_is _ x b _ F1 g cap' us st2.length hI4 (by omega))
                  have c4 := heap_cell hI4.heap 2
                  simp only [List.getElem?_toArray, List.getElem?_cons_zero, List.getElem?_cons_succ] at c4
                  have HI4 := Lib.hid hI4
                  clear hI4
                  go_wp2_with fail
                  refine HT2.out.mono ?_
                  rintro e w5 ⟨rfl, o5⟩
                  have hI5 := HI4.out.still o5
                  obtain ⟨g9, cap9, us2, v2, e9, rfl, _⟩ := hI5.top (p := ⟨qn, qa⟩) (st := st2) rfl
                  have q5 := (hI5.topPlace (p := ⟨qn, qa⟩) (st := st2) rfl).cells 2 (.int .i64 qa) (by unfold placeC; cases qn <;> rfl)
                  have z5 : w5.frozen? ⟨g, st2.length * 3 + 2, none⟩ = false := own_frozen (n := st2.length + 1) hI5.own _
                  obtain ⟨hI6, hs6⟩ := hI5.setTop (p := ⟨qn, qa⟩) (st := st2) rfl (qa + by_)
                  have HI6 := Lib.hid hI6
                  have HS6 := Lib.hid (HS4.out.trans ((CStep.still (F := F1) HI4.out.pages.lt o5).trans hs6))
                  clear hI5 hI6 hs6 o5
                  go_wp2_with fail
                  go_roundg f1
                  case measure => omega
                  case rel =>
                    refine ⟨_, F1, by omega, HDD.out, HI6.out.at_, HS6.out, by simp only [bump, List.length_cons] at hl ⊢; rw [hst] at hl; simp only [List.length_cons] at hl; omega, fun q hq => ?_⟩
                    rcases List.mem_cons.1 hq with rfl | hq
                    · simp only at hqa ⊢; rcases hby with rfl | rfl <;> omega
                    · have := HNR.out q (by rw [hst]; simp [hq]); omega
            · rw [if_neg (fun q => q.elim hlt hge)] at hd
              simp only at hd
              cases hka : kidAt l at0 with
              | none => rw [hka] at hd; cases hd
              | some k =>
                rw [hka] at hd
                simp only at hd
                obtain ⟨a, rfl, hkx⟩ := kidAt_some hka
                have HDD := Lib.hid hd
                clear hd hka
                go_wp2_with fail
                refine HTOP.out.mono ?_
                rintro e w1 ⟨rfl, o1⟩
                have hI1 := HI.out.still o1
                have hP1 := hI1.topPlace hst
                have hr := hP1.row
                obtain ⟨al, nl, cl, rfl⟩ := capOk_form hr.1.cap
                have hn : nl = l.length := by cases hr.1.row <;> rfl
                subst hn
                have p0 := hP1.cells 0 _ rfl
                have p1 := hP1.cells 1 _ rfl
                have p2 := hP1.cells 2 _ rfl
                simp only [Nat.add_zero] at p0
                have q0 : ∀ p : Grew w1, p.u.cell? ⟨g, st.length * 3, none⟩ = some (.slice none 0 0) := fun p => p.cell p0
                have q1 : ∀ p : Grew w1, p.u.cell? ⟨g, st.length * 3 + 1, none⟩ = some (.slice al l.length cl) := fun p => p.cell p1
                have q2 : ∀ p : Grew w1, p.u.cell? ⟨g, st.length * 3 + 2, none⟩ = some (.int .i64 ((a : Nat) : Int)) := fun p => p.cell p2
                have HI1 := Lib.hid hI1
                have HS1 := Lib.hid (HS.out.trans (CStep.still HI.out.pages.lt o1))
                have HR := Lib.hid hr
                clear hI1 hP1 hr o1 p0 p1 p2 HTOP
                go_wp2_with fail
                refine wp_region_grew (by kernel_rfl) (by kernel_rfl) (fun _W h0 h1 => ?_)
                repeat (refine h1 _ _ _ (fun K hK => ?_); go_simp; refine hK _ ?_; clear hK K)
                refine h0 _ (fun p => ?_)
                clear h0 h1 q0 q1 q2
                have hI2 := HI1.out.still p.h
                have HS2 := Lib.hid (HS1.out.trans (CStep.still HI1.out.pages.lt p.h))
                generalize p.u = w2 at *
                clear p
                have hP2 := hI2.topPlace hst
                have q1 := hP2.cells 1 _ rfl
                have q2 := hP2.cells 2 _ rfl
                obtain ⟨gk', offk, rfl, _, kp⟩ := row_kid hP2.row.1.row hkx
                have hpg := HR.out.2.2.1 k (List.mem_of_getElem? hkx)
                have hal := (List.getElem?_eq_some_iff.1 hkx).1
                have hal2 : (a : Int) < (l.length : Int) := by omega
                have hpos : (0 : Int) < (l.length : Int) := by omega
                have hne0 : ¬ (l.length : Int) = 0 := by omega
                have hdr : Only (fun _ => False) w2 w2.drew := (Only.refl _ _).drew
                have hI4 := hI2.still hdr
                have hs4 := CStep.still (F := F1) hI2.pages.lt hdr
                have HL := Lib.hid (wload_is w2.drew x b c1 F1 k.page hI4.at_ (by omega) (by rw [hst, List.length_cons]; omega))
                have HS4 := Lib.hid (HS2.out.trans hs4)
                clear hI4 hs4 hP2 hI2
                cases hcl : cLoad c1 k.page with
                | mk r2 c2 =>
                  rw [hcl] at HDD HL
                  cases r2 with
                  | false =>
                    have hDD := HDD.out
                    simp only [Option.some.injEq, Prod.mk.injEq] at hDD
                    obtain ⟨rfl, rfl⟩ := hDD
                    go_wp2_with fail
                    go_still_tail 12, (by kernel_rfl)
                    change wpList _ _ _ _ _ w2.drew
                    go_wp2_with fail
                    (with_reducible refine HL.out.mono ?_)
                    rintro e w4 ⟨F4, rfl, ha4, st4⟩
                    · go_wp2_with fail
                      go_ret
                      first | exact ⟨rfl, F4, ha4, HS4.out.trans st4⟩ | exact ⟨F4, rfl, ha4, HS4.out.trans st4⟩
                  | true =>
                    have hc2 := cLoad_len hcl
                    obtain ⟨n2, hc2s⟩ := cLoad_true hcl
                    go_wp2_with fail
                    go_still_tail 12, (by kernel_rfl)
                    change wpList _ _ _ _ _ w2.drew
                    go_wp2_with fail
                    (with_reducible refine HL.out.mono ?_)
                    rintro e w4 ⟨F4, rfl, ha4, st4⟩
                    · rcases hby with rfl | rfl
                      · go_wp2_with fail
                        go_roundg f1
                        case measure => omega
                        case rel =>
                          refine ⟨c2, F4, by omega, HDD.out, ha4, HS4.out.trans st4, hc2, fun q hq => ?_⟩
                          rw [hc2s] at hq
                          rcases List.mem_cons.1 hq with rfl | hq
                          · simp only; omega
                          · have := HNR.out q hq; omega
                      · obtain ⟨vS4, vs4, hI5⟩ := ha4
                        obtain ⟨g4, cap4, us4, v4, rfl, rfl, _⟩ := hI5.top hc2s
                        have hl5 : c1.stack.length ≤ 1000 := by rw [hst, List.length_cons]; omega
                        have HT5 := Lib.hid (wtop_is w4 x b c2 F4 g4 cap4 _ c1.stack.length hI5 hl5)
                        have HI5 := Lib.hid hI5
                        have HS5 := Lib.hid (HS4.out.trans st4)
                        clear hI5 st4 hst
                        go_wp2_with fail
                        (with_reducible refine HT5.out.mono ?_)
                        rintro e w5 ⟨rfl, o5⟩
                        have HT6 := Lib.hid (wtop_is w5 x b c2 F4 g4 cap4 _ c1.stack.length (HI5.out.still o5) hl5)
                        have HI6 := Lib.hid (HI5.out.still o5)
                        have HS6 := Lib.hid (HS5.out.trans (CStep.still HI5.out.pages.lt o5))
                        clear o5
                        go_wp2_with fail
                        (with_reducible refine HT6.out.mono ?_)
                        rintro e w6 ⟨rfl, o6⟩
                        have HI7 := Lib.hid (HI6.out.still o6)
                        have HS7 := Lib.hid (HS6.out.trans (CStep.still HI6.out.pages.lt o6))
                        have HLA := Lib.hid (wlast_is w6 g4 (c1.stack.length * 3) ⟨n2, 0⟩ v4 (HI7.out.topPlace hc2s))
                        clear o6
                        go_wp2_with fail
                        (with_reducible refine HLA.out.mono ?_)
                        rintro e w7 ⟨rfl, o7⟩
                        have hI8 := HI7.out.still o7
                        have q8 := (hI8.topPlace hc2s).cells 2 (.int .i64 0) (by unfold placeC; cases n2 <;> rfl)
                        have z8 : w7.frozen? ⟨g4, c1.stack.length * 3 + 2, none⟩ = false := by
                          have := hI8.own
                          rw [hc2s, List.length_cons] at this
                          exact own_frozen this _
                        have hnl2 : nlen n2 ≤ 255 := by
                          have := (hI8.topPlace hc2s).row
                          cases n2 with
                          | leaf l2 => exact this.2.2.1
                          | twig l2 => exact this.2.2.2.1
                        obtain ⟨hI9, hs9⟩ := hI8.setTop hc2s (chLast n2)
                        have HI9 := Lib.hid hI9
                        have HS9 := Lib.hid (HS7.out.trans ((CStep.still (F := F4) HI7.out.pages.lt o7).trans hs9))
                        clear hI8 hI9 hs9 o7
                        simp only at *
                        go_wp2_with fail
                        go_roundg f1
                        case measure => omega
                        case rel =>
                          have hDD := HDD.out
                          rw [if_pos (by omega), hc2s] at hDD
                          refine ⟨_, F4, by omega, hDD, HI9.out.at_, HS9.out, by rw [hc2s] at hc2; simpa [toLast] using hc2, fun q hq => ?_⟩
                          simp only [toLast] at hq
                          rcases List.mem_cons.1 hq with rfl | hq
                          · simp only; omega
                          · have := HNR.out q hq; omega
end Go.Proofs.Ytcjaokmodicikaa
