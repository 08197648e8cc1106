/- Package walk over the law's pages: a page is read onto the stack. Conditions: one goroutine; the cursor and the pages lie in memory. -/
import Derived.Test.YtcjaokmodicikaaZWalk1
namespace Go.Proofs.Ytcjaokmodicikaa
open Go.RowKit

theorem placeInfo : (Try.prog.info? 78).map (fun i => (i.zero, i.size, i.bytes)) = some (some (.agg #[.slice none 0 0, .slice none 0 0, .int .i64 0]), 3, 56) := by kernel_rfl

/-- A page more on the stack. -/
theorem push_end {w w3 W4 wa : World} {x b : Nat} {c : Cur} {F : Nat → Prop} {vS vS' : Value} {vs : List Value} (h : CurIn w3 x b c F vS vs) (hF : ∀ k, F k → k < w.heap.size) (hs : CStep b F F w w3) {B : Nat} {node : Node} {v : Value} (hv : NodeRow w3 v node)
    (hvn : ∀ j, rowBlock v = some j → w.heap.size ≤ j ∧ ¬ pown w3 b j ∧ j ≠ B) (o4 : Only (fun k => k = B) w3 W4) (hB : w.heap.size ≤ B ∧ ¬ pown w3 b B) (hBl : B < w3.heap.size) (o : Obj)
    (hown : wa.ownsRow 0 78 3 vS' (c.stack.length + 1) ((c.stack.reverse.zip vs).flatMap placeE ++ placeC ⟨node, 0⟩ v)) (hg : (W4.drew.alloc o).grownBy wa vS.ownBlock) (hm : Moved (W4.drew.alloc o) vS vS') :
    ∃ F', CurAt (wa.setCell ⟨x, 2, none⟩ vS') x b { c with stack := ⟨node, 0⟩ :: c.stack } F' ∧ CStep b F F' w (wa.setCell ⟨x, 2, none⟩ vS') := by
  have hx3 := h.lt
  have hb3 := h.pages.lt
  have hxw := hF x h.fx
  have hxB : x ≠ B := fun e => by omega
  have hbB : ¬ b = B := fun e => hB.2 (.inl e.symm)
  have hxb : ¬ b = x := fun e => h.apart x h.fx (.inl e.symm)
  have oa : Only (fun k => k = B ∨ vS.ownBlock = some k) w3 wa := (((o4.drew).alloc o).mono (fun k _ q => (.inl q : k = B ∨ vS.ownBlock = some k))).grown hg (fun k _ q => .inr q)
  have oF2 : Only (fun k => k = B ∨ vS.ownBlock = some k ∨ k = x) w3 (wa.setCell ⟨x, 2, none⟩ vS') := (oa.mono (fun k _ q => q.imp (fun q => q) .inl)).put x 2 (.inr (.inr rfl)) _
  have oF : Only (fun k => k = B ∨ F k) w3 (wa.setCell ⟨x, 2, none⟩ vS') := (oa.mono (fun k _ q => q.imp id fun q => (h.fS k q).1)).put x 2 (.inr h.fx) _
  have hSx : vS.ownBlock ≠ some x := fun e => (h.fS x e).2 rfl
  have hxa := (oa.block x hx3 (fun q => q.elim hxB hSx)).trans h.heap
  have hh := heap_setCell hxa 2 vS'
  have hbb : (wa.setCell ⟨x, 2, none⟩ vS').heap[b]? = w3.heap[b]? := oF.block b hb3 (fun q => q.elim hbB (fun q => h.apart b q (.inl rfl)))
  have hpw : ∀ k, pown (wa.setCell ⟨x, 2, none⟩ vS') b k ↔ pown w3 b k := pown_of_heap hbb
  have hsz4 : (W4.drew.alloc o).heap.size = W4.heap.size + 1 := by simp [World.alloc]
  have hs43 := o4.size
  have hw3 := hs.only.size
  have hnew : ∀ k, vS'.ownBlock = some k → vS.ownBlock = some k ∨ w3.heap.size ≤ k := fun k hk => (hm k hk).imp id fun q => by rw [hsz4] at q; omega
  have hSF : ∀ k, vS.ownBlock = some k → k < w.heap.size := fun k hk => hF k (h.fS k hk).1
  have hal := hown.lt
  have hsza : wa.heap.size ≤ (wa.setCell ⟨x, 2, none⟩ vS').heap.size := by simp [World.setCell]
  have hnx : vS'.ownBlock ≠ some x := fun e => (hnew x e).elim hSx (fun q => by omega)
  have hold : ∀ k, w3.heap.size ≤ k → ¬ pown (wa.setCell ⟨x, 2, none⟩ vS') b k := fun k hk q => by
    have := pown_lt h.pages ((hpw k).1 q); omega
  have hvl := hv.lt
  have hPF : PagesAt (wa.setCell ⟨x, 2, none⟩ vS') b c.p := by
    obtain ⟨vL, vG, hI⟩ := h.pages
    exact ⟨vL, vG, hI.beside oF (fun k q e => e.elim (fun e => hB.2 (e ▸ q)) (fun e => h.apart k e q))⟩
  have hz : ((⟨node, 0⟩ :: c.stack : List Place).reverse.zip (vs ++ [v])).flatMap placeE = (c.stack.reverse.zip vs).flatMap placeE ++ placeC ⟨node, 0⟩ v := by
    rw [List.reverse_cons, List.zip_append (by simp [h.len]), List.flatMap_append]
    simp [placeE]
  have hown5 := own_store hown hnx 2 vS'
  refine ⟨fun k => F k ∨ (w.heap.size ≤ k ∧ k < (wa.setCell ⟨x, 2, none⟩ vS').heap.size ∧ ¬ pown (wa.setCell ⟨x, 2, none⟩ vS') b k), ⟨vS', vs ++ [v], ⟨hh, ?_, by simp [h.len], fun j p u hp hu => ?_, .inl h.fx, fun k hk => ⟨?_, fun e => hnx (e ▸ hk)⟩, fun u hu k hk => ?_, fun k hk => ?_, fun k hk => ?_, hPF⟩⟩, ⟨?_, fun k q => q.imp id fun q => q.1, fun k q => hs.own k ((hpw k).1 q)⟩⟩
  · rw [hz]
    exact hown5
  · rw [List.reverse_cons, List.getElem?_append] at hp
    rw [List.getElem?_append] at hu
    rw [List.length_reverse] at hp
    rw [h.len] at hu
    by_cases hj : j < c.stack.length
    · rw [if_pos hj] at hp hu
      have hum := List.mem_of_getElem? hu
      exact (h.rows j p u hp hu).only oF2 (fun k hk q => by
        have hf := h.fv u hum k hk
        rcases q with q | q | q
        · have := hF k hf.1; omega
        · exact hf.2.2 q
        · exact hf.2.1 q)
    · rw [if_neg hj] at hp hu
      rw [List.getElem?_singleton] at hp hu
      by_cases hj0 : j - c.stack.length = 0
      · rw [if_pos hj0] at hp hu
        cases hp; cases hu
        exact hv.only oF (fun k hk q => by
          obtain ⟨q1, q2, q3⟩ := hvn k hk
          rcases q with q | q
          · exact q3 q
          · have := hF k q; omega)
      · rw [if_neg hj0] at hp
        cases hp
  · rcases hnew k hk with q | q
    · exact .inl (h.fS k q).1
    · exact .inr ⟨by omega, Nat.lt_of_lt_of_le (hal k hk).2 hsza, hold k q⟩
  · rcases List.mem_append.1 hu with hu | hu
    · obtain ⟨q1, q2, q3⟩ := h.fv u hu k hk
      exact ⟨.inl q1, q2, fun e => (hnew k e).elim q3 fun q => by have := hF k q1; omega⟩
    · rw [List.mem_singleton.1 hu] at hk
      obtain ⟨q1, q2, q3⟩ := hvn k hk
      have hl := hvl k hk
      exact ⟨.inr ⟨q1, Nat.lt_of_lt_of_le hl oF.size, fun q => q2 ((hpw k).1 q)⟩, fun e => by omega, fun e => (hnew k e).elim (fun q => by have := hSF k q; omega) fun q => by omega⟩
  · rcases hk with hk | hk
    · have := hF k hk; have := oF.size; omega
    · exact hk.2.1
  · rcases hk with hk | hk
    · exact fun q => h.apart k hk ((hpw k).1 q)
    · exact hk.2.2
  · exact hs.only.trans oF fun i hi q => by
      rcases q with q | q
      · omega
      · exact .inl q

theorem cLoad_full {c : Cur} {id : Int} (h : 12 ≤ c.stack.length) : cLoad c id = (false, { c with e := 25, stack := [] }) := by unfold cLoad; rw [if_pos h]
theorem cLoad_err {c : Cur} {id : Int} {e : Int} {p : PSt} (h : ¬ 12 ≤ c.stack.length) (hg : getP c.p id = (.error e, p)) : cLoad c id = (false, { c with p := p, e := e, stack := [] }) := by unfold cLoad; rw [if_neg h, hg]
theorem cLoad_ok {c : Cur} {id : Int} {n : Node} {p : PSt} (h : ¬ 12 ≤ c.stack.length) (hg : getP c.p id = (.ok n, p)) : cLoad c id = (true, { c with p := p, stack := ⟨n, 0⟩ :: c.stack }) := by unfold cLoad; rw [if_neg h, hg]
theorem getP_err {p p' : PSt} {id e : Int} (h : getP p id = (.error e, p')) : e ≠ 0 := by
  unfold getP at h
  split at h
  · cases h; decide
  · split at h
    · cases h
    · cases h; decide
theorem getP_ok {p p' : PSt} {id : Int} {n : Node} (h : getP p id = (.ok n, p')) : nodeAt p.L id = some n := by
  unfold getP at h
  split at h
  · cases h
  · split at h
    · rename_i h2; cases h; exact h2
    · cases h

set_option maxRecDepth 100000 in
set_option maxHeartbeats 4000000 in
theorem wload_is (w : World) (x b : Nat) (c : Cur) (F : Nat → Prop) (id : Int) (h : CurAt w x b c F) (hid : -1000000 ≤ id ∧ id ≤ 1000000) (hl : c.stack.length ≤ 1000) :
    Calls Try.prog 53 #[.pointer (some ⟨x, 0, none⟩), .int .i64 id] w fun e w' => ∃ F', e = .returned (.bool (cLoad c id).1) ∧ CurAt w' x b (cLoad c id).2 F' ∧ CStep b F F' w w' := by
  obtain ⟨i0, hi, hz0, hz1, hz2⟩ := info_parts placeInfo
  have hm := fun n => m_Get n ⟨b, 0, none⟩
  have HA := Lib.hid h
  obtain ⟨vS, vs, h⟩ := h
  obtain ⟨aS, cS, rfl⟩ := ownsRow_form h.own
  have c2 := heap_cell h.heap 2
  have c0 := heap_cell h.heap 0
  simp only [List.getElem?_toArray, List.getElem?_cons_zero, List.getElem?_cons_succ] at c0 c2
  unfold pagesV at c0
  have hpl := h.pages.lt
  have HI := Lib.hid h
  clear h
  by_cases h12 : 12 ≤ c.stack.length
  · rw [cLoad_full h12]
    have h12' : (12 : Int) ≤ (c.stack.length : Int) := by omega
    have HFA := Lib.hid (wfail_is w x b c F 25 HA.out)
    go_enter Try.func53, Try.ntmps53
    go_wp2_with fail
    refine HFA.out.mono ?_
    rintro e w1 ⟨rfl, h1, s1⟩
    go_wp2_with fail
    go_ret
    exact ⟨F, rfl, h1, s1⟩
  · have h12' : ¬ (12 : Int) ≤ (c.stack.length : Int) := by omega
    cases hg : getP c.p id with
    | mk r p' =>
      have hG := PGet_is w b c.p id HI.out.pages hid
      rw [hg] at hG
      cases r with
      | error e =>
        rw [cLoad_err h12 hg]
        have he0 := getP_err hg
        have HG := Lib.hid hG
        unfold resPage at HG
        unfold noPage at HG
        clear hG hg
        go_enter Try.func53, Try.ntmps53
        go_wp2_with fail
        refine HG.out.mono ?_
        rintro e' w1 ⟨rfl, hp1, st1⟩
        have o1 := (Only.refl (fun _ => False) w1).alloc (.cells #[.int .i64 0, .int .i64 0, .int .i64 0, str []] 120)
        have hI1 := (HI.out.beside st1.only (fun k hk q => HI.out.apart k hk q) hp1 (fun k q => st1.own k q)).still o1
        have hS1 : CStep b F F w w1 := ⟨st1.only.mono fun _ _ q => .inr q, fun _ q => .inl q, st1.own⟩
        have HFA := Lib.hid (wfail_is _ x b _ F e ⟨_, _, hI1⟩)
        have HS1 := Lib.hid (hS1.trans (CStep.still hp1.lt o1))
        clear hI1 hS1 o1 hp1 st1
        go_wp2_with fail
        refine HFA.out.mono ?_
        rintro e' w2 ⟨rfl, h2, s2⟩
        go_wp2_with fail
        go_ret
        exact ⟨F, rfl, h2, HS1.out.trans s2⟩
      | ok n =>
        rw [cLoad_ok h12 hg]
        have hn := getP_ok hg
        have hso : soundN n := by
          obtain ⟨vL, vG, hp⟩ := HI.out.pages
          exact hp.sound n (nodeAt_mem hn)
        clear hn
        cases n with
        | leaf l =>
          obtain ⟨⟨hr1, hr2, hr3⟩, hne⟩ := hso
          have HRD := Lib.hid (fun W => Read_is l hr1 hr2 hr3 W)
          have hG2 : Calls Try.prog 130 #[.pointer (some ⟨b, 0, none⟩), .int .i64 id] w fun e w' => e = .returned (.tuple #[.agg #[.int .i64 3, .int .i64 id, .int .i64 0, str (leafB l)], .int .i64 0]) ∧ PagesAt w' b p' ∧ PStep b w w' := hG
          have HG := Lib.hid hG2
          have HPG : Hid (l.length ≤ 255 ∧ rightL l = true) := Lib.hid (⟨hr3, hr1⟩)
          clear hG hG2 hg hr1 hr2 hr3
          go_enter Try.func53, Try.ntmps53
          go_wp2_with fail
          refine HG.out.mono ?_
          rintro e' w1 ⟨rfl, hp1, st1⟩
          have o2 := ((Only.refl (fun _ => False) w1).alloc (.cells #[.int .i64 3, .int .i64 id, .int .i64 0, str (leafB l)] 120)).alloc (.cells #[.slice none 0 0, .slice none 0 0, .int .i64 0] 78)
          have hN := heap_alloc_new (w1.alloc (.cells #[.int .i64 3, .int .i64 id, .int .i64 0, str (leafB l)] 120)) (.cells #[.slice none 0 0, .slice none 0 0, .int .i64 0] 78)
          have hN1 : (w1.alloc (.cells #[.int .i64 3, .int .i64 id, .int .i64 0, str (leafB l)] 120)).heap.size = w1.heap.size + 1 := by simp
          have hN2 : ((w1.alloc (.cells #[.int .i64 3, .int .i64 id, .int .i64 0, str (leafB l)] 120)).alloc (.cells #[.slice none 0 0, .slice none 0 0, .int .i64 0] 78)).heap.size = w1.heap.size + 2 := by simp
          rw [hN1] at hN
          have hI1 := HI.out.beside st1.only (fun k hk q => HI.out.apart k hk q) hp1 (fun k q => st1.own k q)
          have hS1 : CStep b F F w w1 := ⟨st1.only.mono fun _ _ q => .inr q, fun _ q => .inl q, st1.own⟩
          have HI1 := Lib.hid hI1
          have HS1 := Lib.hid hS1
          have hsw := st1.only.size
          have hb1 := hp1.lt
          clear hI1 hS1 hp1 st1
          go_wp2_with fail
          refine (HRD.out _).mono ?_
          rintro e' w3 ⟨v, rfl, hrow, o3, hnew⟩
          rw [hN2] at hnew
          obtain ⟨av, nv, cv, rfl⟩ := capOk_form hrow.cap
          have hs3 := o3.size
          rw [hN2] at hs3
          have hN3 := (o3.block _ (by rw [hN2]; omega) (fun q => q)).trans hN
          have a0 := heap_cell hN3 0
          have z0 := heap_frozen hN3 0
          have hN4 := heap_setCell hN3 0 (.slice av nv cv)
          have o4 : Only (fun k => k = w1.heap.size + 1) w3 (w3.setCell ⟨w1.heap.size + 1, 0, none⟩ (.slice av nv cv)) := (Only.refl (fun k => k = w1.heap.size + 1) w3).put _ 0 rfl _
          have o13 := o2.trans o3 (fun _ _ q => q)
          have hI3 := HI1.out.still o13
          have hBn : ¬ pown w3 b (w1.heap.size + 1) := fun q => by
            have := pown_lt HI1.out.pages ((pown_of_heap (o13.block b hb1 (fun q => q)) _).1 q); omega
          have hI4 := hI3.beside o4 (fun k hk e => by have := HI.out.small k hk; have e2 : k = w1.heap.size + 1 := e; omega) (by
            obtain ⟨vL, vG, hq⟩ := hI3.pages
            exact ⟨vL, vG, hq.beside o4 (fun k q e => hBn (by have e2 : k = w1.heap.size + 1 := e; exact e2 ▸ q))⟩) (fun k q => .inl ((pown_of_heap (o4.block b hI3.pages.lt (fun e => hBn (by have e2 : b = w1.heap.size + 1 := e; exact .inl e2.symm))) k).1 q))
          have d2 := heap_cell hI4.heap 2
          have y2 := heap_frozen hI4.heap 2
          have b0 := heap_cell hN4 0
          have b1 := heap_cell hN4 1
          have b2 := heap_cell hN4 2
          simp only [List.getElem?_toArray, List.getElem?_cons_zero, List.getElem?_cons_succ, List.setIfInBounds_toArray, List.set_cons_zero] at a0 d2 b0 b1 b2
          have HROW : Hid (NodeRow w3 (.slice av nv cv) (.leaf l)) := Lib.hid ⟨hrow, hne, HPG.out⟩
          have HNV : Hid (∀ j, rowBlock (Value.slice av nv cv) = some j → w.heap.size ≤ j ∧ ¬ pown w3 b j ∧ j ≠ w1.heap.size + 1) := Lib.hid (fun j hj => by
            have := hnew j hj
            exact ⟨by omega, fun q => by have := pown_lt HI1.out.pages ((pown_of_heap (o13.block b hb1 (fun q => q)) _).1 q); omega, by omega⟩)
          have HI3 := Lib.hid hI3
          have HI4 := Lib.hid hI4
          have HS3 := Lib.hid (HS1.out.trans (CStep.still hb1 o13))
          have HB := Lib.hid hBn
          have HO4 := Lib.hid o4
          have hBl : w1.heap.size + 1 < w3.heap.size := by omega
          have hx4 := hI4.lt
          have hSx : (Value.slice aS c.stack.length cS).ownBlock ≠ some x := fun e => (hI4.fS x e).2 rfl
          have hSB : (Value.slice aS c.stack.length cS).ownBlock ≠ some (w1.heap.size + 1) := fun e => by have := HI.out.small _ (HI.out.fS _ e).1; omega
          have hNl : w1.heap.size + 1 < (w3.setCell ⟨w1.heap.size + 1, 0, none⟩ (.slice av nv cv)).heap.size := (Array.getElem?_eq_some_iff.1 hN4).1
          clear hN hN1 hN2 hrow o2 o3 hnew hs3 hN3 hN4 o4 o13 hI3 hBn hI4
          go_wp2_with fail
          generalize hW4 : (w3.setCell ⟨w1.heap.size + 1, 0, none⟩ (.slice av nv cv)) = W4 at *
          have HW4 := Lib.hid hW4
          clear hW4
          have own : W4.ownsRow 0 78 3 (.slice aS c.stack.length cS) c.stack.length ((c.stack.reverse.zip vs).flatMap placeE) := HI4.out.own
          go_region_law (refine step_append_moved _ rfl _ _ 70 rfl 78 i0 _ 3 56 Try.underlying70 hi hz0 hz1 hz2 rfl (by decide) _ _ _ rfl (own.drew.alloc _) ⟨W4.heap.size, 0, none⟩ 1 1 [.slice av nv cv, .slice none 0 0, .int .i64 0] rfl rfl (cells_new W4.drew [.slice av nv cv, .slice none 0 0, .int .i64 0] 78 _) (by simp [Value.oneCell']) (by unfold maxLen; omega) (by omega) ?_; intro a' c' wa hown2 hgr hmv; have hq : Only (fun k => (Value.slice aS c.stack.length cS).ownBlock = some k) W4 wa := (((Only.refl _ W4).drew).alloc _).grown hgr (fun k _ h => h); have e2 := (hq.cell (p := ⟨x, 2, none⟩) hx4 hSx).trans d2; have y2' := (hq.frozen (p := ⟨x, 2, none⟩) hx4 hSx).trans y2; have HX := Lib.hid (push_end HI3.out HI.out.small HS3.out HROW.out HNV.out HO4.out ⟨by omega, HB.out⟩ hBl _ hown2 hgr hmv); clear hgr hown2 hmv hq)
          all_goals
            go_wp2_with fail
            go_ret
            obtain ⟨F', k1, k2⟩ := HX.out
            exact ⟨rfl, F', k1, k2⟩
        | twig l =>
          obtain ⟨⟨hr1, hr2, hr3⟩, hne⟩ := hso
          have HRD := Lib.hid (fun W => TRead_is l hne hr1 hr2 hr3 W)
          have hG2 : Calls Try.prog 130 #[.pointer (some ⟨b, 0, none⟩), .int .i64 id] w fun e w' => e = .returned (.tuple #[.agg #[.int .i64 4, .int .i64 id, .int .i64 0, str (twigB l)], .int .i64 0]) ∧ PagesAt w' b p' ∧ PStep b w w' := hG
          have HG := Lib.hid hG2
          have HPG : Hid ((∀ k ∈ l, 2 ≤ k.page ∧ k.page < 4000) ∧ l.length ≤ 255 ∧ rightL l = true) := Lib.hid (⟨fun k hk => by have : okKid k = true := ((rightL_iff _).1 hr1).1 k hk; simp only [okKid, decide_eq_true_eq] at this; exact this.2, hr3, hr1⟩)
          clear hG hG2 hg hr1 hr2 hr3
          go_enter Try.func53, Try.ntmps53
          go_wp2_with fail
          refine HG.out.mono ?_
          rintro e' w1 ⟨rfl, hp1, st1⟩
          have o2 := ((Only.refl (fun _ => False) w1).alloc (.cells #[.int .i64 4, .int .i64 id, .int .i64 0, str (twigB l)] 120)).alloc (.cells #[.slice none 0 0, .slice none 0 0, .int .i64 0] 78)
          have hN := heap_alloc_new (w1.alloc (.cells #[.int .i64 4, .int .i64 id, .int .i64 0, str (twigB l)] 120)) (.cells #[.slice none 0 0, .slice none 0 0, .int .i64 0] 78)
          have hN1 : (w1.alloc (.cells #[.int .i64 4, .int .i64 id, .int .i64 0, str (twigB l)] 120)).heap.size = w1.heap.size + 1 := by simp
          have hN2 : ((w1.alloc (.cells #[.int .i64 4, .int .i64 id, .int .i64 0, str (twigB l)] 120)).alloc (.cells #[.slice none 0 0, .slice none 0 0, .int .i64 0] 78)).heap.size = w1.heap.size + 2 := by simp
          rw [hN1] at hN
          have hI1 := HI.out.beside st1.only (fun k hk q => HI.out.apart k hk q) hp1 (fun k q => st1.own k q)
          have hS1 : CStep b F F w w1 := ⟨st1.only.mono fun _ _ q => .inr q, fun _ q => .inl q, st1.own⟩
          have HI1 := Lib.hid hI1
          have HS1 := Lib.hid hS1
          have hsw := st1.only.size
          have hb1 := hp1.lt
          clear hI1 hS1 hp1 st1
          go_wp2_with fail
          refine (HRD.out _).mono ?_
          rintro e' w3 ⟨v, rfl, hrow, o3, hnew⟩
          rw [hN2] at hnew
          obtain ⟨av, nv, cv, rfl⟩ := capOk_form hrow.cap
          have hs3 := o3.size
          rw [hN2] at hs3
          have hN3 := (o3.block _ (by rw [hN2]; omega) (fun q => q)).trans hN
          have a0 := heap_cell hN3 1
          have z0 := heap_frozen hN3 1
          have hN4 := heap_setCell hN3 1 (.slice av nv cv)
          have o4 : Only (fun k => k = w1.heap.size + 1) w3 (w3.setCell ⟨w1.heap.size + 1, 1, none⟩ (.slice av nv cv)) := (Only.refl (fun k => k = w1.heap.size + 1) w3).put _ 1 rfl _
          have o13 := o2.trans o3 (fun _ _ q => q)
          have hI3 := HI1.out.still o13
          have hBn : ¬ pown w3 b (w1.heap.size + 1) := fun q => by
            have := pown_lt HI1.out.pages ((pown_of_heap (o13.block b hb1 (fun q => q)) _).1 q); omega
          have hI4 := hI3.beside o4 (fun k hk e => by have := HI.out.small k hk; have e2 : k = w1.heap.size + 1 := e; omega) (by
            obtain ⟨vL, vG, hq⟩ := hI3.pages
            exact ⟨vL, vG, hq.beside o4 (fun k q e => hBn (by have e2 : k = w1.heap.size + 1 := e; exact e2 ▸ q))⟩) (fun k q => .inl ((pown_of_heap (o4.block b hI3.pages.lt (fun e => hBn (by have e2 : b = w1.heap.size + 1 := e; exact .inl e2.symm))) k).1 q))
          have d2 := heap_cell hI4.heap 2
          have y2 := heap_frozen hI4.heap 2
          have b0 := heap_cell hN4 0
          have b1 := heap_cell hN4 1
          have b2 := heap_cell hN4 2
          simp only [List.getElem?_toArray, List.getElem?_cons_zero, List.getElem?_cons_succ, List.setIfInBounds_toArray, List.set_cons_zero, List.set_cons_succ] at a0 d2 b0 b1 b2
          have HROW : Hid (NodeRow w3 (.slice av nv cv) (.twig l)) := Lib.hid ⟨hrow, hne, HPG.out⟩
          have HNV : Hid (∀ j, rowBlock (Value.slice av nv cv) = some j → w.heap.size ≤ j ∧ ¬ pown w3 b j ∧ j ≠ w1.heap.size + 1) := Lib.hid (fun j hj => by
            have := hnew j hj
            exact ⟨by omega, fun q => by have := pown_lt HI1.out.pages ((pown_of_heap (o13.block b hb1 (fun q => q)) _).1 q); omega, by omega⟩)
          have HI3 := Lib.hid hI3
          have HI4 := Lib.hid hI4
          have HS3 := Lib.hid (HS1.out.trans (CStep.still hb1 o13))
          have HB := Lib.hid hBn
          have HO4 := Lib.hid o4
          have hBl : w1.heap.size + 1 < w3.heap.size := by omega
          have hx4 := hI4.lt
          have hSx : (Value.slice aS c.stack.length cS).ownBlock ≠ some x := fun e => (hI4.fS x e).2 rfl
          have hSB : (Value.slice aS c.stack.length cS).ownBlock ≠ some (w1.heap.size + 1) := fun e => by have := HI.out.small _ (HI.out.fS _ e).1; omega
          have hNl : w1.heap.size + 1 < (w3.setCell ⟨w1.heap.size + 1, 1, none⟩ (.slice av nv cv)).heap.size := (Array.getElem?_eq_some_iff.1 hN4).1
          clear hN hN1 hN2 hrow o2 o3 hnew hs3 hN3 hN4 o4 o13 hI3 hBn hI4
          go_wp2_with fail
          generalize hW4 : (w3.setCell ⟨w1.heap.size + 1, 1, none⟩ (.slice av nv cv)) = W4 at *
          have HW4 := Lib.hid hW4
          clear hW4
          have own : W4.ownsRow 0 78 3 (.slice aS c.stack.length cS) c.stack.length ((c.stack.reverse.zip vs).flatMap placeE) := HI4.out.own
          go_region_law (refine step_append_moved _ rfl _ _ 70 rfl 78 i0 _ 3 56 Try.underlying70 hi hz0 hz1 hz2 rfl (by decide) _ _ _ rfl (own.drew.alloc _) ⟨W4.heap.size, 0, none⟩ 1 1 [.slice none 0 0, .slice av nv cv, .int .i64 0] rfl rfl (cells_new W4.drew [.slice none 0 0, .slice av nv cv, .int .i64 0] 78 _) (by simp [Value.oneCell']) (by unfold maxLen; omega) (by omega) ?_; intro a' c' wa hown2 hgr hmv; have hq : Only (fun k => (Value.slice aS c.stack.length cS).ownBlock = some k) W4 wa := (((Only.refl _ W4).drew).alloc _).grown hgr (fun k _ h => h); have e2 := (hq.cell (p := ⟨x, 2, none⟩) hx4 hSx).trans d2; have y2' := (hq.frozen (p := ⟨x, 2, none⟩) hx4 hSx).trans y2; have HX := Lib.hid (push_end HI3.out HI.out.small HS3.out HROW.out HNV.out HO4.out ⟨by omega, HB.out⟩ hBl _ hown2 hgr hmv); clear hgr hown2 hmv hq)
          all_goals
            go_wp2_with fail
            go_ret
            obtain ⟨F', k1, k2⟩ := HX.out
            exact ⟨rfl, F', k1, k2⟩
end Go.Proofs.Ytcjaokmodicikaa
