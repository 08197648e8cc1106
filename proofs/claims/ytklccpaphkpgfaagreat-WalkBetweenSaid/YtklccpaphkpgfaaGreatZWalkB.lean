/- Package walk over the law's pages: down to a leaf. Conditions: one goroutine; the cursor and the pages lie in memory. -/
import Derived.Test.YtklccpaphkpgfaaGreatZWalkA
import Derived.Deep.RegionWith
import Derived.BigRegion
import Derived.StillTailTactics
namespace Go.Proofs.YtklccpaphkpgfaaGreat
open Go.RowKit

/-- What a function that chooses has captured lies beside the cursor. -/
structure KInv (b B : Nat) (kv : Option Value) (F : Nat → Prop) (w : World) : Prop where
  ok : ∀ u, kv = some u → w.cell? ⟨B, 0, none⟩ = some u ∧ ¬ F B ∧ ¬ pown w b B
theorem KInv.step {b B : Nat} {kv : Option Value} {F F' : Nat → Prop} {w w' : World} (h : KInv b B kv F w) (s : CStep b F F' w w') : KInv b B kv F' w' := ⟨fun u hu => by
  obtain ⟨h1, h2, h3⟩ := h.ok u hu
  have hl := lt_of_cell h1
  exact ⟨(s.only.cell (p := ⟨B, 0, none⟩) hl (fun q => q.elim h2 h3)).trans h1, fun q => (s.grow B q).elim h2 (by omega), fun q => (s.own B q).elim h3 (by omega)⟩⟩
def ChooseIs (fk : Nat) (cap : Array Value) (ch : Node → Int) (B : Nat) (kv : Option Value) : Prop :=
  ∀ (W : World) (g off : Nat) (p : Place) (v : Value), PlaceIn W g off p v → (∀ u, kv = some u → W.cell? ⟨B, 0, none⟩ = some u) → Calls Tryz.prog fk (#[.pointer (some ⟨g, off, none⟩)] ++ cap) W fun e w' => e = .returned (.int .i64 (ch p.node)) ∧ Only (fun _ => False) W w'

theorem CurIn.at_ {w : World} {x b : Nat} {c : Cur} {F : Nat → Prop} {vS : Value} {vs : List Value} (h : CurIn w x b c F vS vs) : CurAt w x b c F := ⟨vS, vs, h⟩
theorem cLoad_len {c c' : Cur} {id : Int} (h : cLoad c id = (true, c')) : c'.stack.length ≤ 12 := by
  unfold cLoad at h
  split at h
  · cases h
  · split at h
    · cases h
    · cases h; simp only [List.length_cons]; omega
theorem kidAt_some {l : List Kid} {a : Int} {k : Kid} (h : kidAt l a = some k) : ∃ n : Nat, a = n ∧ l[n]? = some k := by
  unfold kidAt at h
  split at h
  · rename_i h0
    exact ⟨a.toNat, by omega, h⟩
  · cases h

set_option maxRecDepth 100000 in
set_option maxHeartbeats 4000000 in
theorem wdown_is (fk : Nat) (cap : Array Value) (ch : Node → Int) (B : Nat) (kv : Option Value) (hent : ∀ args w, (callFunc fk args).run Tryz.prog w = .ok (.enter fk args) w) (hch : ChooseIs fk cap ch B kv) (f : Nat) (w : World) (x b : Nat) (c c' : Cur) (F : Nat → Prop) (r : Bool) (h : CurAt w x b c F) (hK : KInv b B kv F w) (hsl : c.stack.length ≤ 12) (hd : cDown ch f c = some (r, c')) :
    Calls Tryz.prog 112 #[.pointer (some ⟨x, 0, none⟩), .func (.func fk) #[] cap] w fun e w' => ∃ F', e = .returned (.bool r) ∧ CurAt w' x b c' F' ∧ CStep b F F' w w' := by
  have HA := Lib.hid h
  have HKI := Lib.hid hK
  have HD := Lib.hid hd
  have HCH := Lib.hid hch
  clear h hK hd hch
  go_enter Tryz.func112, Tryz.ntmps112
  go_wp2_with fail
  go_loopg [5] f (fun gh n5 wr => ∃ (c1 : Cur) (F1 : Nat → Prop), cDown ch gh c1 = some (r, c') ∧ CurAt wr x b c1 F1 ∧ CStep b F F1 w wr ∧ KInv b B kv F1 wr ∧ c1.stack.length ≤ 12)
  case atStart => exact ⟨c, F, HD.out, HA.out, CStep.refl b F w, HKI.out, hsl⟩
  case round =>
    obtain ⟨c1, F1, hd, ha, hs, hk, hl⟩ := hrel
    cases gk with
    | zero => cases hd
    | succ f1 =>
      cases hst : c1.stack with
      | nil => rw [cDown, hst] at hd; cases hd
      | cons p st =>
        obtain ⟨vS, vs, hI⟩ := ha
        obtain ⟨g, cap', us, v, rfl, rfl, hul, hrow, _⟩ := hI.top hst
        have hl2 : st.length ≤ 900 := by rw [hst, List.length_cons] at hl; omega
        have hl9 : st.length ≤ 1000 := by omega
        have HTOP := Lib.hid (wtop_is wr x b c1 F1 g cap' _ st.length hI hl9)
        have HI := Lib.hid hI
        have HS := Lib.hid hs
        have HK := Lib.hid hk
        have HDD := Lib.hid hd
        clear hI hs hk hd hrow
        go_wp2_with fail
        refine HTOP.out.mono ?_
        rintro e w1 ⟨rfl, o1⟩
        have hI1 := HI.out.still o1
        have hS1 := HS.out.trans (CStep.still HI.out.pages.lt o1)
        have hK1 := HK.out.step (CStep.still HI.out.pages.lt o1)
        have HC := Lib.hid (HCH.out w1 g (st.length * 3) p v (hI1.topPlace hst) (fun u hu => (hK1.ok u hu).1))
        have HI1 := Lib.hid hI1
        have HS1 := Lib.hid hS1
        have HK1 := Lib.hid hK1
        clear hI1 hS1 hK1 o1 HTOP
        go_wp2_with fail
        refine HC.out.mono ?_
        rintro e w2 ⟨rfl, o2⟩
        have hI2 := HI1.out.still o2
        have hs2 := CStep.still (F := F1) HI1.out.pages.lt o2
        obtain ⟨hI3, hs3⟩ := hI2.setTop hst (ch p.node)
        have hP2 := (hI2.topPlace hst).cells 2 (.int .i64 p.at_) (by unfold placeC; cases p.node <;> rfl)
        have hz2 : w2.frozen? ⟨g, st.length * 3 + 2, none⟩ = false := by
          have := hI2.own
          rw [hst, List.length_cons] at this
          exact own_frozen this _
        have hP3 := hI3.topPlace (p := ⟨p.node, ch p.node⟩) rfl
        have HI3 := Lib.hid hI3
        have HS3 := Lib.hid (HS1.out.trans (hs2.trans hs3))
        have HK3 := Lib.hid (HK1.out.step (hs2.trans hs3))
        have HP3 := Lib.hid hP3
        clear hI2 hs2 hI3 hs3 hP3 o2 HC
        obtain ⟨node, at0⟩ := p
        cases node with
        | leaf l =>
          have q1 := HP3.out.cells 1 _ rfl
          have hd := HDD.out
          rw [cDown, hst] at hd
          simp only [Option.some.injEq, Prod.mk.injEq] at hd
          obtain ⟨rfl, rfl⟩ := hd
          have hlt := lt_of_cell q1
          go_wp2_with fail
          go_ret
          first | exact ⟨rfl, F1, HI3.out.at_, HS3.out⟩ | exact ⟨F1, rfl, HI3.out.at_, HS3.out⟩
        | twig l =>
          have hr := HP3.out.row
          obtain ⟨al, nl, cl, rfl⟩ := capOk_form hr.1.cap
          have hn : nl = l.length := by cases hr.1.row <;> rfl
          subst hn
          have q1 := HP3.out.cells 1 _ rfl
          have q2 := HP3.out.cells 2 _ rfl
          have hd := HDD.out
          rw [cDown, hst] at hd
          simp only at hd
          cases hka : kidAt l (ch (.twig l)) with
          | none => rw [hka] at hd; cases hd
          | some k =>
            rw [hka] at hd
            simp only at hd
            obtain ⟨a, hca, hkx⟩ := kidAt_some hka
            have hal := (List.getElem?_eq_some_iff.1 hkx).1
            have hal2 : (a : Int) < (l.length : Int) := by omega
            have hpos : (0 : Int) < (l.length : Int) := by omega
            have hne0 : ¬ (l.length : Int) = 0 := by omega
            have hpg := hr.2.2.1 k (List.mem_of_getElem? hkx)
            obtain ⟨gk', offk, rfl, _, kp⟩ := row_kid hr.1.row hkx
            have hHD := Lib.hid hd
            have hS3 := HS3.out
            have hK3 := HK3.out
            simp only at hS3 hK3
            clear HS3 HK3
            rw [hca] at *
            have HS3 := Lib.hid hS3
            have HK3 := Lib.hid hK3
            clear hS3 hK3
            have HL := Lib.hid (fun W F' (hW : CurAt W x b _ F') => wload_is W x b { c1 with stack := ⟨.twig l, (a : Int)⟩ :: st } F' k.page hW (by omega) (by show st.length + 1 ≤ 1000; omega))
            have hdr : Only (fun _ => False) (w2.setCell ⟨g, st.length * 3 + 2, none⟩ (.int .i64 (a : Int))) (w2.setCell ⟨g, st.length * 3 + 2, none⟩ (.int .i64 (a : Int))).drew := (Only.refl _ _).drew
            have hI4 := HI3.out.still hdr
            have hs4 := CStep.still (F := F1) HI3.out.pages.lt hdr
            clear hd hka hr
            cases hcl : cLoad { c1 with stack := ⟨.twig l, (a : Int)⟩ :: st } k.page with
            | mk r2 c2 =>
              rw [hcl] at hHD HL
              cases r2 with
              | false =>
                have hHD := hHD.out
                simp only [Option.some.injEq, Prod.mk.injEq] at hHD
                obtain ⟨rfl, rfl⟩ := hHD
                go_wp2_with fail
                go_region_with (go_at_call 111; refine (HL.out _ F1 hI4.at_).mono ?_; rintro e w4 ⟨F4, rfl, ha4, st4⟩)
                all_goals
                  go_wp2_with fail
                  go_ret
                  first | exact ⟨rfl, F4, ha4, HS3.out.trans (hs4.trans st4)⟩ | exact ⟨F4, rfl, ha4, HS3.out.trans (hs4.trans st4)⟩
              | true =>
                have hc2 := cLoad_len hcl
                go_wp2_with fail
                go_region_with (go_at_call 111; refine (HL.out _ F1 hI4.at_).mono ?_; rintro e w4 ⟨F4, rfl, ha4, st4⟩)
                all_goals
                  go_wp2_with fail
                  go_roundg f1
                  case measure => omega
                  case rel => exact ⟨c2, F4, hHD.out, ha4, HS3.out.trans (hs4.trans st4), HK3.out.step (hs4.trans st4), hc2⟩
end Go.Proofs.YtklccpaphkpgfaaGreat

namespace Go.Proofs.YtklccpaphkpgfaaGreat
open Go.RowKit

/-- The place on top is taken off. -/
theorem CurIn.pop {w : World} {x b : Nat} {c : Cur} {F : Nat → Prop} {g n cap : Nat} {us : List Value} {v : Value} (h : CurIn w x b c F (.slice (some ⟨g, 0, none⟩) n cap) (us ++ [v])) {p : Place} {st : List Place} (hs : c.stack = p :: st) :
    CurIn (w.setCell ⟨x, 2, none⟩ (.slice (some ⟨g, 0, none⟩) st.length cap)) x b { c with stack := st } F (.slice (some ⟨g, 0, none⟩) st.length cap) us ∧ CStep b F F w (w.setCell ⟨x, 2, none⟩ (.slice (some ⟨g, 0, none⟩) st.length cap)) := by
  obtain ⟨g', cap', us', v', e1, e2, e3, e4, e5⟩ := h.top hs
  cases e1
  obtain ⟨rfl, hv⟩ := List.append_inj' e2 rfl
  cases hv
  have ho := (Only.refl (fun k => k = x) w).put x 2 rfl (.slice (some ⟨g, 0, none⟩) st.length cap)
  have hbx : ∀ k, pown w b k → ¬ k = x := fun k q e => h.apart k (e ▸ h.fx) q
  have hpw : ∀ k, pown (w.setCell ⟨x, 2, none⟩ (.slice (some ⟨g, 0, none⟩) st.length cap)) b k ↔ pown w b k := pown_of_heap (ho.block b h.pages.lt (hbx b (.inl rfl)))
  have hP : PagesAt (w.setCell ⟨x, 2, none⟩ (.slice (some ⟨g, 0, none⟩) st.length cap)) b c.p := by
    obtain ⟨vL, vG, hI⟩ := h.pages
    exact ⟨vL, vG, hI.beside ho hbx⟩
  have hown := h.own
  have hsl : c.stack.length = st.length + 1 := by rw [hs]; rfl
  rw [hsl] at hown
  have hcut := own_cut hown st.length (by omega)
  have hl : ((st.reverse.zip us).flatMap placeE).length = st.length * 3 := by
    have : ∀ l : List (Place × Value), (l.flatMap placeE).length = l.length * 3 := fun l => by
      induction l with
      | nil => rfl
      | cons a l ih => rw [List.flatMap_cons, List.length_append, ih, placeE_length, List.length_cons]; omega
    rw [this, List.length_zip, List.length_reverse, e3, Nat.min_self]
  rw [e5, ← hl, List.take_left] at hcut
  have hgF := h.fS g rfl
  refine ⟨⟨heap_setCell h.heap 2 _, own_store hcut (fun e => hgF.2 (Option.some.inj e)) 2 _, e3, fun j q u hq hu => ?_, h.fx, fun k hk => h.fS k hk, fun u hu => h.fv u (List.mem_append_left _ hu), fun k hk => Nat.lt_of_lt_of_le (h.small k hk) ho.size, fun k hk q => h.apart k hk ((hpw k).1 q), hP⟩,
    ⟨ho.mono fun k _ e => .inl (by have e2 : k = x := e; exact e2 ▸ h.fx), fun k q => .inl q, fun k q => .inl ((hpw k).1 q)⟩⟩
  have hj : j < st.length := by
    have := (List.getElem?_eq_some_iff.1 hq).1
    simpa using this
  refine (h.rows j q u ?_ ?_).only ho (fun k hk e => (h.fv u (List.mem_append_left _ (List.mem_of_getElem? hu)) k hk).2.1 e)
  · rw [hs, List.reverse_cons, List.getElem?_append_left (by simpa using hj)]
    exact hq
  · rw [List.getElem?_append_left (by omega)]
    exact hu

theorem cLoad_true {c c' : Cur} {id : Int} (h : cLoad c id = (true, c')) : ∃ n, c'.stack = ⟨n, 0⟩ :: c.stack := by
  unfold cLoad at h
  split at h
  · cases h
  · split at h
    · cases h
    · rename_i n p _; cases h; exact ⟨n, rfl⟩
def Near (N : Int) (c : Cur) : Prop := ∀ p ∈ c.stack, -N ≤ p.at_ ∧ p.at_ ≤ N

set_option maxRecDepth 100000 in
set_option maxHeartbeats 8000000 in
theorem where_is (by_ : Int) (hby : by_ = 1 ∨ by_ = -1) (f : Nat) (hf : f ≤ 1000) (w : World) (x b : Nat) (c c' : Cur) (F : Nat → Prop) (r : Bool) (h : CurAt w x b c F) (hsl : c.stack.length ≤ 12) (hnr : Near 1000 c) (hd : cHere by_ f c = some (r, c')) :
    Calls Tryz.prog 113 #[.pointer (some ⟨x, 0, none⟩), .int .i64 by_] w fun e w' => ∃ F', e = .returned (.bool r) ∧ CurAt w' x b c' F' ∧ CStep b F F' w w' := by
  have HA := Lib.hid h
  have HD := Lib.hid hd
  have HNR := Lib.hid hnr
  clear h hd hnr
  go_enter Tryz.func113, Tryz.ntmps113
  go_wp2_with fail
  go_loopg [5] f (fun gh n5 wr => ∃ (c1 : Cur) (F1 : Nat → Prop), gh ≤ 1000 ∧ cHere by_ gh c1 = some (r, c') ∧ CurAt wr x b c1 F1 ∧ CStep b F F1 w wr ∧ c1.stack.length ≤ 12 ∧ Near (100000 - (gh : Int)) c1)
  case atStart => exact ⟨c, F, hf, HD.out, HA.out, CStep.refl b F w, hsl, fun p hp => by have := HNR.out p hp; omega⟩
  case round =>
    obtain ⟨c1, F1, hgh, hd, ha, hs, hl, hnr⟩ := hrel
    cases gk with
    | zero => cases hd
    | succ f1 =>
      cases hst : c1.stack with
      | nil =>
        rw [cHere, hst] at hd
        simp only [Option.some.injEq, Prod.mk.injEq] at hd
        obtain ⟨rfl, rfl⟩ := hd
        obtain ⟨vS, vs, hI⟩ := ha
        have hown := hI.own
        rw [hst] at hown
        obtain ⟨aS, cS, rfl⟩ := ownsRow_form hown
        have c2 := heap_cell hI.heap 2
        simp only [List.getElem?_toArray, List.getElem?_cons_zero, List.getElem?_cons_succ, List.length_nil] at c2
        go_wp2_with fail
        go_ret
        first | exact ⟨rfl, F1, hI.at_, hs⟩ | exact ⟨F1, rfl, hI.at_, hs⟩
      | cons p st =>
        obtain ⟨vS, vs, hI⟩ := ha
        obtain ⟨g, cap', us, v, rfl, rfl, hul, hrow, _⟩ := hI.top hst
        have hl2 : st.length ≤ 900 := by rw [hst, List.length_cons] at hl; omega
        have hl9 : st.length ≤ 1000 := by omega
        have HTOP := Lib.hid (wtop_is wr x b c1 F1 g cap' _ st.length hI hl9)
        have c2 := heap_cell hI.heap 2
        simp only [List.getElem?_toArray, List.getElem?_cons_zero, List.getElem?_cons_succ] at c2
        have hlp : (0 : Int) < (st.length : Int) + 1 := by omega
        have HI := Lib.hid hI
        have HS := Lib.hid hs
        have HNR := Lib.hid hnr
        obtain ⟨node, at0⟩ := p
        have hat := hnr ⟨node, at0⟩ (by rw [hst]; simp)
        simp only at hat
        rw [cHere, hst] at hd
        simp only at hd
        clear hI hs hrow hnr
        cases node with
        | leaf l =>
          by_cases hlt : at0 < 0
          · rw [if_pos (.inl hlt)] at hd
            have HDD := Lib.hid hd
            clear hd
            go_wp2_with fail
            refine HTOP.out.mono ?_
            rintro e w1 ⟨rfl, o1⟩
            have hI1 := HI.out.still o1
            have hP1 := hI1.topPlace hst
            have hr := hP1.row
            obtain ⟨al, nl, cl, rfl⟩ := capOk_form hr.1.cap
            have hn : nl = l.length := by cases hr.1.row <;> rfl
            subst hn
            have p0 := hP1.cells 0 _ rfl
            have p1 := hP1.cells 1 _ rfl
            have p2 := hP1.cells 2 _ rfl
            simp only [Nat.add_zero] at p0
            have q0 : ∀ p : Grew w1, p.u.cell? ⟨g, st.length * 3, none⟩ = some (.slice al l.length cl) := fun p => p.cell p0
            have q1 : ∀ p : Grew w1, p.u.cell? ⟨g, st.length * 3 + 1, none⟩ = some (.slice none 0 0) := fun p => p.cell p1
            have q2 : ∀ p : Grew w1, p.u.cell? ⟨g, st.length * 3 + 2, none⟩ = some (.int .i64 at0) := fun p => p.cell p2
            have HI1 := Lib.hid hI1
            have HS1 := Lib.hid (HS.out.trans (CStep.still HI.out.pages.lt o1))
            have HR := Lib.hid hr
            clear hI1 hP1 hr o1 p0 p1 p2 HTOP
            go_wp2_with fail
            refine wp_region_grew (by kernel_rfl) (by kernel_rfl) (fun _W h0 h1 => ?_)
            repeat (refine h1 _ _ _ (fun K hK => ?_); go_simp; refine hK _ ?_; clear hK K)
            refine h0 _ (fun p => ?_)
            clear h0 h1 q0 q1 q2
            have hI2 := HI1.out.still p.h
            have HS2 := Lib.hid (HS1.out.trans (CStep.still HI1.out.pages.lt p.h))
            generalize p.u = w2 at *
            clear p
            have c2 := heap_cell hI2.heap 2
            have z2 := heap_frozen hI2.heap 2
            simp only [List.getElem?_toArray, List.getElem?_cons_zero, List.getElem?_cons_succ] at c2
            obtain ⟨hI3, hs3⟩ := hI2.pop hst
            have HI3 := Lib.hid hI3
            have HS3 := Lib.hid (HS2.out.trans hs3)
            have c3 := heap_cell hI3.heap 2
            simp only [List.getElem?_toArray, List.getElem?_cons_zero, List.getElem?_cons_succ] at c3
            have hdr : Only (fun _ => False) (w2.setCell ⟨x, 2, none⟩ (.slice (some ⟨g, 0, none⟩) st.length cap')) (w2.setCell ⟨x, 2, none⟩ (.slice (some ⟨g, 0, none⟩) st.length cap')).drew := (Only.refl _ _).drew
            have hdr2 : Only (fun _ => False) w2 w2.drew := (Only.refl _ _).drew
            have hw3 : IntKind.i64.wrap (st.length : Int) = (st.length : Int) := by exact IntWalk.i64_in _ (by omega)
            have hnl : (0 : Int) ≤ (st.length : Int) := by omega
            have hcl : (st.length : Int) ≤ (cap' : Int) := by
              have hq := hI2.own
              rw [hst, List.length_cons] at hq
              rcases hq.2 with ⟨q, _⟩ | ⟨_, _, _, q, _, _, hle, _⟩
              · cases q
              · cases q; omega
            clear hI3 hs3
            cases hst2 : st with
            | nil =>
              subst hst2
              simp only [List.length_nil] at *
              go_wp2_with fail
              go_region
              all_goals
                have hI4 := HI3.out.still hdr
                have HS4 := Lib.hid (HS3.out.trans (CStep.still (F := F1) HI3.out.pages.lt hdr))
                have HI4 := Lib.hid hI4
                clear hI4
                go_wp2_with fail
                go_roundg f1
                case measure => omega
                case rel => exact ⟨_, F1, by omega, HDD.out, HI4.out.at_, HS4.out, by simp [bump], fun q hq => by cases hq⟩
            | cons q st2 =>
              subst hst2
              obtain ⟨qn, qa⟩ := q
              have hqa := HNR.out ⟨qn, qa⟩ (by rw [hst]; simp)
              have hlq : (0 : Int) < (st2.length : Int) + 1 := by omega
              simp only [List.length_cons] at *
              have hwq : IntKind.i64.wrap (qa + by_) = qa + by_ := by rcases hby with rfl | rfl <;> exact IntWalk.i64_in _ (by omega)
              have hwq2 : IntKind.i64.wrap ((st2.length : Int) + 1) = (st2.length : Int) + 1 := by exact IntWalk.i64_in _ (by omega)
              have hcl2 : (st2.length : Int) + 1 ≤ (cap' : Int) := by omega
              go_wp2_with fail
              go_region
              all_goals
                have hI4 := HI3.out.still hdr
                have HS4 := Lib.hid (HS3.out.trans (CStep.still (F := F1) HI3.out.pages.lt hdr))
                have HT2 := Lib.hid (wtop_is _ x b _ F1 g cap' us st2.length hI4 (by omega))
                have c4 := heap_cell hI4.heap 2
                simp only [List.getElem?_toArray, List.getElem?_cons_zero, List.getElem?_cons_succ] at c4
                have HI4 := Lib.hid hI4
                clear hI4
                go_wp2_with fail
                refine HT2.out.mono ?_
                rintro e w5 ⟨rfl, o5⟩
                have hI5 := HI4.out.still o5
                obtain ⟨g9, cap9, us2, v2, e9, rfl, _⟩ := hI5.top (p := ⟨qn, qa⟩) (st := st2) rfl
                have q5 := (hI5.topPlace (p := ⟨qn, qa⟩) (st := st2) rfl).cells 2 (.int .i64 qa) (by unfold placeC; cases qn <;> rfl)
                have z5 : w5.frozen? ⟨g, st2.length * 3 + 2, none⟩ = false := own_frozen (n := st2.length + 1) hI5.own _
                obtain ⟨hI6, hs6⟩ := hI5.setTop (p := ⟨qn, qa⟩) (st := st2) rfl (qa + by_)
                have HI6 := Lib.hid hI6
                have HS6 := Lib.hid (HS4.out.trans ((CStep.still (F := F1) HI4.out.pages.lt o5).trans hs6))
                clear hI5 hI6 hs6 o5
                go_wp2_with fail
                go_roundg f1
                case measure => omega
                case rel =>
                  refine ⟨_, F1, by omega, HDD.out, HI6.out.at_, HS6.out, by simp only [bump, List.length_cons] at hl ⊢; rw [hst] at hl; simp only [List.length_cons] at hl; omega, fun q hq => ?_⟩
                  rcases List.mem_cons.1 hq with rfl | hq
                  · simp only at hqa ⊢; rcases hby with rfl | rfl <;> omega
                  · have := HNR.out q (by rw [hst]; simp [hq]); omega
          · by_cases hge : (l.length : Int) ≤ at0
            · rw [if_pos (.inr hge)] at hd
              have HDD := Lib.hid hd
              clear hd
              go_wp2_with fail
              refine HTOP.out.mono ?_
              rintro e w1 ⟨rfl, o1⟩
              have hI1 := HI.out.still o1
              have hP1 := hI1.topPlace hst
              have hr := hP1.row
              obtain ⟨al, nl, cl, rfl⟩ := capOk_form hr.1.cap
              have hn : nl = l.length := by cases hr.1.row <;> rfl
              subst hn
              have p0 := hP1.cells 0 _ rfl
              have p1 := hP1.cells 1 _ rfl
              have p2 := hP1.cells 2 _ rfl
              simp only [Nat.add_zero] at p0
              have q0 : ∀ p : Grew w1, p.u.cell? ⟨g, st.length * 3, none⟩ = some (.slice al l.length cl) := fun p => p.cell p0
              have q1 : ∀ p : Grew w1, p.u.cell? ⟨g, st.length * 3 + 1, none⟩ = some (.slice none 0 0) := fun p => p.cell p1
              have q2 : ∀ p : Grew w1, p.u.cell? ⟨g, st.length * 3 + 2, none⟩ = some (.int .i64 at0) := fun p => p.cell p2
              have HI1 := Lib.hid hI1
              have HS1 := Lib.hid (HS.out.trans (CStep.still HI.out.pages.lt o1))
              have HR := Lib.hid hr
              clear hI1 hP1 hr o1 p0 p1 p2 HTOP
              go_wp2_with fail
              refine wp_region_grew (by kernel_rfl) (by kernel_rfl) (fun _W h0 h1 => ?_)
              repeat (refine h1 _ _ _ (fun K hK => ?_); go_simp; refine hK _ ?_; clear hK K)
              refine h0 _ (fun p => ?_)
              clear h0 h1 q0 q1 q2
              have hI2 := HI1.out.still p.h
              have HS2 := Lib.hid (HS1.out.trans (CStep.still HI1.out.pages.lt p.h))
              generalize p.u = w2 at *
              clear p
              have c2 := heap_cell hI2.heap 2
              have z2 := heap_frozen hI2.heap 2
              simp only [List.getElem?_toArray, List.getElem?_cons_zero, List.getElem?_cons_succ] at c2
              obtain ⟨hI3, hs3⟩ := hI2.pop hst
              have HI3 := Lib.hid hI3
              have HS3 := Lib.hid (HS2.out.trans hs3)
              have c3 := heap_cell hI3.heap 2
              simp only [List.getElem?_toArray, List.getElem?_cons_zero, List.getElem?_cons_succ] at c3
              have hdr : Only (fun _ => False) (w2.setCell ⟨x, 2, none⟩ (.slice (some ⟨g, 0, none⟩) st.length cap')) (w2.setCell ⟨x, 2, none⟩ (.slice (some ⟨g, 0, none⟩) st.length cap')).drew := (Only.refl _ _).drew
              have hdr2 : Only (fun _ => False) w2 w2.drew := (Only.refl _ _).drew
              have hw3 : IntKind.i64.wrap (st.length : Int) = (st.length : Int) := by exact IntWalk.i64_in _ (by omega)
              have hnl : (0 : Int) ≤ (st.length : Int) := by omega
              have hcl : (st.length : Int) ≤ (cap' : Int) := by
                have hq := hI2.own
                rw [hst, List.length_cons] at hq
                rcases hq.2 with ⟨q, _⟩ | ⟨_, _, _, q, _, _, hle, _⟩
                · cases q
                · cases q; omega
              clear hI3 hs3
              cases hst2 : st with
              | nil =>
                subst hst2
                simp only [List.length_nil] at *
                go_wp2_with fail
                go_region
                all_goals
                  have hI4 := HI3.out.still hdr
                  have HS4 := Lib.hid (HS3.out.trans (CStep.still (F := F1) HI3.out.pages.lt hdr))
                  have HI4 := Lib.hid hI4
                  clear hI4
                  go_wp2_with fail
                  go_roundg f1
                  case measure => omega
                  case rel => exact ⟨_, F1, by omega, HDD.out, HI4.out.at_, HS4.out, by simp [bump], fun q hq => by cases hq⟩
              | cons q st2 =>
                subst hst2
                obtain ⟨qn, qa⟩ := q
                have hqa := HNR.out ⟨qn, qa⟩ (by rw [hst]; simp)
                have hlq : (0 : Int) < (st2.length : Int) + 1 := by omega
                simp only [List.length_cons] at *
                have hwq : IntKind.i64.wrap (qa + by_) = qa + by_ := by rcases hby with rfl | rfl <;> exact IntWalk.i64_in _ (by omega)
                have hwq2 : IntKind.i64.wrap ((st2.length : Int) + 1) = (st2.length : Int) + 1 := by exact IntWalk.i64_in _ (by omega)
                have hcl2 : (st2.length : Int) + 1 ≤ (cap' : Int) := by omega
                go_wp2_with fail
                go_region
                all_goals
                  have hI4 := HI3.out.still hdr
                  have HS4 := Lib.hid (HS3.out.trans (CStep.still (F := F1) HI3.out.pages.lt hdr))
                  have HT2 := Lib.hid (wtop_is _ x b _ F1 g cap' us st2.length hI4 (by omega))
                  have c4 := heap_cell hI4.heap 2
                  simp only [List.getElem?_toArray, List.getElem?_cons_zero, List.getElem?_cons_succ] at c4
                  have HI4 := Lib.hid hI4
                  clear hI4
                  go_wp2_with fail
                  refine HT2.out.mono ?_
                  rintro e w5 ⟨rfl, o5⟩
                  have hI5 := HI4.out.still o5
                  obtain ⟨g9, cap9, us2, v2, e9, rfl, _⟩ := hI5.top (p := ⟨qn, qa⟩) (st := st2) rfl
                  have q5 := (hI5.topPlace (p := ⟨qn, qa⟩) (st := st2) rfl).cells 2 (.int .i64 qa) (by unfold placeC; cases qn <;> rfl)
                  have z5 : w5.frozen? ⟨g, st2.length * 3 + 2, none⟩ = false := own_frozen (n := st2.length + 1) hI5.own _
                  obtain ⟨hI6, hs6⟩ := hI5.setTop (p := ⟨qn, qa⟩) (st := st2) rfl (qa + by_)
                  have HI6 := Lib.hid hI6
                  have HS6 := Lib.hid (HS4.out.trans ((CStep.still (F := F1) HI4.out.pages.lt o5).trans hs6))
                  clear hI5 hI6 hs6 o5
                  go_wp2_with fail
                  go_roundg f1
                  case measure => omega
                  case rel =>
                    refine ⟨_, F1, by omega, HDD.out, HI6.out.at_, HS6.out, by simp only [bump, List.length_cons] at hl ⊢; rw [hst] at hl; simp only [List.length_cons] at hl; omega, fun q hq => ?_⟩
                    rcases List.mem_cons.1 hq with rfl | hq
                    · simp only at hqa ⊢; rcases hby with rfl | rfl <;> omega
                    · have := HNR.out q (by rw [hst]; simp [hq]); omega
            · rw [if_neg (fun q => q.elim hlt hge)] at hd
              simp only [Option.some.injEq, Prod.mk.injEq] at hd
              obtain ⟨rfl, rfl⟩ := hd
              go_wp2_with fail
              refine HTOP.out.mono ?_
              rintro e w1 ⟨rfl, o1⟩
              have hI1 := HI.out.still o1
              have hP1 := hI1.topPlace hst
              have hr := hP1.row
              obtain ⟨al, nl, cl, rfl⟩ := capOk_form hr.1.cap
              have hn : nl = l.length := by cases hr.1.row <;> rfl
              subst hn
              have p0 := hP1.cells 0 _ rfl
              have p1 := hP1.cells 1 _ rfl
              have p2 := hP1.cells 2 _ rfl
              simp only [Nat.add_zero] at p0
              have q0 : ∀ p : Grew w1, p.u.cell? ⟨g, st.length * 3, none⟩ = some (.slice al l.length cl) := fun p => p.cell p0
              have q1 : ∀ p : Grew w1, p.u.cell? ⟨g, st.length * 3 + 1, none⟩ = some (.slice none 0 0) := fun p => p.cell p1
              have q2 : ∀ p : Grew w1, p.u.cell? ⟨g, st.length * 3 + 2, none⟩ = some (.int .i64 at0) := fun p => p.cell p2
              have HI1 := Lib.hid hI1
              have HS1 := Lib.hid (HS.out.trans (CStep.still HI.out.pages.lt o1))
              have HR := Lib.hid hr
              clear hI1 hP1 hr o1 p0 p1 p2 HTOP
              go_wp2_with fail
              refine wp_region_grew (by kernel_rfl) (by kernel_rfl) (fun _W h0 h1 => ?_)
              repeat (refine h1 _ _ _ (fun K hK => ?_); go_simp; refine hK _ ?_; clear hK K)
              refine h0 _ (fun p => ?_)
              clear h0 h1 q0 q1 q2
              have hI2 := HI1.out.still p.h
              have HS2 := Lib.hid (HS1.out.trans (CStep.still HI1.out.pages.lt p.h))
              generalize p.u = w2 at *
              clear p
              have q1 := (hI2.topPlace hst).cells 1 _ rfl
              have HI2 := Lib.hid hI2
              clear hI2
              go_wp2_with fail
              go_ret
              first | exact ⟨rfl, F1, HI2.out.at_, HS2.out⟩ | exact ⟨F1, rfl, HI2.out.at_, HS2.out⟩
        | twig l =>
          by_cases hlt : at0 < 0
          · rw [if_pos (.inl hlt)] at hd
            have HDD := Lib.hid hd
            clear hd
            go_wp2_with fail
            refine HTOP.out.mono ?_
            rintro e w1 ⟨rfl, o1⟩
            have hI1 := HI.out.still o1
            have hP1 := hI1.topPlace hst
            have hr := hP1.row
            obtain ⟨al, nl, cl, rfl⟩ := capOk_form hr.1.cap
            have hn : nl = l.length := by cases hr.1.row <;> rfl
            subst hn
            have p0 := hP1.cells 0 _ rfl
            have p1 := hP1.cells 1 _ rfl
            have p2 := hP1.cells 2 _ rfl
            simp only [Nat.add_zero] at p0
            have q0 : ∀ p : Grew w1, p.u.cell? ⟨g, st.length * 3, none⟩ = some (.slice none 0 0) := fun p => p.cell p0
            have q1 : ∀ p : Grew w1, p.u.cell? ⟨g, st.length * 3 + 1, none⟩ = some (.slice al l.length cl) := fun p => p.cell p1
            have q2 : ∀ p : Grew w1, p.u.cell? ⟨g, st.length * 3 + 2, none⟩ = some (.int .i64 at0) := fun p => p.cell p2
            have HI1 := Lib.hid hI1
            have HS1 := Lib.hid (HS.out.trans (CStep.still HI.out.pages.lt o1))
            have HR := Lib.hid hr
            clear hI1 hP1 hr o1 p0 p1 p2 HTOP
            go_wp2_with fail
            refine wp_region_grew (by kernel_rfl) (by kernel_rfl) (fun _W h0 h1 => ?_)
            repeat (refine h1 _ _ _ (fun K hK => ?_); go_simp; refine hK _ ?_; clear hK K)
            refine h0 _ (fun p => ?_)
            clear h0 h1 q0 q1 q2
            have hI2 := HI1.out.still p.h
            have HS2 := Lib.hid (HS1.out.trans (CStep.still HI1.out.pages.lt p.h))
            generalize p.u = w2 at *
            clear p
            have c2 := heap_cell hI2.heap 2
            have z2 := heap_frozen hI2.heap 2
            simp only [List.getElem?_toArray, List.getElem?_cons_zero, List.getElem?_cons_succ] at c2
            obtain ⟨hI3, hs3⟩ := hI2.pop hst
            have HI3 := Lib.hid hI3
            have HS3 := Lib.hid (HS2.out.trans hs3)
            have c3 := heap_cell hI3.heap 2
            simp only [List.getElem?_toArray, List.getElem?_cons_zero, List.getElem?_cons_succ] at c3
            have hdr : Only (fun _ => False) (w2.setCell ⟨x, 2, none⟩ (.slice (some ⟨g, 0, none⟩) st.length cap')) (w2.setCell ⟨x, 2, none⟩ (.slice (some ⟨g, 0, none⟩) st.length cap')).drew := (Only.refl _ _).drew
            have hdr2 : Only (fun _ => False) w2 w2.drew := (Only.refl _ _).drew
            have hw3 : IntKind.i64.wrap (st.length : Int) = (st.length : Int) := by exact IntWalk.i64_in _ (by omega)
            have hnl : (0 : Int) ≤ (st.length : Int) := by omega
            have hcl : (st.length : Int) ≤ (cap' : Int) := by
              have hq := hI2.own
              rw [hst, List.length_cons] at hq
              rcases hq.2 with ⟨q, _⟩ | ⟨_, _, _, q, _, _, hle, _⟩
              · cases q
              · cases q; omega
            clear hI3 hs3
            cases hst2 : st with
            | nil =>
              subst hst2
              simp only [List.length_nil] at *
              go_wp2_with fail
              go_region
              all_goals
                have hI4 := HI3.out.still hdr
                have HS4 := Lib.hid (HS3.out.trans (CStep.still (F := F1) HI3.out.pages.lt hdr))
                have HI4 := Lib.hid hI4
                clear hI4
                go_wp2_with fail
                go_roundg f1
                case measure => omega
                case rel => exact ⟨_, F1, by omega, HDD.out, HI4.out.at_, HS4.out, by simp [bump], fun q hq => by cases hq⟩
            | cons q st2 =>
              subst hst2
              obtain ⟨qn, qa⟩ := q
              have hqa := HNR.out ⟨qn, qa⟩ (by rw [hst]; simp)
              have hlq : (0 : Int) < (st2.length : Int) + 1 := by omega
              simp only [List.length_cons] at *
              have hwq : IntKind.i64.wrap (qa + by_) = qa + by_ := by rcases hby with rfl | rfl <;> exact IntWalk.i64_in _ (by omega)
              have hwq2 : IntKind.i64.wrap ((st2.length : Int) + 1) = (st2.length : Int) + 1 := by exact IntWalk.i64_in _ (by omega)
              have hcl2 : (st2.length : Int) + 1 ≤ (cap' : Int) := by omega
              go_wp2_with fail
              go_region
              all_goals
                have hI4 := HI3.out.still hdr
                have HS4 := Lib.hid (HS3.out.trans (CStep.still (F := F1) HI3.out.pages.lt hdr))
                have HT2 := Lib.hid (wtop_is _ x b _ F1 g cap' us st2.length hI4 (by omega))
                have c4 := heap_cell hI4.heap 2
                simp only [List.getElem?_toArray, List.getElem?_cons_zero, List.getElem?_cons_succ] at c4
                have HI4 := Lib.hid hI4
                clear hI4
                go_wp2_with fail
                refine HT2.out.mono ?_
                rintro e w5 ⟨rfl, o5⟩
                have hI5 := HI4.out.still o5
                obtain ⟨g9, cap9, us2, v2, e9, rfl, _⟩ := hI5.top (p := ⟨qn, qa⟩) (st := st2) rfl
                have q5 := (hI5.topPlace (p := ⟨qn, qa⟩) (st := st2) rfl).cells 2 (.int .i64 qa) (by unfold placeC; cases qn <;> rfl)
                have z5 : w5.frozen? ⟨g, st2.length * 3 + 2, none⟩ = false := own_frozen (n := st2.length + 1) hI5.own _
                obtain ⟨hI6, hs6⟩ := hI5.setTop (p := ⟨qn, qa⟩) (st := st2) rfl (qa + by_)
                have HI6 := Lib.hid hI6
                have HS6 := Lib.hid (HS4.out.trans ((CStep.still (F := F1) HI4.out.pages.lt o5).trans hs6))
                clear hI5 hI6 hs6 o5
                go_wp2_with fail
                go_roundg f1
                case measure => omega
                case rel =>
                  refine ⟨_, F1, by omega, HDD.out, HI6.out.at_, HS6.out, by simp only [bump, List.length_cons] at hl ⊢; rw [hst] at hl; simp only [List.length_cons] at hl; omega, fun q hq => ?_⟩
                  rcases List.mem_cons.1 hq with rfl | hq
                  · simp only at hqa ⊢; rcases hby with rfl | rfl <;> omega
                  · have := HNR.out q (by rw [hst]; simp [hq]); omega
          · by_cases hge : (l.length : Int) ≤ at0
            · rw [if_pos (.inr hge)] at hd
              have HDD := Lib.hid hd
              clear hd
              go_wp2_with fail
              refine HTOP.out.mono ?_
              rintro e w1 ⟨rfl, o1⟩
              have hI1 := HI.out.still o1
              have hP1 := hI1.topPlace hst
              have hr := hP1.row
              obtain ⟨al, nl, cl, rfl⟩ := capOk_form hr.1.cap
              have hn : nl = l.length := by cases hr.1.row <;> rfl
              subst hn
              have p0 := hP1.cells 0 _ rfl
              have p1 := hP1.cells 1 _ rfl
              have p2 := hP1.cells 2 _ rfl
              simp only [Nat.add_zero] at p0
              have q0 : ∀ p : Grew w1, p.u.cell? ⟨g, st.length * 3, none⟩ = some (.slice none 0 0) := fun p => p.cell p0
              have q1 : ∀ p : Grew w1, p.u.cell? ⟨g, st.length * 3 + 1, none⟩ = some (.slice al l.length cl) := fun p => p.cell p1
              have q2 : ∀ p : Grew w1, p.u.cell? ⟨g, st.length * 3 + 2, none⟩ = some (.int .i64 at0) := fun p => p.cell p2
              have HI1 := Lib.hid hI1
              have HS1 := Lib.hid (HS.out.trans (CStep.still HI.out.pages.lt o1))
              have HR := Lib.hid hr
              clear hI1 hP1 hr o1 p0 p1 p2 HTOP
              go_wp2_with fail
              refine wp_region_grew (by kernel_rfl) (by kernel_rfl) (fun _W h0 h1 => ?_)
              repeat (refine h1 _ _ _ (fun K hK => ?_); go_simp; refine hK _ ?_; clear hK K)
              refine h0 _ (fun p => ?_)
              clear h0 h1 q0 q1 q2
              have hI2 := HI1.out.still p.h
              have HS2 := Lib.hid (HS1.out.trans (CStep.still HI1.out.pages.lt p.h))
              generalize p.u = w2 at *
              clear p
              have c2 := heap_cell hI2.heap 2
              have z2 := heap_frozen hI2.heap 2
              simp only [List.getElem?_toArray, List.getElem?_cons_zero, List.getElem?_cons_succ] at c2
              obtain ⟨hI3, hs3⟩ := hI2.pop hst
              have HI3 := Lib.hid hI3
              have HS3 := Lib.hid (HS2.out.trans hs3)
              have c3 := heap_cell hI3.heap 2
              simp only [List.getElem?_toArray, List.getElem?_cons_zero, List.getElem?_cons_succ] at c3
              have hdr : Only (fun _ => False) (w2.setCell ⟨x, 2, none⟩ (.slice (some ⟨g, 0, none⟩) st.length cap')) (w2.setCell ⟨x, 2, none⟩ (.slice (some ⟨g, 0, none⟩) st.length cap')).drew := (Only.refl _ _).drew
              have hdr2 : Only (fun _ => False) w2 w2.drew := (Only.refl _ _).drew
              have hw3 : IntKind.i64.wrap (st.length : Int) = (st.length : Int) := by exact IntWalk.i64_in _ (by omega)
              have hnl : (0 : Int) ≤ (st.length : Int) := by omega
              have hcl : (st.length : Int) ≤ (cap' : Int) := by
                have hq := hI2.own
                rw [hst, List.length_cons] at hq
                rcases hq.2 with ⟨q, _⟩ | ⟨_, _, _, q, _, _, hle, _⟩
                · cases q
                · cases q; omega
              clear hI3 hs3
              cases hst2 : st with
              | nil =>
                subst hst2
                simp only [List.length_nil] at *
                go_wp2_with fail
                go_region
                all_goals
                  have hI4 := HI3.out.still hdr
                  have HS4 := Lib.hid (HS3.out.trans (CStep.still (F := F1) HI3.out.pages.lt hdr))
                  have HI4 := Lib.hid hI4
                  clear hI4
                  go_wp2_with fail
                  go_roundg f1
                  case measure => omega
                  case rel => exact ⟨_, F1, by omega, HDD.out, HI4.out.at_, HS4.out, by simp [bump], fun q hq => by cases hq⟩
              | cons q st2 =>
                subst hst2
                obtain ⟨qn, qa⟩ := q
                have hqa := HNR.out ⟨qn, qa⟩ (by rw [hst]; simp)
                have hlq : (0 : Int) < (st2.length : Int) + 1 := by omega
                simp only [List.length_cons] at *
                have hwq : IntKind.i64.wrap (qa + by_) = qa + by_ := by rcases hby with rfl | rfl <;> exact IntWalk.i64_in _ (by omega)
                have hwq2 : IntKind.i64.wrap ((st2.length : Int) + 1) = (st2.length : Int) + 1 := by exact IntWalk.i64_in _ (by omega)
                have hcl2 : (st2.length : Int) + 1 ≤ (cap' : Int) := by omega
                go_wp2_with fail
                go_region
                all_goals
                  have hI4 := HI3.out.still hdr
                  have HS4 := Lib.hid (HS3.out.trans (CStep.still (F := F1) HI3.out.pages.lt hdr))
                  have HT2 := Lib.hid (wtop_is _ x b _ F1 g cap' us st2.length hI4 (by omega))
                  have c4 := heap_cell hI4.heap 2
                  simp only [List.getElem?_toArray, List.getElem?_cons_zero, List.getElem?_cons_succ] at c4
                  have HI4 := Lib.hid hI4
                  clear hI4
                  go_wp2_with fail
                  refine HT2.out.mono ?_
                  rintro e w5 ⟨rfl, o5⟩
                  have hI5 := HI4.out.still o5
                  obtain ⟨g9, cap9, us2, v2, e9, rfl, _⟩ := hI5.top (p := ⟨qn, qa⟩) (st := st2) rfl
                  have q5 := (hI5.topPlace (p := ⟨qn, qa⟩) (st := st2) rfl).cells 2 (.int .i64 qa) (by unfold placeC; cases qn <;> rfl)
                  have z5 : w5.frozen? ⟨g, st2.length * 3 + 2, none⟩ = false := own_frozen (n := st2.length + 1) hI5.own _
                  obtain ⟨hI6, hs6⟩ := hI5.setTop (p := ⟨qn, qa⟩) (st := st2) rfl (qa + by_)
                  have HI6 := Lib.hid hI6
                  have HS6 := Lib.hid (HS4.out.trans ((CStep.still (F := F1) HI4.out.pages.lt o5).trans hs6))
                  clear hI5 hI6 hs6 o5
                  go_wp2_with fail
                  go_roundg f1
                  case measure => omega
                  case rel =>
                    refine ⟨_, F1, by omega, HDD.out, HI6.out.at_, HS6.out, by simp only [bump, List.length_cons] at hl ⊢; rw [hst] at hl; simp only [List.length_cons] at hl; omega, fun q hq => ?_⟩
                    rcases List.mem_cons.1 hq with rfl | hq
                    · simp only at hqa ⊢; rcases hby with rfl | rfl <;> omega
                    · have := HNR.out q (by rw [hst]; simp [hq]); omega
            · rw [if_neg (fun q => q.elim hlt hge)] at hd
              simp only at hd
              cases hka : kidAt l at0 with
              | none => rw [hka] at hd; cases hd
              | some k =>
                rw [hka] at hd
                simp only at hd
                obtain ⟨a, rfl, hkx⟩ := kidAt_some hka
                have HDD := Lib.hid hd
                clear hd hka
                go_wp2_with fail
                refine HTOP.out.mono ?_
                rintro e w1 ⟨rfl, o1⟩
                have hI1 := HI.out.still o1
                have hP1 := hI1.topPlace hst
                have hr := hP1.row
                obtain ⟨al, nl, cl, rfl⟩ := capOk_form hr.1.cap
                have hn : nl = l.length := by cases hr.1.row <;> rfl
                subst hn
                have p0 := hP1.cells 0 _ rfl
                have p1 := hP1.cells 1 _ rfl
                have p2 := hP1.cells 2 _ rfl
                simp only [Nat.add_zero] at p0
                have q0 : ∀ p : Grew w1, p.u.cell? ⟨g, st.length * 3, none⟩ = some (.slice none 0 0) := fun p => p.cell p0
                have q1 : ∀ p : Grew w1, p.u.cell? ⟨g, st.length * 3 + 1, none⟩ = some (.slice al l.length cl) := fun p => p.cell p1
                have q2 : ∀ p : Grew w1, p.u.cell? ⟨g, st.length * 3 + 2, none⟩ = some (.int .i64 ((a : Nat) : Int)) := fun p => p.cell p2
                have HI1 := Lib.hid hI1
                have HS1 := Lib.hid (HS.out.trans (CStep.still HI.out.pages.lt o1))
                have HR := Lib.hid hr
                clear hI1 hP1 hr o1 p0 p1 p2 HTOP
                go_wp2_with fail
                refine wp_region_grew (by kernel_rfl) (by kernel_rfl) (fun _W h0 h1 => ?_)
                repeat (refine h1 _ _ _ (fun K hK => ?_); go_simp; refine hK _ ?_; clear hK K)
                refine h0 _ (fun p => ?_)
                clear h0 h1 q0 q1 q2
                have hI2 := HI1.out.still p.h
                have HS2 := Lib.hid (HS1.out.trans (CStep.still HI1.out.pages.lt p.h))
                generalize p.u = w2 at *
                clear p
                have hP2 := hI2.topPlace hst
                have q1 := hP2.cells 1 _ rfl
                have q2 := hP2.cells 2 _ rfl
                obtain ⟨gk', offk, rfl, _, kp⟩ := row_kid hP2.row.1.row hkx
                have hpg := HR.out.2.2.1 k (List.mem_of_getElem? hkx)
                have hal := (List.getElem?_eq_some_iff.1 hkx).1
                have hal2 : (a : Int) < (l.length : Int) := by omega
                have hpos : (0 : Int) < (l.length : Int) := by omega
                have hne0 : ¬ (l.length : Int) = 0 := by omega
                have hdr : Only (fun _ => False) w2 w2.drew := (Only.refl _ _).drew
                have hI4 := hI2.still hdr
                have hs4 := CStep.still (F := F1) hI2.pages.lt hdr
                have HL := Lib.hid (wload_is w2.drew x b c1 F1 k.page hI4.at_ (by omega) (by rw [hst, List.length_cons]; omega))
                have HS4 := Lib.hid (HS2.out.trans hs4)
                clear hI4 hs4 hP2 hI2
                cases hcl : cLoad c1 k.page with
                | mk r2 c2 =>
                  rw [hcl] at HDD HL
                  cases r2 with
                  | false =>
                    have hDD := HDD.out
                    simp only [Option.some.injEq, Prod.mk.injEq] at hDD
                    obtain ⟨rfl, rfl⟩ := hDD
                    go_wp2_with fail
                    go_still_tail 12, (by kernel_rfl)
                    change wpList _ _ _ _ _ w2.drew
                    go_wp2_with fail
                    (with_reducible refine HL.out.mono ?_)
                    rintro e w4 ⟨F4, rfl, ha4, st4⟩
                    · go_wp2_with fail
                      go_ret
                      first | exact ⟨rfl, F4, ha4, HS4.out.trans st4⟩ | exact ⟨F4, rfl, ha4, HS4.out.trans st4⟩
                  | true =>
                    have hc2 := cLoad_len hcl
                    obtain ⟨n2, hc2s⟩ := cLoad_true hcl
                    go_wp2_with fail
                    go_still_tail 12, (by kernel_rfl)
                    change wpList _ _ _ _ _ w2.drew
                    go_wp2_with fail
                    (with_reducible refine HL.out.mono ?_)
                    rintro e w4 ⟨F4, rfl, ha4, st4⟩
                    · rcases hby with rfl | rfl
                      · go_wp2_with fail
                        go_roundg f1
                        case measure => omega
                        case rel =>
                          refine ⟨c2, F4, by omega, HDD.out, ha4, HS4.out.trans st4, hc2, fun q hq => ?_⟩
                          rw [hc2s] at hq
                          rcases List.mem_cons.1 hq with rfl | hq
                          · simp only; omega
                          · have := HNR.out q hq; omega
                      · obtain ⟨vS4, vs4, hI5⟩ := ha4
                        obtain ⟨g4, cap4, us4, v4, rfl, rfl, _⟩ := hI5.top hc2s
                        have hl5 : c1.stack.length ≤ 1000 := by rw [hst, List.length_cons]; omega
                        have HT5 := Lib.hid (wtop_is w4 x b c2 F4 g4 cap4 _ c1.stack.length hI5 hl5)
                        have HI5 := Lib.hid hI5
                        have HS5 := Lib.hid (HS4.out.trans st4)
                        clear hI5 st4 hst
                        go_wp2_with fail
                        (with_reducible refine HT5.out.mono ?_)
                        rintro e w5 ⟨rfl, o5⟩
                        have HT6 := Lib.hid (wtop_is w5 x b c2 F4 g4 cap4 _ c1.stack.length (HI5.out.still o5) hl5)
                        have HI6 := Lib.hid (HI5.out.still o5)
                        have HS6 := Lib.hid (HS5.out.trans (CStep.still HI5.out.pages.lt o5))
                        clear o5
                        go_wp2_with fail
                        (with_reducible refine HT6.out.mono ?_)
                        rintro e w6 ⟨rfl, o6⟩
                        have HI7 := Lib.hid (HI6.out.still o6)
                        have HS7 := Lib.hid (HS6.out.trans (CStep.still HI6.out.pages.lt o6))
                        have HLA := Lib.hid (wlast_is w6 g4 (c1.stack.length * 3) ⟨n2, 0⟩ v4 (HI7.out.topPlace hc2s))
                        clear o6
                        go_wp2_with fail
                        (with_reducible refine HLA.out.mono ?_)
                        rintro e w7 ⟨rfl, o7⟩
                        have hI8 := HI7.out.still o7
                        have q8 := (hI8.topPlace hc2s).cells 2 (.int .i64 0) (by unfold placeC; cases n2 <;> rfl)
                        have z8 : w7.frozen? ⟨g4, c1.stack.length * 3 + 2, none⟩ = false := by
                          have := hI8.own
                          rw [hc2s, List.length_cons] at this
                          exact own_frozen this _
                        have hnl2 : nlen n2 ≤ 255 := by
                          have := (hI8.topPlace hc2s).row
                          cases n2 with
                          | leaf l2 => exact this.2.2.1
                          | twig l2 => exact this.2.2.2.1
                        obtain ⟨hI9, hs9⟩ := hI8.setTop hc2s (chLast n2)
                        have HI9 := Lib.hid hI9
                        have HS9 := Lib.hid (HS7.out.trans ((CStep.still (F := F4) HI7.out.pages.lt o7).trans hs9))
                        clear hI8 hI9 hs9 o7
                        simp only at *
                        go_wp2_with fail
                        go_roundg f1
                        case measure => omega
                        case rel =>
                          have hDD := HDD.out
                          rw [if_pos (by omega), hc2s] at hDD
                          refine ⟨_, F4, by omega, hDD, HI9.out.at_, HS9.out, by rw [hc2s] at hc2; simpa [toLast] using hc2, fun q hq => ?_⟩
                          simp only [toLast] at hq
                          rcases List.mem_cons.1 hq with rfl | hq
                          · simp only; omega
                          · have := HNR.out q hq; omega
end Go.Proofs.YtklccpaphkpgfaaGreat

namespace Go.Proofs.YtklccpaphkpgfaaGreat
open Go.RowKit

theorem getP_L {p p' : PSt} {id : Int} {r : Except Int Node} (h : getP p id = (r, p')) : p'.L = p.L := by
  unfold getP at h
  split at h
  · cases h; rfl
  · split at h
    · cases h; split <;> rfl
    · cases h; split <;> rfl
theorem cLoad_true2 {c c' : Cur} {id : Int} (h : cLoad c id = (true, c')) : ∃ n, n ∈ c.p.L ∧ c'.stack = ⟨n, 0⟩ :: c.stack ∧ c'.p.L = c.p.L := by
  unfold cLoad at h
  split at h
  · cases h
  · split at h
    · cases h
    · rename_i n p hg; cases h; exact ⟨n, nodeAt_mem (getP_ok hg), rfl, getP_L hg⟩
theorem cDown_near {ch : Node → Int} (hN : ∀ n, nlen n ≤ 255 → -1000 ≤ ch n ∧ ch n ≤ 1000) (f : Nat) : ∀ (c c' : Cur) (r : Bool), cDown ch f c = some (r, c') → c.stack.length ≤ 12 → Near 1000 c → (∀ n ∈ c.p.L, nlen n ≤ 255) → (∀ p ∈ c.stack, nlen p.node ≤ 255) → c'.stack.length ≤ 12 ∧ Near 1000 c' := by
  induction f with
  | zero => intro c c' r h; cases h
  | succ f ih =>
    intro c c' r h hl hn hL hS
    cases hst : c.stack with
    | nil => rw [cDown, hst] at h; cases h
    | cons p st =>
      obtain ⟨node, a⟩ := p
      have hS0 := hS ⟨node, a⟩ (by rw [hst]; simp)
      rw [hst, List.length_cons] at hl
      cases node with
      | leaf l =>
        rw [cDown, hst] at h
        simp only [Option.some.injEq, Prod.mk.injEq] at h
        obtain ⟨rfl, rfl⟩ := h
        refine ⟨by simp only [List.length_cons]; omega, fun p hp => ?_⟩
        rcases List.mem_cons.1 hp with rfl | hp
        · exact hN _ hS0
        · exact hn p (by rw [hst]; simp [hp])
      | twig l =>
        rw [cDown, hst] at h
        simp only at h
        cases hk : kidAt l (ch (.twig l)) with
        | none => rw [hk] at h; cases h
        | some k =>
          rw [hk] at h
          simp only at h
          cases hcl : cLoad { c with stack := ⟨.twig l, ch (.twig l)⟩ :: st } k.page with
          | mk r2 c2 =>
            rw [hcl] at h
            cases r2 with
            | false =>
              simp only [Option.some.injEq, Prod.mk.injEq] at h
              obtain ⟨rfl, rfl⟩ := h
              have : c2.stack = [] := by
                unfold cLoad at hcl
                split at hcl
                · cases hcl; rfl
                · split at hcl
                  · cases hcl; rfl
                  · cases hcl
              exact ⟨by rw [this]; simp, fun p hp => by rw [this] at hp; cases hp⟩
            | true =>
              obtain ⟨n2, h1, h2, h3⟩ := cLoad_true2 hcl
              refine ih c2 c' r h (cLoad_len hcl) (fun p hp => ?_) (by rw [h3]; exact hL) (fun p hp => ?_)
              · rw [h2] at hp
                rcases List.mem_cons.1 hp with rfl | hp
                · exact ⟨by simp only; omega, by simp only; omega⟩
                · rcases List.mem_cons.1 hp with rfl | hp
                  · exact hN _ hS0
                  · exact hn p (by rw [hst]; simp [hp])
              · rw [h2] at hp
                rcases List.mem_cons.1 hp with rfl | hp
                · exact hL _ h1
                · rcases List.mem_cons.1 hp with rfl | hp
                  · exact hS0
                  · exact hS p (by rw [hst]; simp [hp])

set_option maxRecDepth 100000 in
set_option maxHeartbeats 8000000 in
theorem wstart_is (fk : Nat) (cap : Array Value) (ch : Node → Int) (B : Nat) (kv : Option Value) (hent : ∀ args w, (callFunc fk args).run Tryz.prog w = .ok (.enter fk args) w) (hch : ChooseIs fk cap ch B kv) (hchn : ∀ n, nlen n ≤ 255 → -1000 ≤ ch n ∧ ch n ≤ 1000) (by_ : Int) (hby : by_ = 1 ∨ by_ = -1) (w : World) (x b : Nat) (c c' : Cur) (F : Nat → Prop) (r : Bool) (h : CurAt w x b c F) (hK : KInv b B kv F w) (hroot : -1000000 ≤ c.root ∧ c.root ≤ 1000000) (hd : cStart ch by_ c = some (r, c')) :
    Calls Tryz.prog 79 #[.pointer (some ⟨x, 0, none⟩), .func (.func fk) #[] cap, .int .i64 by_] w fun e w' => ∃ F', e = .returned (.bool r) ∧ CurAt w' x b c' F' ∧ CStep b F F' w w' := by
  obtain ⟨vS, vs, hI⟩ := h
  have hLs : ∀ n ∈ c.p.L, nlen n ≤ 255 := fun n hn => by
    obtain ⟨vL, vG, hp⟩ := hI.pages
    have := hp.sound n hn
    cases n with
    | leaf l => exact this.1.2.2
    | twig l => exact this.1.2.2
  have c3 := heap_cell hI.heap 3
  have c1 := heap_cell hI.heap 1
  have c2 := heap_cell hI.heap 2
  have z2 := heap_frozen hI.heap 2
  simp only [List.getElem?_toArray, List.getElem?_cons_zero, List.getElem?_cons_succ] at c1 c2 c3
  by_cases he : c.e ≠ 0
  · have hd2 := hd
    unfold cStart at hd2
    rw [if_pos he] at hd2
    simp only [Option.some.injEq, Prod.mk.injEq] at hd2
    obtain ⟨rfl, rfl⟩ := hd2
    go_enter Tryz.func79, Tryz.ntmps79
    go_wp2_with fail
    go_ret
    first | exact ⟨rfl, F, hI.at_, CStep.refl b F w⟩ | exact ⟨F, rfl, hI.at_, CStep.refl b F w⟩
  · have he0 : c.e = 0 := Classical.not_not.1 he
    unfold cStart at hd
    rw [if_neg he] at hd
    -- the stack is made empty
    have ho := (Only.refl (fun k => k = x) w).put x 2 rfl (.slice none 0 0)
    have hbx : ∀ k, pown w b k → ¬ k = x := fun k q e => hI.apart k (e ▸ hI.fx) q
    have hpw : ∀ k, pown (w.setCell ⟨x, 2, none⟩ (.slice none 0 0)) b k ↔ pown w b k := pown_of_heap (ho.block b hI.pages.lt (hbx b (.inl rfl)))
    have hP : PagesAt (w.setCell ⟨x, 2, none⟩ (.slice none 0 0)) b c.p := by
      obtain ⟨vL, vG, hp⟩ := hI.pages
      exact ⟨vL, vG, hp.beside ho hbx⟩
    have hI1 : CurIn (w.setCell ⟨x, 2, none⟩ (.slice none 0 0)) x b { c with stack := [] } F (.slice none 0 0) [] :=
      ⟨heap_setCell hI.heap 2 _, ⟨rfl, .inl ⟨rfl, rfl⟩⟩, rfl, (fun j p v hj _ => by simp at hj), hI.fx, (fun k q => by cases q), (fun v hv => by cases hv), fun k hk => Nat.lt_of_lt_of_le (hI.small k hk) ho.size, fun k hk q => hI.apart k hk ((hpw k).1 q), hP⟩
    have hs1 : CStep b F F w (w.setCell ⟨x, 2, none⟩ (.slice none 0 0)) := ⟨ho.mono fun k _ e => .inl (by have e2 : k = x := e; exact e2 ▸ hI.fx), fun k q => .inl q, fun k q => .inl ((hpw k).1 q)⟩
    have hK1 := hK.step hs1
    have d1 := heap_cell hI1.heap 1
    simp only [List.getElem?_toArray, List.getElem?_cons_zero, List.getElem?_cons_succ] at d1
    rw [he0] at c3
    have HI1 := Lib.hid hI1
    have HS1 := Lib.hid hs1
    have HK1 := Lib.hid hK1
    clear hI hI1 hs1 hK1 ho hbx hpw hP hK
    by_cases hr0 : c.root = 0
    · rw [if_pos hr0] at hd
      simp only [Option.some.injEq, Prod.mk.injEq] at hd
      obtain ⟨rfl, rfl⟩ := hd
      rw [hr0] at c1 d1
      go_enter Tryz.func79, Tryz.ntmps79
      go_wp2_with fail
      go_ret
      first | exact ⟨rfl, F, HI1.out.at_, HS1.out⟩ | exact ⟨F, rfl, HI1.out.at_, HS1.out⟩
    · rw [if_neg hr0] at hd
      have HL := Lib.hid (wload_is _ x b _ F c.root HI1.out.at_ hroot (by simp))
      cases hcl : cLoad { c with stack := [] } c.root with
      | mk r1 cA =>
        rw [hcl] at hd HL
        cases r1 with
        | false =>
          simp only [Option.some.injEq, Prod.mk.injEq] at hd
          obtain ⟨rfl, rfl⟩ := hd
          go_enter Tryz.func79, Tryz.ntmps79
          go_wp2_with fail
          refine HL.out.mono ?_
          rintro e w4 ⟨F4, rfl, ha4, st4⟩
          go_wp2_with fail
          go_ret
          first | exact ⟨rfl, F4, ha4, HS1.out.trans st4⟩ | exact ⟨F4, rfl, ha4, HS1.out.trans st4⟩
        | true =>
          simp only at hd
          have hlA := cLoad_len hcl
          have hnA : Near 1000 cA := by
            obtain ⟨n2, h2⟩ := cLoad_true hcl
            intro p hp
            rw [h2] at hp
            rcases List.mem_cons.1 hp with rfl | hp
            · exact ⟨by simp only; omega, by simp only; omega⟩
            · cases hp
          have hLA : ∀ n ∈ cA.p.L, nlen n ≤ 255 := by
            obtain ⟨n2, h1, h2, h3⟩ := cLoad_true2 hcl
            rw [h3]; exact hLs
          have hSA : ∀ p ∈ cA.stack, nlen p.node ≤ 255 := by
            obtain ⟨n2, h1, h2, h3⟩ := cLoad_true2 hcl
            intro p hp
            rw [h2] at hp
            rcases List.mem_cons.1 hp with rfl | hp
            · exact hLs _ h1
            · cases hp
          cases hcd : cDown ch 20 cA with
          | none => rw [hcd] at hd; cases hd
          | some q =>
            obtain ⟨r2, cB⟩ := q
            rw [hcd] at hd
            have hDN := fun W F' (hW : CurAt W x b cA F') hk => wdown_is fk cap ch B kv hent hch 20 W x b cA cB F' r2 hW hk hlA hcd
            have HDN := Lib.hid hDN
            cases r2 with
            | false =>
              simp only [Option.some.injEq, Prod.mk.injEq] at hd
              obtain ⟨rfl, rfl⟩ := hd
              clear hDN
              go_enter Tryz.func79, Tryz.ntmps79
              go_wp2_with fail
              refine HL.out.mono ?_
              rintro e w4 ⟨F4, rfl, ha4, st4⟩
              have HA4 := Lib.hid ha4
              have HS4 := Lib.hid st4
              clear ha4 st4
              go_wp2_with fail
              refine (HDN.out _ F4 HA4.out (HK1.out.step HS4.out)).mono ?_
              rintro e w5 ⟨F5, rfl, ha5, st5⟩
              go_wp2_with fail
              go_ret
              first | exact ⟨rfl, F5, ha5, HS1.out.trans (HS4.out.trans st5)⟩ | exact ⟨F5, rfl, ha5, HS1.out.trans (HS4.out.trans st5)⟩
            | true =>
              simp only at hd
              obtain ⟨hlB, hnB⟩ := cDown_near hchn 20 cA cB true hcd hlA hnA hLA hSA
              have HH := Lib.hid (fun W F' (hW : CurAt W x b cB F') => where_is by_ hby 40 (by omega) W x b cB c' F' r hW hlB hnB hd)
              clear hDN hd
              go_enter Tryz.func79, Tryz.ntmps79
              go_wp2_with fail
              refine HL.out.mono ?_
              rintro e w4 ⟨F4, rfl, ha4, st4⟩
              have HA4 := Lib.hid ha4
              have HS4 := Lib.hid st4
              clear ha4 st4
              go_wp2_with fail
              refine (HDN.out _ F4 HA4.out (HK1.out.step HS4.out)).mono ?_
              rintro e w5 ⟨F5, rfl, ha5, st5⟩
              have HA5 := Lib.hid ha5
              have HS5 := Lib.hid st5
              clear ha5 st5
              go_wp2_with fail
              refine (HH.out _ F5 HA5.out).mono ?_
              rintro e w6 ⟨F6, rfl, ha6, st6⟩
              go_wp2_with fail
              go_ret
              first | exact ⟨rfl, F6, ha6, HS1.out.trans (HS4.out.trans (HS5.out.trans st6))⟩ | exact ⟨F6, rfl, ha6, HS1.out.trans (HS4.out.trans (HS5.out.trans st6))⟩
end Go.Proofs.YtklccpaphkpgfaaGreat

namespace Go.Proofs.YtklccpaphkpgfaaGreat
open Go.RowKit

theorem enters_last (args : Array Value) (w : World) : (callFunc 140 args).run Tryz.prog w = .ok (.enter 140 args) w := Go.MuLone.run_callFunc_enter Tryz.func140 (by kernel_rfl) rfl args w
theorem enters_seek (args : Array Value) (w : World) : (callFunc 80 args).run Tryz.prog w = .ok (.enter 80 args) w := Go.MuLone.run_callFunc_enter Tryz.func80 (by kernel_rfl) rfl args w

/-- What a move does to a cursor in memory. -/
def Moves (w : World) (x b : Nat) (_ c' : Cur) (F : Nat → Prop) (r : Bool) : Ending → World → Prop := fun e w' => ∃ F', e = .returned (.bool r) ∧ CurAt w' x b c' F' ∧ CStep b F F' w w'

theorem chSeek_near (key : Bytes) (n : Node) (h : nlen n ≤ 255) : -1000 ≤ chSeek key n ∧ chSeek key n ≤ 1000 := by
  cases n with
  | leaf l =>
    have h1 := findAt_le l key
    have h2 : l.length ≤ 255 := h
    show -1000 ≤ ((findAt l key : Nat) : Int) ∧ ((findAt l key : Nat) : Int) ≤ 1000
    omega
  | twig l =>
    have h1 := (List.takeWhile_sublist (p := fun x : Kid => !decide (key < x.key)) (l := l)).length_le
    have h2 : l.length ≤ 255 := h
    show -1000 ≤ ((findK l key : Nat) : Int) ∧ ((findK l key : Nat) : Int) ≤ 1000
    unfold findK
    omega
set_option maxRecDepth 100000 in
theorem wSeek_is (w : World) (x b : Nat) (c c' : Cur) (F : Nat → Prop) (key : Bytes) (r : Bool) (h : CurAt w x b c F) (hroot : -1000000 ≤ c.root ∧ c.root ≤ 1000000) (hd : cStart (chSeek key) 1 c = some (r, c')) :
    Calls Tryz.prog 29 #[.pointer (some ⟨x, 0, none⟩), str key] w (Moves w x b c c' F r) := by
  have hmf : ∀ (fn : Fn) (first cap : Array Value) (w : World), (Instr.makeFunc fn first cap).run Tryz.prog w = .ok (.func fn first cap) w := fun _ _ _ _ => rfl
  have ho := (Only.refl (fun _ => False) w).alloc (.cells #[str key] 9)
  obtain ⟨hlb, hlx⟩ := h.lt
  have hc := heap_cell (heap_alloc_new w (.cells #[str key] 9)) 0
  have hF : ¬ F w.heap.size := fun q => by
    obtain ⟨_, _, hI⟩ := h
    have := hI.small _ q; omega
  have hp : ¬ pown (w.alloc (.cells #[str key] 9)) b w.heap.size := fun q => by
    obtain ⟨_, _, hI⟩ := h
    have := pown_lt hI.pages ((pown_of_heap (ho.block b hlb (fun q => q)) _).1 q); omega
  have HS := Lib.hid (wstart_is 80 #[.pointer (some ⟨w.heap.size, 0, none⟩)] (chSeek key) w.heap.size (some (str key)) enters_seek (fun W g off p v h hk => wseek_is W g off w.heap.size key p v h (hk _ rfl)) (fun n hn => chSeek_near key n hn) 1 (.inl rfl) (w.alloc (.cells #[str key] 9)) x b c c' F r (h.still ho) ⟨fun u hu => by cases hu; exact ⟨hc, hF, hp⟩⟩ hroot hd)
  have HO := Lib.hid ho
  clear hc
  go_enter Tryz.func29, Tryz.ntmps29
  go_wp2_with fail
  refine HS.out.mono ?_
  rintro e w1 ⟨F1, rfl, ha1, st1⟩
  go_wp2_with fail
  go_ret
  exact ⟨F1, rfl, ha1, (CStep.still hlb HO.out).trans st1⟩

set_option maxRecDepth 100000 in
set_option maxHeartbeats 1000000 in
theorem wmove_is (by_ : Int) (hby : by_ = 1 ∨ by_ = -1) (w : World) (x b : Nat) (c c' : Cur) (F : Nat → Prop) (r : Bool) (h : CurAt w x b c F) (hsl : c.stack.length ≤ 12) (hnr : Near 900 c) (hd : cMove by_ c = some (r, c')) :
    Calls Tryz.prog 88 #[.pointer (some ⟨x, 0, none⟩), .int .i64 by_] w (Moves w x b c c' F r) := by
  obtain ⟨vS, vs, hI⟩ := h
  cases hst : c.stack with
  | nil =>
    unfold cMove at hd
    rw [hst] at hd
    simp only [Option.some.injEq, Prod.mk.injEq] at hd
    obtain ⟨rfl, rfl⟩ := hd
    have hown := hI.own
    rw [hst] at hown
    obtain ⟨aS, cS, rfl⟩ := ownsRow_form hown
    have c2 := heap_cell hI.heap 2
    simp only [List.getElem?_toArray, List.getElem?_cons_zero, List.getElem?_cons_succ, List.length_nil] at c2
    go_enter Tryz.func88, Tryz.ntmps88
    go_wp2_with fail
    go_ret
    exact ⟨F, rfl, hI.at_, CStep.refl b F w⟩
  | cons p st =>
    obtain ⟨n, a⟩ := p
    unfold cMove at hd
    rw [hst] at hd
    simp only [bump] at hd
    have hqa := hnr ⟨n, a⟩ (by rw [hst]; simp)
    simp only at hqa
    have hl2 : st.length ≤ 1000 := by rw [hst, List.length_cons] at hsl; omega
    obtain ⟨g, cap, us, v, rfl, rfl, _⟩ := hI.top hst
    have c2 := heap_cell hI.heap 2
    simp only [List.getElem?_toArray, List.getElem?_cons_zero, List.getElem?_cons_succ] at c2
    have HT := Lib.hid (wtop_is w x b c F g cap _ st.length hI hl2)
    have hwq : IntKind.i64.wrap (a + by_) = a + by_ := by rcases hby with rfl | rfl <;> exact IntWalk.i64_in _ (by omega)
    have hne : ¬ (st.length : Int) + 1 = 0 := by omega
    have HI := Lib.hid hI
    clear hI
    go_enter Tryz.func88, Tryz.ntmps88
    go_wp2_with fail
    refine HT.out.mono ?_
    rintro e w5 ⟨rfl, o5⟩
    have hI5 := HI.out.still o5
    have q5 := (hI5.topPlace hst).cells 2 (.int .i64 a) (by unfold placeC; cases n <;> rfl)
    have z5 : w5.frozen? ⟨g, st.length * 3 + 2, none⟩ = false := by
      have := hI5.own
      rw [hst, List.length_cons] at this
      exact own_frozen this _
    obtain ⟨hI6, hs6⟩ := hI5.setTop hst (a + by_)
    have HH := Lib.hid (where_is by_ hby 40 (by omega) _ x b _ c' F r hI6.at_ (by simp only [List.length_cons]; rw [hst, List.length_cons] at hsl; omega) (fun q hq => by
      rcases List.mem_cons.1 hq with rfl | hq
      · simp only; rcases hby with rfl | rfl <;> omega
      · have := hnr q (by rw [hst]; simp [hq]); omega) hd)
    have HS6 := Lib.hid ((CStep.still (F := F) HI.out.pages.lt o5).trans hs6)
    clear hI5 hI6 hs6 o5
    go_wp2_with fail
    refine HH.out.mono ?_
    rintro e w6 ⟨F6, rfl, ha6, st6⟩
    go_wp2_with fail
    go_ret
    exact ⟨F6, rfl, ha6, HS6.out.trans st6⟩
set_option maxRecDepth 100000 in
theorem wNext_is (w : World) (x b : Nat) (c c' : Cur) (F : Nat → Prop) (r : Bool) (h : CurAt w x b c F) (hsl : c.stack.length ≤ 12) (hnr : Near 900 c) (hd : cMove 1 c = some (r, c')) :
    Calls Tryz.prog 34 #[.pointer (some ⟨x, 0, none⟩)] w (Moves w x b c c' F r) := by
  have HS := Lib.hid (wmove_is 1 (.inl rfl) w x b c c' F r h hsl hnr hd)
  unfold Moves at HS
  go_enter Tryz.func34, Tryz.ntmps34
  go_wp2_with fail
  refine HS.out.mono ?_
  rintro e w1 ⟨F1, rfl, ha1, st1⟩
  go_wp2_with fail
  go_ret
  exact ⟨F1, rfl, ha1, st1⟩
set_option maxRecDepth 100000 in
theorem wOn_is (w : World) (b : Nat) (S : PSt) (root : Int) (h : PagesAt w b S) :
    Calls Tryz.prog 28 #[pagesV b, .int .i64 root] w fun e w' => e = .returned (.pointer (some ⟨w.heap.size, 0, none⟩)) ∧ CurAt w' w.heap.size b ⟨S, root, [], 0⟩ (fun k => k = w.heap.size) ∧ Only (fun _ => False) w w' := by
  have hnil := pages_nil b
  have ho := (Only.refl (fun _ => False) w).alloc (.cells #[pagesV b, .int .i64 root, .slice none 0 0, .int .i64 0] 82)
  have hI : CurIn (w.alloc (.cells #[pagesV b, .int .i64 root, .slice none 0 0, .int .i64 0] 82)) w.heap.size b ⟨S, root, [], 0⟩ (fun k => k = w.heap.size) (.slice none 0 0) [] :=
    ⟨heap_alloc_new w _, ⟨rfl, .inl ⟨rfl, rfl⟩⟩, rfl, (fun j p v hj _ => by simp at hj), rfl, (fun k q => by cases q), (fun v hv => by cases hv), (fun k hk => by simp; omega), (fun k hk q => by have := pown_lt h ((pown_of_heap (ho.block b h.lt (fun q => q)) k).1 q); omega), h.still ho⟩
  unfold pagesV at hnil hI ⊢
  go_enter Tryz.func28, Tryz.ntmps28
  go_wp2_with fail
  go_ret
  exact ⟨rfl, ⟨_, _, hI⟩, ho⟩

def noItem : Value := .agg #[str [], str [], .int .i64 0]
set_option maxRecDepth 100000 in
set_option maxHeartbeats 1000000 in
theorem wItem_none (w : World) (x b : Nat) (c : Cur) (F : Nat → Prop) (h : CurAt w x b c F) (hs : c.stack = []) :
    Calls Tryz.prog 30 #[.pointer (some ⟨x, 0, none⟩)] w fun e w' => e = .returned (.tuple #[noItem, .bool false]) ∧ Only (fun _ => False) w w' := by
  obtain ⟨vS, vs, hI⟩ := h
  have ho := (Only.refl (fun _ => False) w).alloc (.cells #[str [], str [], .int .i64 0] 29)
  have hI1 := hI.still ho
  have hown := hI1.own
  rw [hs] at hown
  obtain ⟨aS, cS, rfl⟩ := ownsRow_form hown
  have c2 := heap_cell hI1.heap 2
  simp only [List.getElem?_toArray, List.getElem?_cons_zero, List.getElem?_cons_succ, List.length_nil] at c2
  go_enter Tryz.func30, Tryz.ntmps30
  go_wp2_with fail
  exact bodyPost_ret (v := .tuple #[noItem, .bool false]) (by simp [results, Tryz.results30, go_sem, noItem, str]) rfl ⟨rfl, ho⟩
set_option maxRecDepth 100000 in
set_option maxHeartbeats 2000000 in
theorem wItem_some (w : World) (x b : Nat) (c : Cur) (F : Nat → Prop) (h : CurAt w x b c F) (m : List Item) (a : Nat) (st : List Place) (it : Item) (hs : c.stack = ⟨.leaf m, a⟩ :: st) (hm : m[a]? = some it) (hl : st.length ≤ 1000) :
    Calls Tryz.prog 30 #[.pointer (some ⟨x, 0, none⟩)] w fun e w' => e = .returned (.tuple #[itemV it, .bool true]) ∧ Only (fun _ => False) w w' := by
  obtain ⟨vS, vs, hI⟩ := h
  have ho := (Only.refl (fun _ => False) w).alloc (.cells #[str [], str [], .int .i64 0] 29)
  have hI1 := hI.still ho
  obtain ⟨g, cap, us, v, rfl, rfl, _⟩ := hI.top hs
  have c2 := heap_cell hI1.heap 2
  simp only [List.getElem?_toArray, List.getElem?_cons_zero, List.getElem?_cons_succ] at c2
  have hh := heap_alloc_new w (.cells #[str [], str [], .int .i64 0] 29)
  have hws : (w.alloc (.cells #[str [], str [], .int .i64 0] 29)).heap.size = w.heap.size + 1 := by simp
  have HT := Lib.hid (wtop_is _ x b c F g cap _ st.length hI1 hl)
  have HO := Lib.hid ho
  have HI1 := Lib.hid hI1
  have hv0 : ∀ k, rowBlock v = some k → k < w.heap.size := fun k hk => hI.small k (hI.fv v (by simp) k hk).1
  have hne : ¬ (st.length : Int) + 1 = 0 := by omega
  clear hI hI1 ho
  go_enter Tryz.func30, Tryz.ntmps30
  go_wp2_with fail
  refine HT.out.mono ?_
  rintro e w5 ⟨rfl, o5⟩
  have hP := (HI1.out.still o5).topPlace hs
  have hr := hP.row
  obtain ⟨al, nl, cl, rfl⟩ := capOk_form hr.1.cap
  have hn : nl = m.length := by cases hr.1.row <;> rfl
  subst hn
  have q0 := hP.cells 0 _ rfl
  have q2 := hP.cells 2 _ rfl
  simp only [Nat.add_zero] at q0
  obtain ⟨gi, offi, rfl, i0, i1, i2⟩ := row_item hr.1.row hm
  have hB := (o5.block _ (by rw [hws]; omega) (fun q => q)).trans hh
  have b0 := heap_cell hB 0
  have b1 := heap_cell hB 1
  have b2 := heap_cell hB 2
  have z0 := heap_frozen hB 0
  have z1 := heap_frozen hB 1
  have z2 := heap_frozen hB 2
  simp only [List.getElem?_toArray, List.getElem?_cons_zero, List.getElem?_cons_succ] at b0 b1 b2
  have ha := (List.getElem?_eq_some_iff.1 hm).1
  have ha2 : (a : Int) < (m.length : Int) := by omega
  have hgi : gi ≠ w.heap.size := fun e => by have := hv0 gi rfl; omega
  have hfin : Only (fun _ => False) w (((w5.setCell ⟨w.heap.size, 0, none⟩ (str it.key)).setCell ⟨w.heap.size, 1, none⟩ (str it.val)).setCell ⟨w.heap.size, 2, none⟩ (.int .i64 it.kind)) := (((HO.out.trans o5 (fun _ _ q => q)).setCell (p := ⟨w.heap.size, 0, none⟩) (fun q => by simp at q) (str it.key)).setCell (p := ⟨w.heap.size, 1, none⟩) (fun q => by simp at q) (str it.val)).setCell (p := ⟨w.heap.size, 2, none⟩) (fun q => by simp at q) (.int .i64 it.kind)
  have hH := heap_setCell (heap_setCell (heap_setCell hB 0 (str it.key)) 1 (str it.val)) 2 (.int .i64 it.kind)
  have hHd : ((((w5.setCell ⟨w.heap.size, 0, none⟩ (str it.key)).setCell ⟨w.heap.size, 1, none⟩ (str it.val)).setCell ⟨w.heap.size, 2, none⟩ (.int .i64 it.kind)).drew).heap[w.heap.size]? = _ := hH
  have g0 := heap_cell hHd 0
  have g1 := heap_cell hHd 1
  have g2 := heap_cell hHd 2
  simp only [List.getElem?_toArray, List.getElem?_cons_zero, List.getElem?_cons_succ, List.setIfInBounds_toArray, List.set_cons_zero, List.set_cons_succ] at g0 g1 g2
  have HF := Lib.hid hfin
  have HG := Lib.hid (And.intro g0 (And.intro g1 g2))
  clear hfin hH hHd g0 g1 g2 hP hr hB hh hws HT HI1
  go_wp2_with fail
  go_region
  all_goals
    go_wp2_with fail
    obtain ⟨g0, g1, g2⟩ := HG.out
    exact bodyPost_ret (v := .tuple #[itemV it, .bool true]) (by simp [results, Tryz.results30, go_sem, itemV, itemC, str, g0, g1, g2]) rfl ⟨rfl, HF.out.drew⟩
end Go.Proofs.YtklccpaphkpgfaaGreat
