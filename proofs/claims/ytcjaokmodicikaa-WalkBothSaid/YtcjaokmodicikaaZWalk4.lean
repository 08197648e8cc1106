/- Package walk over the law's pages: down to a leaf. Conditions: one goroutine; the cursor and the pages lie in memory. -/
import Derived.Test.YtcjaokmodicikaaZWalk3
import Derived.Deep.RegionWith
namespace Go.Proofs.Ytcjaokmodicikaa
open Go.RowKit

/-- What a function that chooses has captured lies beside the cursor. -/
structure KInv (b B : Nat) (kv : Option Value) (F : Nat → Prop) (w : World) : Prop where
  ok : ∀ u, kv = some u → w.cell? ⟨B, 0, none⟩ = some u ∧ ¬ F B ∧ ¬ pown w b B
theorem KInv.step {b B : Nat} {kv : Option Value} {F F' : Nat → Prop} {w w' : World} (h : KInv b B kv F w) (s : CStep b F F' w w') : KInv b B kv F' w' := ⟨fun u hu => by
  obtain ⟨h1, h2, h3⟩ := h.ok u hu
  have hl := lt_of_cell h1
  exact ⟨(s.only.cell (p := ⟨B, 0, none⟩) hl (fun q => q.elim h2 h3)).trans h1, fun q => (s.grow B q).elim h2 (by omega), fun q => (s.own B q).elim h3 (by omega)⟩⟩
def ChooseIs (fk : Nat) (cap : Array Value) (ch : Node → Int) (B : Nat) (kv : Option Value) : Prop :=
  ∀ (W : World) (g off : Nat) (p : Place) (v : Value), PlaceIn W g off p v → (∀ u, kv = some u → W.cell? ⟨B, 0, none⟩ = some u) → Calls Try.prog fk (#[.pointer (some ⟨g, off, none⟩)] ++ cap) W fun e w' => e = .returned (.int .i64 (ch p.node)) ∧ Only (fun _ => False) W w'

theorem CurIn.at_ {w : World} {x b : Nat} {c : Cur} {F : Nat → Prop} {vS : Value} {vs : List Value} (h : CurIn w x b c F vS vs) : CurAt w x b c F := ⟨vS, vs, h⟩
theorem cLoad_len {c c' : Cur} {id : Int} (h : cLoad c id = (true, c')) : c'.stack.length ≤ 12 := by
  unfold cLoad at h
  split at h
  · cases h
  · split at h
    · cases h
    · cases h; simp only [List.length_cons]; omega
theorem kidAt_some {l : List Kid} {a : Int} {k : Kid} (h : kidAt l a = some k) : ∃ n : Nat, a = n ∧ l[n]? = some k := by
  unfold kidAt at h
  split at h
  · rename_i h0
    exact ⟨a.toNat, by omega, h⟩
  · cases h

set_option maxRecDepth 100000 in
set_option maxHeartbeats 4000000 in
theorem wdown_is (fk : Nat) (cap : Array Value) (ch : Node → Int) (B : Nat) (kv : Option Value) (hent : ∀ args w, (callFunc fk args).run Try.prog w = .ok (.enter fk args) w) (hch : ChooseIs fk cap ch B kv) (f : Nat) (w : World) (x b : Nat) (c c' : Cur) (F : Nat → Prop) (r : Bool) (h : CurAt w x b c F) (hK : KInv b B kv F w) (hsl : c.stack.length ≤ 12) (hd : cDown ch f c = some (r, c')) :
    Calls Try.prog 54 #[.pointer (some ⟨x, 0, none⟩), .func (.func fk) #[] cap] w fun e w' => ∃ F', e = .returned (.bool r) ∧ CurAt w' x b c' F' ∧ CStep b F F' w w' := by
  have HA := Lib.hid h
  have HKI := Lib.hid hK
  have HD := Lib.hid hd
  have HCH := Lib.hid hch
  clear h hK hd hch
  go_enter Try.func54, Try.ntmps54
  go_wp2_with fail
  go_loopg [5] f (fun gh n5 wr => ∃ (c1 : Cur) (F1 : Nat → Prop), cDown ch gh c1 = some (r, c') ∧ CurAt wr x b c1 F1 ∧ CStep b F F1 w wr ∧ KInv b B kv F1 wr ∧ c1.stack.length ≤ 12)
  case atStart => exact ⟨c, F, HD.out, HA.out, CStep.refl b F w, HKI.out, hsl⟩
  case round =>
    obtain ⟨c1, F1, hd, ha, hs, hk, hl⟩ := hrel
    cases gk with
    | zero => cases hd
    | succ f1 =>
      cases hst : c1.stack with
      | nil => rw [cDown, hst] at hd; cases hd
      | cons p st =>
        obtain ⟨vS, vs, hI⟩ := ha
        obtain ⟨g, cap', us, v, rfl, rfl, hul, hrow, _⟩ := hI.top hst
        have hl2 : st.length ≤ 900 := by rw [hst, List.length_cons] at hl; omega
        have hl9 : st.length ≤ 1000 := by omega
        have HTOP := Lib.hid (wtop_is wr x b c1 F1 g cap' _ st.length hI hl9)
        have HI := Lib.hid hI
        have HS := Lib.hid hs
        have HK := Lib.hid hk
        have HDD := Lib.hid hd
        clear hI hs hk hd hrow
        go_wp2_with fail
        refine HTOP.out.mono ?_
        rintro e w1 ⟨rfl, o1⟩
        have hI1 := HI.out.still o1
        have hS1 := HS.out.trans (CStep.still HI.out.pages.lt o1)
        have hK1 := HK.out.step (CStep.still HI.out.pages.lt o1)
        have HC := Lib.hid (HCH.out w1 g (st.length * 3) p v (hI1.topPlace hst) (fun u hu => (hK1.ok u hu).1))
        have HI1 := Lib.hid hI1
        have HS1 := Lib.hid hS1
        have HK1 := Lib.hid hK1
        clear hI1 hS1 hK1 o1 HTOP
        go_wp2_with fail
        refine HC.out.mono ?_
        rintro e w2 ⟨rfl, o2⟩
        have hI2 := HI1.out.still o2
        have hs2 := CStep.still (F := F1) HI1.out.pages.lt o2
        obtain ⟨hI3, hs3⟩ := hI2.setTop hst (ch p.node)
        have hP2 := (hI2.topPlace hst).cells 2 (.int .i64 p.at_) (by unfold placeC; cases p.node <;> rfl)
        have hz2 : w2.frozen? ⟨g, st.length * 3 + 2, none⟩ = false := by
          have := hI2.own
          rw [hst, List.length_cons] at this
          exact own_frozen this _
        have hP3 := hI3.topPlace (p := ⟨p.node, ch p.node⟩) rfl
        have HI3 := Lib.hid hI3
        have HS3 := Lib.hid (HS1.out.trans (hs2.trans hs3))
        have HK3 := Lib.hid (HK1.out.step (hs2.trans hs3))
        have HP3 := Lib.hid hP3
        clear hI2 hs2 hI3 hs3 hP3 o2 HC
        obtain ⟨node, at0⟩ := p
        cases node with
        | leaf l =>
          have q1 := HP3.out.cells 1 _ rfl
          have hd := HDD.out
          rw [cDown, hst] at hd
          simp only [Option.some.injEq, Prod.mk.injEq] at hd
          obtain ⟨rfl, rfl⟩ := hd
          have hlt := lt_of_cell q1
          go_wp2_with fail
          go_ret
          first | exact ⟨rfl, F1, HI3.out.at_, HS3.out⟩ | exact ⟨F1, rfl, HI3.out.at_, HS3.out⟩
        | twig l =>
          have hr := HP3.out.row
          obtain ⟨al, nl, cl, rfl⟩ := capOk_form hr.1.cap
          have hn : nl = l.length := by cases hr.1.row <;> rfl
          subst hn
          have q1 := HP3.out.cells 1 _ rfl
          have q2 := HP3.out.cells 2 _ rfl
          have hd := HDD.out
          rw [cDown, hst] at hd
          simp only at hd
          cases hka : kidAt l (ch (.twig l)) with
          | none => rw [hka] at hd; cases hd
          | some k =>
            rw [hka] at hd
            simp only at hd
            obtain ⟨a, hca, hkx⟩ := kidAt_some hka
            have hal := (List.getElem?_eq_some_iff.1 hkx).1
            have hal2 : (a : Int) < (l.length : Int) := by omega
            have hpos : (0 : Int) < (l.length : Int) := by omega
            have hne0 : ¬ (l.length : Int) = 0 := by omega
            have hpg := hr.2.2.1 k (List.mem_of_getElem? hkx)
            obtain ⟨gk', offk, rfl, _, kp⟩ := row_kid hr.1.row hkx
            have hHD := Lib.hid hd
            have hS3 := HS3.out
            have hK3 := HK3.out
            simp only at hS3 hK3
            clear HS3 HK3
            rw [hca] at *
            have HS3 := Lib.hid hS3
            have HK3 := Lib.hid hK3
            clear hS3 hK3
            have HL := Lib.hid (fun W F' (hW : CurAt W x b _ F') => wload_is W x b { c1 with stack := ⟨.twig l, (a : Int)⟩ :: st } F' k.page hW (by omega) (by show st.length + 1 ≤ 1000; omega))
            have hdr : Only (fun _ => False) (w2.setCell ⟨g, st.length * 3 + 2, none⟩ (.int .i64 (a : Int))) (w2.setCell ⟨g, st.length * 3 + 2, none⟩ (.int .i64 (a : Int))).drew := (Only.refl _ _).drew
            have hI4 := HI3.out.still hdr
            have hs4 := CStep.still (F := F1) HI3.out.pages.lt hdr
            clear hd hka hr
            cases hcl : cLoad { c1 with stack := ⟨.twig l, (a : Int)⟩ :: st } k.page with
            | mk r2 c2 =>
              rw [hcl] at hHD HL
              cases r2 with
              | false =>
                have hHD := hHD.out
                simp only [Option.some.injEq, Prod.mk.injEq] at hHD
                obtain ⟨rfl, rfl⟩ := hHD
                go_wp2_with fail
                go_region_with (go_at_call 53; refine (HL.out _ F1 hI4.at_).mono ?_; rintro e w4 ⟨F4, rfl, ha4, st4⟩)
                all_goals
                  go_wp2_with fail
                  go_ret
                  first | exact ⟨rfl, F4, ha4, HS3.out.trans (hs4.trans st4)⟩ | exact ⟨F4, rfl, ha4, HS3.out.trans (hs4.trans st4)⟩
              | true =>
                have hc2 := cLoad_len hcl
                go_wp2_with fail
                go_region_with (go_at_call 53; refine (HL.out _ F1 hI4.at_).mono ?_; rintro e w4 ⟨F4, rfl, ha4, st4⟩)
                all_goals
                  go_wp2_with fail
                  go_roundg f1
                  case measure => omega
                  case rel => exact ⟨c2, F4, hHD.out, ha4, HS3.out.trans (hs4.trans st4), HK3.out.step (hs4.trans st4), hc2⟩
end Go.Proofs.Ytcjaokmodicikaa
