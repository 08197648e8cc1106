/- Package tree over the law's pages: Put. Conditions: one goroutine; the pages hold the tree; there is room for the pages. -/
import Derived.Test.YtklccpaphkpgfaaGreatZTree7
namespace Go.Proofs.YtklccpaphkpgfaaGreat
open Go.RowKit

theorem pages_nil (b : Nat) (w : World) : (binOp .eql 79 (pagesV b) .nilIface).run Tryz.prog w = .ok (.bool false) w := by kernel_rfl

set_option maxRecDepth 100000 in
set_option maxHeartbeats 2000000 in
theorem tPut_bad (w : World) (b : Nat) (S : PSt) (root : Int) (i : Item) (h : PagesAt w b S) (hi : okItem i = false) :
    Calls Tryz.prog 32 #[pagesV b, .int .i64 root, itemV i] w fun e w' => e = .returned (.tuple #[.int .i64 0, .int .i64 1]) ∧ PagesAt w' b S ∧ PStep b w w' := by
  have hnil := pages_nil b
  have hV := Valid_is i (w.alloc (.cells #[str i.key, str i.val, .int .i64 i.kind] 29))
  rw [hi] at hV
  have oW := (Only.refl (fun _ => False) w).alloc (.cells #[str i.key, str i.val, .int .i64 i.kind] 29)
  have HV := Lib.hid hV
  clear hV
  unfold itemV itemC at HV ⊢
  unfold pagesV at hnil ⊢
  go_enter Tryz.func32, Tryz.ntmps32
  go_wp2_with fail
  refine HV.out.mono ?_
  rintro e w1 ⟨rfl, o1⟩
  go_wp2_with fail
  go_ret2
  have o2 := oW.trans o1 (fun _ _ q => q)
  exact ⟨rfl, h.still o2, PStep.still h.lt o2⟩

set_option maxRecDepth 100000 in
set_option maxHeartbeats 2000000 in
theorem tPut_is (w : World) (b : Nat) (S S2 : PSt) (root r : Int) (l : List Item) (ids : List Int) (i : Item) (m : Nat) (h : PagesAt w b S) (hi : okItem i = true) (R : Rooted S.L root l ids) (hs : S.stop < 0) (hm : l.length < 2 ^ m) (hm2 : m ≤ 11) (hL : S.L.length + 4 + 2 * m ≤ 3998) (hg : S.given.length + 40 < 1000000)
    (hk : putTree S root i = (.ok r, S2)) :
    Calls Tryz.prog 32 #[pagesV b, .int .i64 root, itemV i] w fun e w' => e = .returned (.tuple #[.int .i64 r, .int .i64 0]) ∧ PagesAt w' b S2 ∧ PStep b w w' := by
  have hnil := pages_nil b
  have hV := Valid_is i (w.alloc (.cells #[str i.key, str i.val, .int .i64 i.kind] 29))
  rw [hi] at hV
  have oW := (Only.refl (fun _ => False) w).alloc (.cells #[str i.key, str i.val, .int .i64 i.kind] 29)
  have hR0 := heap_alloc_new w (.cells #[str i.key, str i.val, .int .i64 i.kind] 29)
  have hWs : (w.alloc (.cells #[str i.key, str i.val, .int .i64 i.kind] 29)).heap.size = w.heap.size + 1 := by simp
  unfold putTree at hk
  rw [if_pos hi] at hk
  have HV := Lib.hid hV
  have HP := Lib.hid h
  have HO := Lib.hid oW
  by_cases h0 : root = 0
  · subst h0
    rw [if_pos rfl] at hk
    have hr : rightL [i] = true := by rw [rightL_cons]; exact ⟨hi, (fun y hy => by simp at hy), rightL_nil⟩
    have hc := (cost_item hi).2
    have hsz : sizeL [i] ≤ 232 := by rw [sizeL_cons]; simp only [sizeL, List.foldr_nil]; omega
    have hw : cutL [i] = [[i]] := cut_whole _ (by simp) hsz (by simp)
    obtain ⟨ts, p1, h1, h2, h3, h4, K, h6, h7⟩ := leavesP_is S 0 [i] hr (by omega) (by omega) (by omega)
    rw [h1] at hk
    simp only at hk
    have hgv := leavesP_given S 0 [i]
    rw [h1] at hgv
    simp only at hgv
    have hfew := K.few
    rw [List.length_map, hw] at hfew
    simp only [List.length_cons, List.length_nil] at hfew
    have hL1 := fun W v (hP : PagesAt W b S) hv => tleaves_is W b S p1 0 [i] (ts.map Sprout.kid) v hP hv hr (by omega) (by rw [hw]; simp; omega) (by omega) (by omega) (by omega) h1
    have hT1 := fun W v (hP : PagesAt W b p1) hv => ttop_is W b p1 S2 (ts.map Sprout.kid) v r hP hv h2.ok (by rw [List.length_map]; exact h4) (by omega) (by omega) hk
    have HL1 := Lib.hid hL1
    have HT1 := Lib.hid hT1
    clear hL1 hT1 hk h oW hV
    unfold itemV itemC at HV ⊢
    unfold pagesV at hnil HL1 HT1 ⊢
    go_enter Tryz.func32, Tryz.ntmps32
    go_wp2_with fail
    refine HV.out.mono ?_
    rintro e w1 ⟨rfl, o1⟩
    have hR1 := (o1.block _ (by rw [hWs]; omega) (fun q => q)).trans hR0
    have r0 := heap_cell hR1 0
    have r1 := heap_cell hR1 1
    have r2 := heap_cell hR1 2
    simp only [List.getElem?_toArray, List.getElem?_cons_zero, List.getElem?_cons_succ] at r0 r1 r2
    have HO1 := Lib.hid (HO.out.trans o1 (fun _ _ q => q))
    clear o1 hR1 hR0 hWs
    go_wp2_with fail
    have o2 := HO1.out.alloc (.cells #[str i.key, str i.val, .int .i64 i.kind] 29)
    have hrow : RowC itemC 3 (w1.alloc (.cells #[str i.key, str i.val, .int .i64 i.kind] 29)) (.slice (some ⟨w1.heap.size, 0, none⟩) 1 1) [i] := by
      have hq : (w1.alloc (.cells #[str i.key, str i.val, .int .i64 i.kind] 29)).ownsRow 0 29 3 (.slice (some ⟨w1.heap.size, 0, none⟩) 1 1) 1 ([i].flatMap itemC) :=
        own_of_heap (heap_alloc_new w1 _) (by omega) (by unfold maxLen; omega) rfl rfl
      exact ⟨row_own (enc := itemC) (k := 3) (fun _ => rfl) hq, cap_own hq⟩
    refine (HL1.out _ _ (HP.out.still o2) hrow).mono ?_
    rintro e w3 ⟨V, rfl, hkr, hp3, st3⟩
    have HS3 := Lib.hid ((PStep.still HP.out.lt o2).trans st3)
    have HP3 := Lib.hid hp3
    have HKR := Lib.hid hkr.row
    clear o2 hrow hkr hp3 st3
    go_wp2_with fail
    refine (HT1.out _ _ HP3.out HKR.out).mono ?_
    rintro e w4 ⟨rfl, hp4, st4⟩
    have HX := Lib.hid (And.intro hp4 (HS3.out.trans st4))
    clear hp4 st4
    go_wp2_with fail
    go_ret2
    exact ⟨rfl, HX.out.1, HX.out.2⟩
  · rw [if_neg h0] at hk
    obtain ⟨n, b0, T⟩ : ∃ n b0, Tree S.L n root b0 l ids := by
      cases R with
      | none => exact absurd rfl h0
      | some n _ b0 _ _ T => exact ⟨n, b0, T⟩
    have hself := T.there _ T.self
    have hmany := T.many
    have hn : n < m := by
      apply Classical.byContradiction
      intro q
      have := Nat.pow_le_pow_right (n := 2) (by omega) (Nat.le_of_not_lt q)
      omega
    obtain ⟨ts, p1, h1, h2, h3, h4, h5, M, _⟩ := putP_is i hi n S root b0 l ids 1 13 T (by omega) (by omega) hs (by omega)
    rw [h1] at hk
    simp only at hk
    have hgv := putP_given i 13 S root 1
    rw [h1] at hgv
    simp only at hgv
    have hfew := M.few
    have hL1 := fun W (hP : PagesAt W b S) => tput_is i hi 13 n S p1 root b0 l ids 1 (ts.map Sprout.kid) W b T (by omega) (by omega) (by omega) hs (by omega) (by omega) hP h1
    have hT1 := fun W v (hP : PagesAt W b p1) hv => ttop_is W b p1 S2 (ts.map Sprout.kid) v r hP hv h2.ok (by rw [List.length_map]; exact h5) (by omega) (by omega) hk
    have HL1 := Lib.hid hL1
    have HT1 := Lib.hid hT1
    clear hL1 hT1 hk h oW hV T R
    unfold itemV itemC at HV HL1 ⊢
    unfold pagesV at hnil HL1 HT1 ⊢
    go_enter Tryz.func32, Tryz.ntmps32
    go_wp2_with fail
    refine HV.out.mono ?_
    rintro e w1 ⟨rfl, o1⟩
    have hR1 := (o1.block _ (by rw [hWs]; omega) (fun q => q)).trans hR0
    have r0 := heap_cell hR1 0
    have r1 := heap_cell hR1 1
    have r2 := heap_cell hR1 2
    simp only [List.getElem?_toArray, List.getElem?_cons_zero, List.getElem?_cons_succ] at r0 r1 r2
    have HO1 := Lib.hid (HO.out.trans o1 (fun _ _ q => q))
    clear o1 hR1 hR0 hWs
    go_wp2_with fail
    refine (HL1.out _ (HP.out.still HO1.out)).mono ?_
    rintro e w3 ⟨V, rfl, hkr, hp3, st3⟩
    have HS3 := Lib.hid ((PStep.still HP.out.lt HO1.out).trans st3)
    have HP3 := Lib.hid hp3
    have HKR := Lib.hid hkr.row
    clear hkr hp3 st3
    go_wp2_with fail
    refine (HT1.out _ _ HP3.out HKR.out).mono ?_
    rintro e w4 ⟨rfl, hp4, st4⟩
    have HX := Lib.hid (And.intro hp4 (HS3.out.trans st4))
    clear hp4 st4
    go_wp2_with fail
    go_ret2
    exact ⟨rfl, HX.out.1, HX.out.2⟩
end Go.Proofs.YtklccpaphkpgfaaGreat
