/- Package tree over the law's pages: an item is put into a tree. Conditions: one goroutine; the pages hold the tree; there is room for the pages. -/
import Derived.Test.YtklccpaphkpgfaaGreatZTree6
namespace Go.Proofs.YtklccpaphkpgfaaGreat
open Go.RowKit

theorem tput_is (i : Item) (hi : okItem i = true) (f : Nat) : PutDoes i f := by
  induction f with
  | zero => intro n S S2 id b0 l ids depth ks w b T hf; omega
  | succ f ih =>
    intro n S S2 id b0 l ids depth ks w b T hf hd0 hd hs hL hg h hk
    cases n with
    | zero =>
      cases T with
      | leaf _ _ hn ne ok => exact tput_leaf i hi f S S2 id l depth ks w b hn ok (by omega) hs (by omega) (by omega) h hk
    | succ n => exact tput_twig i hi f ih n S S2 id b0 l ids depth ks w b T (by omega) hd0 hd hs hL hg h hk

set_option maxRecDepth 100000 in
set_option maxHeartbeats 4000000 in
theorem ttop_is (w : World) (b : Nat) (S S2 : PSt) (l : List Kid) (v : Value) (r : Int) (h : PagesAt w b S) (hv : RowC kidC 2 w v l) (hr : rightL l = true) (h3 : l.length ≤ 3) (hL : S.L.length + 1 ≤ 3998) (hg : S.given.length < 1000000) (hk : topP 20 S l = (.ok r, S2)) :
    Calls Tryz.prog 87 #[pagesV b, v] w fun e w' => e = .returned (.tuple #[.int .i64 r, .int .i64 0]) ∧ PagesAt w' b S2 ∧ PStep b w w' := by
  obtain ⟨a, n, c, rfl⟩ := capOk_form hv.cap
  have hn : n = l.length := by
    cases hv.row with
    | none => rfl
    | some => rfl
  subst hn
  have HP := Lib.hid h
  match l, hr, h3, hv, hk with
  | [], _, _, _, hk =>
    cases hk
    go_enter Tryz.func87, Tryz.ntmps87
    go_wp2_with fail
    refine wp_loop_rounds 1 ?_
    rw [rounds_succ]
    go_wp2_with fail
    go_ret2
    exact ⟨rfl, h, PStep.refl b w⟩
  | [k], _, _, hv, hk =>
    cases hk
    obtain ⟨g, off, rfl, _, k1⟩ := row_kid hv.row (k := 0) (x := k) rfl
    simp only [Nat.zero_mul, Nat.add_zero] at k1
    go_enter Tryz.func87, Tryz.ntmps87
    go_wp2_with fail
    refine wp_loop_rounds 1 ?_
    rw [rounds_succ]
    go_wp2_with fail
    go_ret2
    exact ⟨rfl, h, PStep.refl b w⟩
  | x :: y :: z, hr, h3, hv, hk =>
    have hk' : (match twigsP S 0 (x :: y :: z) with | (.error e, p) => (.error e, p) | (.ok up, p) => topP 19 p up) = (.ok r, S2) := by
      rw [← hk, topP] <;> first | rfl | (intro k q; simp at q) | (intro q; simp at q)
    have hs := sizeL_most (x :: y :: z) fun u hu => (cost_kid (((rightL_iff _).1 hr).1 u hu)).2
    have hw : cutL (x :: y :: z) = [x :: y :: z] := cut_whole _ (by simp) (by omega) (by omega)
    have hc : cutT (x :: y :: z) = [x :: y :: z] := by unfold cutT; rw [hw]; rfl
    obtain ⟨u, p1, hu, hur⟩ : ∃ u p1, twigsP S 0 (x :: y :: z) = (.ok [u], p1) ∧ r = u.page ∧ S2 = p1 := by
      cases ht : twigsP S 0 (x :: y :: z) with
      | mk res p1 =>
        rw [ht] at hk'
        cases res with
        | error e => cases hk'
        | ok up =>
          have hl : up.length = 1 := by
            have ht2 := ht
            unfold twigsP at ht2
            rw [if_pos hr, hc] at ht2
            obtain ⟨ids', p', h1, K⟩ := keepP_is S 0 ([x :: y :: z].map Node.twig) (by simpa using hL) (by omega)
            rw [h1] at ht2
            simp only at ht2
            cases ht2
            rw [kidsOf_length _ _ (by rw [K.len]; rfl), K.len]; rfl
          obtain ⟨u, rfl⟩ := List.length_eq_one_iff.1 hl
          refine ⟨u, p1, rfl, ?_⟩
          cases hk'
          exact ⟨rfl, rfl⟩
    obtain ⟨rfl, rfl⟩ := hur
    have hT := ttwigs_is w b S S2 0 (x :: y :: z) [u] _ h hv hr (by omega) (by simp) (by rw [hc]; exact hL) (by omega) (by omega) hg hu
    have HT := Lib.hid hT
    have hl2 : (1 : Int) < ((x :: y :: z).length : Int) := by simp only [List.length_cons]; omega
    generalize x :: y :: z = l at *
    clear hT hk hk' hu hs hw hc hr h3 hv
    unfold pagesV at HT ⊢
    go_enter Tryz.func87, Tryz.ntmps87
    go_wp2_with fail
    refine wp_loop_rounds 2 ?_
    rw [rounds_succ]
    go_wp2_with fail
    refine HT.out.mono ?_
    rintro e w1 ⟨V, rfl, hkr, hp1, st1⟩
    obtain ⟨gv, cv, rfl⟩ : ∃ gv cv, V = .slice (some ⟨gv, 0, none⟩) [u].length cv := by
      rcases hkr.own.2 with ⟨q, h0⟩ | ⟨gv, cv, cur, q, _⟩
      · simp at h0
      · exact ⟨gv, cv, q⟩
    have v1 := own_cell hkr.own 1 (.int .i64 u.page) rfl
    have HX := Lib.hid (And.intro hp1 st1)
    clear hp1 st1 hkr
    go_wp2_with fail
    rw [rounds_succ]
    go_wp2_with fail
    go_ret2
    exact ⟨rfl, HX.out.1, HX.out.2⟩
end Go.Proofs.YtklccpaphkpgfaaGreat
