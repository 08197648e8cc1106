/- Package tree over the law's pages: a key is deleted from a tree. Conditions: one goroutine; the pages hold the tree; there is room for the pages. -/
import Derived.Test.YtklccpaphkpgfaaGreatZTree11
import Derived.Test.YtklccpaphkpgfaaGreatZTree8
namespace Go.Proofs.YtklccpaphkpgfaaGreat
open Go.RowKit

theorem tdel_is (key : Bytes) (f : Nat) : DelDoes key f := by
  induction f with
  | zero => intro n S S2 id b0 l ids depth r w b T hf; omega
  | succ f ih =>
    intro n S S2 id b0 l ids depth r w b T hf hd0 hd hs hL hg h hk
    cases n with
    | zero =>
      cases T with
      | leaf _ _ hn ne ok => exact tdel_leaf key f S S2 id l depth r w b hn ok (by omega) hs (by omega) (by omega) h hk
    | succ n => exact tdel_twig key f ih n S S2 id b0 l ids depth r w b T (by omega) hd0 hd hs hL (by omega) h hk

set_option maxRecDepth 100000 in
set_option maxHeartbeats 4000000 in
theorem tDelete_is (w : World) (b : Nat) (S S2 : PSt) (root root' : Int) (l : List Item) (ids : List Int) (key : Bytes) (fnd : Bool) (m : Nat) (h : PagesAt w b S) (R : Rooted S.L root l ids) (hs : S.stop < 0) (hm : l.length < 2 ^ m) (hm2 : m ≤ 11) (hL : S.L.length + 4 + 2 * m ≤ 3998) (hg : S.given.length + 60 < 1000000)
    (hk : delTree S root key = (.ok (root', fnd), S2)) :
    Calls Tryz.prog 74 #[pagesV b, .int .i64 root, str key] w fun e w' => e = .returned (.tuple #[.int .i64 root', .bool fnd, .int .i64 0]) ∧ PagesAt w' b S2 ∧ PStep b w w' := by
  have hnil := pages_nil b
  unfold delTree at hk
  cases R with
  | none =>
    rw [if_pos rfl] at hk
    cases hk
    unfold pagesV at hnil ⊢
    go_enter Tryz.func74, Tryz.ntmps74
    go_wp2_with fail
    go_ret3
    exact ⟨rfl, h, PStep.refl b w⟩
  | some n _ bb _ _ T =>
    have hself := T.there _ T.self
    have hmany := T.many
    have hn : n < m := by
      apply Classical.byContradiction
      intro q
      have := Nat.pow_le_pow_right (n := 2) (by omega) (Nat.le_of_not_lt q)
      omega
    have hr0 : ¬ root = 0 := by omega
    rw [if_neg hr0] at hk
    have hgd := delP_given key 13 S root 1
    have hD := fun r p1 hq => tdel_is key 13 n S p1 root bb l ids 1 r w b T (by omega) (by omega) (by omega) hs (by omega) (by omega) h hq
    unfold DelEnds at hD
    rcases delP_is key n S root bb l ids 1 13 T (by omega) (by omega) hs (by omega) with ⟨i1, i2⟩ | ⟨i1, ts, p1, thin, i2, i3, M, i5, i6⟩
    · have HD := Lib.hid (hD _ _ i2)
      rw [i2] at hk
      simp only [Bool.false_eq_true, if_false] at hk
      cases hk
      clear hD i2 hgd h T
      unfold pagesV at hnil HD ⊢
      go_enter Tryz.func74, Tryz.ntmps74
      go_wp2_with fail
      refine HD.out.mono ?_
      rintro e w1 ⟨V, rfl, hkr, hp1, st1⟩
      obtain ⟨aV, cV, rfl⟩ := ownsRow_form hkr.own
      simp only [List.length_nil]
      have o2 := (Only.refl (fun _ => False) w1).alloc (.cells #[.slice aV 0 cV, .bool false, .bool false] 174)
      have hX := heap_alloc_new w1 (.cells #[.slice aV 0 cV, .bool false, .bool false] 174)
      have f2 := heap_cell hX 2
      simp only [List.getElem?_toArray, List.getElem?_cons_zero, List.getElem?_cons_succ] at f2
      have HX := Lib.hid (And.intro (hp1.still o2) (st1.trans (PStep.still hp1.lt o2)))
      clear hX o2 hkr hp1 st1 HD
      go_wp2_with fail
      go_ret3
      exact ⟨rfl, HX.out⟩
    · have HD := Lib.hid (hD _ _ i2)
      rw [i2] at hk hgd
      simp only [if_true] at hk hgd
      obtain ⟨rr, htop, rfl, rfl⟩ : ∃ rr, topP 20 p1 (ts.map Sprout.kid) = (.ok rr, S2) ∧ root' = rr ∧ fnd = true := by
        cases ht : topP 20 p1 (ts.map Sprout.kid) with
        | mk q p2 =>
          rw [ht] at hk
          cases q with
          | error e => cases hk
          | ok rr => cases hk; exact ⟨_, rfl, rfl, rfl⟩
      have hF : rightL (ts.map Sprout.kid) = true ∧ (ts.map Sprout.kid).length ≤ 3 := by
        rw [List.length_map]
        rcases i6 with ⟨_, W, hw2, _⟩ | ⟨_, k, o, _, rfl, O, _⟩
        · exact ⟨W.ok, by omega⟩
        · exact ⟨O.ok, by simp⟩
      have hfew := M.few
      have HF := Lib.hid (And.intro hF htop)
      generalize ts.map Sprout.kid = kk at *
      clear hD i2 T h i3 M i5 i6 hk hF htop
      unfold pagesV at hnil HD ⊢
      go_enter Tryz.func74, Tryz.ntmps74
      go_wp2_with fail
      refine HD.out.mono ?_
      rintro e w1 ⟨V, rfl, hkr, hp1, st1⟩
      obtain ⟨aV, cV, rfl⟩ := ownsRow_form hkr.own
      simp only
      generalize hnV : kk.length = nV at *
      have o2 := (Only.refl (fun _ => False) w1).alloc (.cells #[.slice aV nV cV, .bool thin, .bool true] 174)
      have hX := heap_alloc_new w1 (.cells #[.slice aV nV cV, .bool thin, .bool true] 174)
      have f0 := heap_cell hX 0
      have f2 := heap_cell hX 2
      simp only [List.getElem?_toArray, List.getElem?_cons_zero, List.getElem?_cons_succ] at f0 f2
      have hrow := (hkr.row).only o2 (fun _ _ => id)
      have HT := Lib.hid (ttop_is _ b p1 S2 kk (.slice aV nV cV) _ (hp1.still o2) hrow HF.out.1.1 (by rw [hnV]; exact HF.out.1.2) (by omega) (by omega) HF.out.2)
      have HX := Lib.hid (st1.trans (PStep.still hp1.lt o2))
      clear hX o2 hkr hp1 st1 HD hrow hnV
      unfold pagesV at HT
      go_wp2_with fail
      refine HT.out.mono ?_
      rintro e w2 ⟨rfl, hp2, st2⟩
      have HY := Lib.hid (And.intro hp2 (HX.out.trans st2))
      clear hp2 st2 HT
      go_wp2_with fail
      go_ret3
      exact ⟨rfl, HY.out⟩
end Go.Proofs.YtklccpaphkpgfaaGreat
