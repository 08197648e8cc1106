/- Plain laws: the parts of a put below a twig. No program in sight. -/
import Derived.Test.YtcjaokmodicikaaZPlain6
namespace Go.Proofs.Ytcjaokmodicikaa
open Go.RowKit

/-! ### The parts of a put below a twig -/

theorem put_twig_parts (i : Item) (hi : okItem i = true) (n f : Nat) (S S2 : PSt) (id : Int) (b : Bytes) (l : List Item) (ids : List Int) (depth : Int) (ks : List Kid) (h : Tree S.L (n + 1) id b l ids) (hf : n < f) (hd : depth + (n + 1 : Nat) ≤ 12) (hs : S.stop < 0) (hL : S.L.length + 3 + 2 * (n + 1) ≤ 3998)
    (hk : putP (f + 1) S id i depth = (.ok ks, S2)) :
    ∃ kids k w p1, nodeAt S.L id = some (.twig kids) ∧ kids ≠ [] ∧ okNode (.twig kids) ∧ 2 ≤ kids.length ∧ kids[findK kids i.key]? = some k ∧ (∃ b' l' ids', Tree S.L n k.page b' l' ids') ∧ putP f S k.page i (depth + 1) = (.ok w, p1) ∧ w ≠ [] ∧ w.length ≤ 3 ∧
      p1.L.length ≤ S.L.length + 3 + 2 * n ∧ p1.stop = S.stop ∧ S.L.length ≤ p1.L.length ∧ p1.given.length ≤ S.given.length + f ∧ rightL w = true ∧ twigsP p1 id (swapL kids (findK kids i.key) (lowerHead k.key w)) = (.ok ks, S2) := by
  cases h with
  | twig _ _ ts h two ok sub bd nd =>
    have hri := (rightL_iff _).1 ok.1
    have hne : ts.map Sprout.kid ≠ [] := by intro q; rw [List.map_eq_nil_iff] at q; subst q; simp at two
    obtain ⟨A', x, C', e1, e2, e3, e4⟩ := findK_is hri.2 hne i.key
    obtain ⟨A, r, rfl, rfl, er⟩ := List.map_eq_append_iff.1 e1
    obtain ⟨t, C, rfl, rfl, rfl⟩ := List.map_eq_cons_iff.1 er
    have hkid : ((A ++ t :: C).map Sprout.kid)[findK ((A ++ t :: C).map Sprout.kid) i.key]? = some t.kid := by
      rw [e2, List.map_append, List.getElem?_append_right (by simp)]
      simp
    have hT := sub t (by simp)
    obtain ⟨w, p1, g1, W, g3, g4, g5, M, g7⟩ := putP_is i hi n S t.kid.page t.low t.items t.ids (depth + 1) f hT (by omega) (by omega) hs (by omega)
    have hg := putP_given i f S t.kid.page (depth + 1)
    rw [g1] at hg
    refine ⟨_, t.kid, w.map Sprout.kid, p1, h, hne, ok, by rw [List.length_map]; exact two, hkid, ⟨_, _, _, hT⟩, g1, by simpa using g4, by rw [List.length_map]; exact g5, by have := M.few; omega, M.stop, M.grow, hg, W.ok, ?_⟩
    rw [putP, loadP_is h (by omega) hs] at hk
    simp only at hk
    rw [hkid] at hk
    simp only at hk
    rw [g1] at hk
    exact hk
end Go.Proofs.Ytcjaokmodicikaa
