/- Package tree over the law's pages: how deep a tree is. Conditions: one goroutine; the pages hold the tree. -/
import Derived.Test.YtklccpaphkpgfaaGreatZTree8
namespace Go.Proofs.YtklccpaphkpgfaaGreat
open Go.RowKit

/-- How the question ends how deep a tree is. -/
def DepthEnds (w : World) (b : Nat) (S : PSt) (l : List Item) : Ending → World → Prop := fun e w' => ∃ D : Nat, e = .returned (.tuple #[.int .i64 D, .int .i64 0]) ∧ (l = [] → D = 0) ∧ (l ≠ [] → ∃ n, D = n + 1 ∧ 2 ^ n ≤ l.length) ∧ PagesAt w' b S ∧ PStep b w w'

set_option maxRecDepth 100000 in
set_option maxHeartbeats 4000000 in
theorem tDepth_is (w : World) (b : Nat) (S : PSt) (root : Int) (l : List Item) (ids : List Int) (h : PagesAt w b S) (R : Rooted S.L root l ids) (hs : S.stop < 0) (hl : l.length < 2 ^ 11) :
    Calls Tryz.prog 72 #[pagesV b, .int .i64 root] w (DepthEnds w b S l) := by
  have hnil := pages_nil b
  have hfew : S.L.length ≤ 3998 := by
    obtain ⟨vL, vG, hI⟩ := h
    exact hI.few
  cases R with
  | none =>
    unfold pagesV at hnil ⊢
    go_enter Tryz.func72, Tryz.ntmps72
    go_wp2_with fail
    refine wp_loop_rounds 1 ?_
    rw [rounds_succ]
    go_wp2_with fail
    go_ret2
    exact ⟨0, rfl, fun _ => rfl, fun q => absurd rfl q, h, PStep.refl b w⟩
  | some n _ bb _ _ T =>
    have hmany := T.many
    have hn : n < 11 := by
      apply Classical.byContradiction
      intro q
      have := Nat.pow_le_pow_right (n := 2) (by omega) (Nat.le_of_not_lt q)
      omega
    have hne : l ≠ [] := T.ne
    have HP := Lib.hid h
    have HT := Lib.hid T
    clear h T hl
    unfold pagesV at hnil ⊢
    go_enter Tryz.func72, Tryz.ntmps72
    go_wp2_with fail
    go_loopg [6, 7] n (fun gh dv iv wr => ∃ (d k : Nat) (id : Int) (b' : Bytes) (l' : List Item) (ids' : List Int), gh = k ∧ d + k = n ∧ dv = .int .i64 d ∧ iv = .int .i64 id ∧ Tree S.L k id b' l' ids' ∧ PagesAt wr b S ∧ PStep b w wr)
    case atStart => exact ⟨0, n, root, _, _, _, rfl, by omega, rfl, rfl, HT.out, HP.out, PStep.refl b w⟩
    case round =>
      obtain ⟨d, k, id, b', l', ids', rfl, hdk, rfl, rfl, hT, hp, hst⟩ := hrel
      have hw1 : IntKind.i64.wrap ((d : Int) + 1) = (d : Int) + 1 := by exact IntWalk.i64_in _ (by omega)
      cases hT with
      | leaf _ _ hnd ne ok =>
        have hid := nodeAt_lt hnd
        have hid0 : ¬ id = 0 := by omega
        have HLD := Lib.hid (tload_leaf wr b S id ((d : Int) + 1) l' hp hs hnd (by omega) (by omega))
        have HS := Lib.hid hst
        clear hp hst hnd ne ok
        unfold pagesV at HLD
        go_wp2_with fail
        refine HLD.out.mono ?_
        rintro e w1 ⟨v1, rfl, hrow, hap, hp1, st1⟩
        obtain ⟨a1, n1, c1, rfl⟩ := capOk_form hrow.cap
        have o2 := (Only.refl (fun _ => False) w1).alloc (.cells #[.int .i64 id, .bool true, .slice a1 n1 c1, .slice none 0 0] 170)
        have HX := Lib.hid (And.intro (hp1.still o2) ((HS.out.trans st1).trans (PStep.still hp1.lt o2)))
        clear hrow hap hp1 st1 o2 HLD
        go_wp2_with fail
        go_ret2
        exact ⟨d + 1, rfl, fun q => absurd q hne, fun _ => ⟨d, rfl, by rw [show d = n by omega]; exact hmany⟩, HX.out⟩
      | twig k _ ts hnd two ok sub bd nd =>
        have hid := nodeAt_lt hnd
        have hid0 : ¬ id = 0 := by omega
        obtain ⟨t, ts', rfl⟩ : ∃ t ts', ts = t :: ts' := by
          cases ts with
          | nil => simp at two
          | cons t ts' => exact ⟨t, ts', rfl⟩
        have hsub := sub t (by simp)
        have HLD := Lib.hid (tload_twig wr b S id ((d : Int) + 1) ((t :: ts').map Sprout.kid) hp hs hnd (by omega) (by omega))
        have HS := Lib.hid (And.intro hst hsub)
        have hkn : 0 < ((t :: ts').map Sprout.kid).length := by simp
        clear hp hst hnd two ok sub bd nd hsub
        unfold pagesV at HLD
        go_wp2_with fail
        refine HLD.out.mono ?_
        rintro e w1 ⟨v1, rfl, hrow, hap, hp1, st1⟩
        obtain ⟨a1, n1, c1, rfl⟩ := capOk_form hrow.cap
        obtain rfl : n1 = ((t :: ts').map Sprout.kid).length := by
          cases hrow.row with
          | some => rfl
        have o2 := (Only.refl (fun _ => False) w1).alloc (.cells #[.int .i64 id, .bool false, .slice none 0 0, .slice a1 ((t :: ts').map Sprout.kid).length c1] 170)
        have hrow2 := row_only hrow.row o2 (fun _ _ => fun q => q)
        obtain ⟨g, off, rfl, _, k1⟩ := row_kid hrow2 (k := 0) (x := t.kid) rfl
        simp only [Nat.zero_mul, Nat.add_zero] at k1
        have HX := Lib.hid (And.intro (hp1.still o2) ((HS.out.1.trans st1).trans (PStep.still hp1.lt o2)))
        have hkp : (0 : Int) < (((t :: ts').map Sprout.kid).length : Int) := by omega
        generalize hnV : ((t :: ts').map Sprout.kid).length = nV at *
        clear hrow hap hp1 st1 o2 hrow2 HLD hnV
        go_wp2_with fail
        go_roundg k
        case measure => omega
        case rel => exact ⟨d + 1, k, t.kid.page, _, _, _, rfl, by omega, by go_num, rfl, HS.out.2, HX.out⟩
end Go.Proofs.YtklccpaphkpgfaaGreat
