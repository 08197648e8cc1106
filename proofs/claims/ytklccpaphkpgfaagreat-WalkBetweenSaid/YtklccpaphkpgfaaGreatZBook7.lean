/- The law's book, of items: has each list the marks that it was given? Conditions: one goroutine; the lists lie in memory; they are few and short. -/
import Derived.Test.YtklccpaphkpgfaaGreatZBookA
namespace Go.Proofs.YtklccpaphkpgfaaGreat
open Go.RowKit

set_option maxRecDepth 100000 in
set_option maxHeartbeats 8000000 in
theorem markedItems_is (w : World) (v : Value) (gs : List Value) (ls : List (List Item)) (own : w.ownsRow 0 22 1 v gs.length gs) (rows : ∀ (j : Nat) (g : Value) (l : List Item), gs[j]? = some g → ls[j]? = some l → RowAt itemC 3 w g l) (hlen : gs.length = ls.length)
    (hm : ∀ (j : Nat) (l : List Item), ls[j]? = some l → l = marksI j 0 l.length) (hl : ls.length < 250) (hn : ∀ l ∈ ls, l.length ≤ 100000) :
    Calls Tryz.prog 65 #[v] w (StillTold w) := by
  obtain ⟨n, hnx⟩ : ∃ n, gs.length = n := ⟨_, rfl⟩
  have hn250 : n < 250 := by omega
  rw [hnx] at own
  obtain ⟨aG, cG, rfl⟩ := ownsRow_form own
  have HH := Lib.hid (And.intro rows (And.intro hm (And.intro hn (And.intro hnx (show ls.length = n by omega)))))
  have HOW := Lib.hid own
  clear rows hm hn hnx hlen hl own
  go_enter Tryz.func65, Tryz.ntmps65
  go_wp2_with fail
  go_loopg [3] n (fun gh iv wr => ∃ i : Nat, gh + i = n ∧ iv = .int .i64 i ∧ Only (fun _ => False) w wr)
  case atStart => exact ⟨0, by omega, rfl, Only.refl _ w⟩
  case round =>
    obtain ⟨i, hgi, rfl, ho⟩ := hrel
    have HO := Lib.hid ho
    clear ho
    by_cases hi : i < n
    · as_aux_lemma =>
      have hi2 : (i : Int) < (n : Int) := by omega
      have hi3 : (0 : Int) ≤ (i : Int) := by omega
      have hw1 : IntKind.i64.wrap ((i : Int) + 1) = (i : Int) + 1 := by exact IntWalk.i64_in _ (by omega)
      obtain ⟨rows, hm, hn, hnx, hln⟩ := HH.out
      obtain ⟨g, hg⟩ : ∃ g, gs[i]? = some g := ⟨_, List.getElem?_eq_getElem (by omega)⟩
      obtain ⟨l, hl⟩ : ∃ l, ls[i]? = some l := ⟨_, List.getElem?_eq_getElem (by omega)⟩
      obtain ⟨gG, rfl⟩ : ∃ g, aG = some ⟨g, 0, none⟩ := (own_addr HOW.out).resolve_left (fun q => by have := q.2.1; omega)
      have ex0 := own_cell HOW.out i g hg
      have rg := row_only (rows i g l hg hl) HO.out (fun _ _ q => q)
      obtain ⟨aX, cX, rfl⟩ := row_form rg
      have ex := (HO.out.cell (p := ⟨gG, i, none⟩) (lt_of_cell ex0) (fun q => q)).trans ex0
      have hll := hn l (List.mem_of_getElem? hl)
      have hml := hm i l hl
      have HM : Hid (∀ W, Calls Tryz.prog 100 #[.int .i64 (i : Int), .int .i64 0, .int .i64 (l.length : Int)] W (OwnTold W l)) := Lib.hid (fun W => by
        have := markI_is W i 0 l.length (by omega) (by omega)
        rw [← hml] at this
        exact this)
      have HRG := Lib.hid rg
      have hll2 := Lib.hid hll
      clear rows hm hn hnx hln hg hl ex0 rg hml hll HOW HH
      unfold OwnTold at HM
      go_wp2_with fail
      go_region_law (first
        | (rw [if_pos (by simp [Region.wanted])]; go_simp; (with_reducible refine (HM.out _).mono ?_); rintro e w4 ⟨vm, rfl, hvm, o4, hvn⟩; obtain ⟨aM, cM, rfl⟩ := ownsRow_form hvm; have o5 : Only (fun _ => False) wr w4 := (by first | exact o4 | exact ((Only.refl _ wr).drew).trans o4 (fun _ _ q => q)); have ex4 := (o5.cell (p := ⟨gG, i, none⟩) (lt_of_cell ex) (fun q => q)).trans ex; have HS := Lib.hid (SameI_is w4 _ _ l (row_only HRG.out o5 (fun _ _ q => q)) (row_own (fun _ => rfl) hvm) (by have := hll2.out; omega)); have HO4 := Lib.hid (HO.out.trans o5 (fun _ _ q => q)); clear hvm o4 hvn o5)
        | (rw [if_pos (by simp [Region.wanted])]; go_simp; (with_reducible refine HS.out.mono ?_); rintro e w6 ⟨rfl, o6⟩; have HF := Lib.hid (HO4.out.trans o6 (fun _ _ q => q)); clear o6))
      all_goals
        go_wp2_with fail
        go_roundg (gk - 1)
        case measure => omega
        case rel => exact ⟨i + 1, by omega, by go_num, HF.out⟩
    · obtain rfl : i = n := by omega
      have hi2 : ¬ (i : Int) < (i : Int) := by omega
      go_wp2_with fail
      go_ret
      exact ⟨rfl, HO.out⟩
end Go.Proofs.YtklccpaphkpgfaaGreat
