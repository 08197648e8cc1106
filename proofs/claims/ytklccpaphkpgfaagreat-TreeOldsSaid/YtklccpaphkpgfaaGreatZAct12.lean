/- The law's own functions: an act on a tree. Conditions: one goroutine; the pages hold the tree of a list's items; there is room. -/
import Derived.Test.YtklccpaphkpgfaaGreatZPlainD
import Derived.Test.YtklccpaphkpgfaaGreatZLight12
import Derived.Test.YtklccpaphkpgfaaGreatZTree12
namespace Go.Proofs.YtklccpaphkpgfaaGreat
open Go.RowKit

/-- What an act comes to: the root, the pages. -/
def actP (S : PSt) (root : Int) (x : Do) : Int × PSt :=
  if x.kind = 2 then match delTree S root x.item.key with
    | (.ok (r, _), p) => (r, p)
    | (.error _, p) => (root, p)
  else if okItem x.item = true then match putTree S root x.item with
    | (.ok r, p) => (r, p)
    | (.error _, p) => (root, p)
  else (root, S)
/-- The same in a list. -/
def actL (h : List Item) (x : Do) : List Item := if x.kind = 2 then (dropL h x.item.key).1 else if okItem x.item = true then putL h x.item else h
theorem act_plays {S : PSt} {root : Int} {h : List Item} {k : Nat} (H : PlaysTo S root h k) (hk : k < 250) (x : Do) : PlaysTo (actP S root x).2 (actP S root x).1 (actL h x) (k + 1) := by
  unfold actP actL
  by_cases h2 : x.kind = 2
  · rw [if_pos h2, if_pos h2]
    rcases plays_drop (k := x.item.key) H hk with ⟨hd, hdt, hpl⟩ | ⟨hd, r, S', hdt, hpl⟩
    · rw [hdt, hd]
      exact hpl
    · rw [hdt]
      exact hpl
  · rw [if_neg h2, if_neg h2]
    by_cases ho : okItem x.item = true
    · rw [if_pos ho, if_pos ho]
      obtain ⟨r, S', hput, hpl⟩ := plays_put H ho hk
      rw [hput]
      exact hpl
    · rw [if_neg ho, if_neg ho]
      exact plays_skip H

/-- How an act ends. -/
def ActEnds (w : World) (b : Nat) (S : PSt) (root : Int) (x : Do) : Ending → World → Prop := fun e w' => e = .returned (.int .i64 (actP S root x).1) ∧ PagesAt w' b (actP S root x).2 ∧ PStep b w w'

set_option maxRecDepth 100000 in
set_option maxHeartbeats 4000000 in
theorem act12_is (w : World) (b : Nat) (S : PSt) (root : Int) (h : List Item) (k : Nat) (x : Do) (hp : PagesAt w b S) (H : PlaysTo S root h k) (hk : k < 250) :
    Calls Tryz.prog 17 #[.pointer (some ⟨b, 0, none⟩), .int .i64 root, .agg #[.int .i64 x.kind, str x.item.key, str x.item.val, .int .i64 x.item.kind]] w (ActEnds w b S root x) := by
  obtain ⟨m, m1, m2, m3, m4⟩ := roomOf_next hk
  obtain ⟨ids, R, _⟩ := H.rooted
  have hfew := H.few
  have hback := H.back
  have hln := H.len
  have hst := H.stop
  have hX := heap_alloc_new w (.cells #[.int .i64 x.kind, str x.item.key, str x.item.val, .int .i64 x.item.kind] 53)
  have oX := (Only.refl (fun _ => False) w).alloc (.cells #[.int .i64 x.kind, str x.item.key, str x.item.val, .int .i64 x.item.kind] 53)
  have e0 := heap_cell hX 0
  have e1 := heap_cell hX 1
  have e2 := heap_cell hX 2
  have e3 := heap_cell hX 3
  simp only [List.getElem?_toArray, List.getElem?_cons_zero, List.getElem?_cons_succ] at e0 e1 e2 e3
  have hp1 := hp.still oX
  have HS1 := Lib.hid (PStep.still hp.lt oX)
  unfold ActEnds actP
  clear hX oX
  by_cases h2 : x.kind = 2
  · rw [if_pos h2]
    rcases plays_drop (k := x.item.key) H hk with ⟨hd, hdt, hpl⟩ | ⟨hd, r, S', hdt, hpl⟩
    · have HB := Lib.hid (tDelete_is _ b S S root root h ids x.item.key false m hp1 R (by omega) (by omega) (by omega) (by omega) (by omega) hdt)
      rw [hdt]
      unfold pagesV at HB
      generalize x.kind = kd at *
      subst h2
      clear hp hp1 hpl hdt hd R H hfew hback hln m1 m2 m3 m4
      go_enter Tryz.func17, Tryz.ntmps17
      go_wp2_with fail
      refine HB.out.mono ?_
      rintro e w4 ⟨rfl, hp4, st4⟩
      have HF := Lib.hid (And.intro hp4 (HS1.out.trans st4))
      clear hp4 st4 HB
      go_wp2_with fail
      go_ret
      exact ⟨rfl, HF.out⟩
    · have HB := Lib.hid (tDelete_is _ b S S' root r h ids x.item.key true m hp1 R (by omega) (by omega) (by omega) (by omega) (by omega) hdt)
      rw [hdt]
      unfold pagesV at HB
      generalize x.kind = kd at *
      subst h2
      clear hp hp1 hpl hdt hd R H hfew hback hln m1 m2 m3 m4
      go_enter Tryz.func17, Tryz.ntmps17
      go_wp2_with fail
      refine HB.out.mono ?_
      rintro e w4 ⟨rfl, hp4, st4⟩
      have HF := Lib.hid (And.intro hp4 (HS1.out.trans st4))
      clear hp4 st4 HB
      go_wp2_with fail
      go_ret
      exact ⟨rfl, HF.out⟩
  · rw [if_neg h2]
    by_cases ho : okItem x.item = true
    · rw [if_pos ho]
      obtain ⟨r, S', hput, hpl⟩ := plays_put H ho hk
      have HB := Lib.hid (tPut_is _ b S S' root r h ids x.item m hp1 ho R (by omega) (by omega) (by omega) (by omega) (by omega) hput)
      rw [hput]
      unfold pagesV itemV itemC at HB
      clear hp hp1 hpl hput R H hfew hback hln m1 m2 m3 m4
      go_enter Tryz.func17, Tryz.ntmps17
      go_wp2_with fail
      refine HB.out.mono ?_
      rintro e w4 ⟨rfl, hp4, st4⟩
      have HF := Lib.hid (And.intro hp4 (HS1.out.trans st4))
      clear hp4 st4 HB
      go_wp2_with fail
      go_ret
      exact ⟨rfl, HF.out⟩
    · rw [if_neg ho]
      have HB := Lib.hid (tPut_bad _ b S root x.item hp1 (by simpa using ho))
      unfold pagesV itemV itemC at HB
      clear hp hp1 R H hfew hback hln m1 m2 m3 m4
      go_enter Tryz.func17, Tryz.ntmps17
      go_wp2_with fail
      refine HB.out.mono ?_
      rintro e w4 ⟨rfl, hp4, st4⟩
      have HF := Lib.hid (And.intro hp4 (HS1.out.trans st4))
      clear hp4 st4 HB
      go_wp2_with fail
      go_ret
      exact ⟨rfl, HF.out⟩
end Go.Proofs.YtklccpaphkpgfaaGreat
