/- The law's book, of items: each list is as it was, and none shares memory with another one. Conditions: one goroutine; each list lies in memory of its own; they are few and short. (Printed by wip/gen/book8.py.) -/
import Derived.Test.YtklccpaphkpgfaaGreatZBook4
import Derived.Test.YtklccpaphkpgfaaGreatZBookB
import Derived.Test.YtklccpaphkpgfaaGreatZBook7
import Derived.Test.YtklccpaphkpgfaaGreatZBookN
namespace Go.Proofs.YtklccpaphkpgfaaGreat
open Go.RowKit

/-- Of the other kinds the book has no list. -/
structure NilsAt (w : World) (k : Nat) : Prop where
  n0 : w.cell? ⟨k, 0, none⟩ = some (.slice none 0 0)
  n2 : w.cell? ⟨k, 2, none⟩ = some (.slice none 0 0)
  n6 : w.cell? ⟨k, 6, none⟩ = some (.slice none 0 0)
  n8 : w.cell? ⟨k, 8, none⟩ = some (.slice none 0 0)
  n10 : w.cell? ⟨k, 10, none⟩ = some (.slice none 0 0)
  n12 : w.cell? ⟨k, 12, none⟩ = some (.slice none 0 0)
  n14 : w.cell? ⟨k, 14, none⟩ = some (.slice none 0 0)
  n16 : w.cell? ⟨k, 16, none⟩ = some (.slice none 0 0)
theorem BookX.nils {w : World} {k : Nat} {vI : Value} {xs : List Value} {ls : List (List Item)} {B : Nat} (h : BookX w k vI xs ls B) : NilsAt w k := by
  obtain ⟨vW, h⟩ := h.heap
  have c0 := heap_cell h 0
  have c2 := heap_cell h 2
  have c6 := heap_cell h 6
  have c8 := heap_cell h 8
  have c10 := heap_cell h 10
  have c12 := heap_cell h 12
  have c14 := heap_cell h 14
  have c16 := heap_cell h 16
  simp only [List.getElem?_toArray, List.getElem?_cons_zero, List.getElem?_cons_succ] at c0 c2 c6 c8 c10 c12 c14 c16
  exact ⟨c0, c2, c6, c8, c10, c12, c14, c16⟩
theorem NilsAt.only {w w' : World} {k : Nat} {T : Nat → Prop} (h : NilsAt w k) (ho : Only T w w') (hT : ¬ T k) : NilsAt w' k :=
  ⟨(ho.cell (p := ⟨k, 0, none⟩) (lt_of_cell h.n0) hT).trans h.n0, (ho.cell (p := ⟨k, 2, none⟩) (lt_of_cell h.n2) hT).trans h.n2, (ho.cell (p := ⟨k, 6, none⟩) (lt_of_cell h.n6) hT).trans h.n6, (ho.cell (p := ⟨k, 8, none⟩) (lt_of_cell h.n8) hT).trans h.n8, (ho.cell (p := ⟨k, 10, none⟩) (lt_of_cell h.n10) hT).trans h.n10, (ho.cell (p := ⟨k, 12, none⟩) (lt_of_cell h.n12) hT).trans h.n12, (ho.cell (p := ⟨k, 14, none⟩) (lt_of_cell h.n14) hT).trans h.n14, (ho.cell (p := ⟨k, 16, none⟩) (lt_of_cell h.n16) hT).trans h.n16⟩
/-- How the question ends. -/
def ApartTold (w : World) (B : Nat) : Ending → World → Prop := fun e w' => e = .returned (.bool true) ∧ Only (fun b => B ≤ b) w w'

set_option maxRecDepth 100000 in
set_option maxHeartbeats 40000000 in
theorem BApart_is (w : World) (k : Nat) (vI vW : Value) (xs ys : List Value) (ls : List (List Item)) (B : Nat) (h : BookAt w k vI vW xs ys ls ls B) (hl : ls.length < 200) (hn : ∀ l ∈ ls, l.length ≤ 900) :
    Calls Tryz.prog 13 #[.pointer (some ⟨k, 0, none⟩)] w (ApartTold w B) := by
  have HH := Lib.hid h
  have HN := Lib.hid (And.intro hl hn)
  have HS := Lib.hid (stillItems_is w k vI vW xs ys ls B h (by omega) (fun l hl => by have := hn l hl; omega))
  have nl := h.x.nils
  have a0 := nl.n0
  have a2 := nl.n2
  have a6 := nl.n6
  have a8 := nl.n8
  have a10 := nl.n10
  have a12 := nl.n12
  have a14 := nl.n14
  have a16 := nl.n16
  clear h hl hn nl
  unfold StillTold at HS
  go_enter Tryz.func13, Tryz.ntmps13
  go_wp2_with fail
  (with_reducible refine (stillTexts_none _ k a0).mono ?_)
  rintro e _ ⟨rfl, rfl⟩
  go_wp2_with fail
  (with_reducible refine (stillInts_none _ k a2).mono ?_)
  rintro e _ ⟨rfl, rfl⟩
  go_wp2_with fail
  (with_reducible refine HS.out.mono ?_)
  rintro e w1 ⟨rfl, o1⟩
  have hX1 := HH.out.x.only o1 (fun q => q) (fun _ _ q => q) (fun _ _ _ _ q => q)
  have HX1 := Lib.hid hX1
  have HO1 : Hid (Only (fun b => B ≤ b) w w1) := Lib.hid (o1.mono (fun _ _ q => q.elim))
  have nl := hX1.nils
  clear a0 a2 a6 a8 a10 a12 a14 a16
  have b0 := nl.n0
  have b2 := nl.n2
  have b6 := nl.n6
  have b8 := nl.n8
  have b10 := nl.n10
  have b12 := nl.n12
  have b14 := nl.n14
  have b16 := nl.n16
  clear o1 hX1 nl HS
  go_wp2_with fail
  (with_reducible refine (stillKids_none _ k b6).mono ?_)
  rintro e _ ⟨rfl, rfl⟩
  go_wp2_with fail
  (with_reducible refine (stillPairs_none _ k b8).mono ?_)
  rintro e _ ⟨rfl, rfl⟩
  go_wp2_with fail
  (with_reducible refine (stillReplies_none _ k b10).mono ?_)
  rintro e _ ⟨rfl, rfl⟩
  go_wp2_with fail
  (with_reducible refine (stillCmds_none _ k b12).mono ?_)
  rintro e _ ⟨rfl, rfl⟩
  go_wp2_with fail
  (with_reducible refine (stillSteps_none _ k b14).mono ?_)
  rintro e _ ⟨rfl, rfl⟩
  go_wp2_with fail
  (with_reducible refine (stillEntries_none _ k b16).mono ?_)
  rintro e _ ⟨rfl, rfl⟩
  go_wp2_with fail
  (with_reducible refine (putSteps_none _ k b14).mono ?_)
  rintro e _ ⟨rfl, rfl⟩
  go_wp2_with fail
  (with_reducible refine (putEntries_none _ k b16).mono ?_)
  rintro e _ ⟨rfl, rfl⟩
  go_wp2_with fail
  (with_reducible refine (putTexts_none _ k b0).mono ?_)
  rintro e _ ⟨rfl, rfl⟩
  go_wp2_with fail
  (with_reducible refine (putInts_none _ k b2).mono ?_)
  rintro e _ ⟨rfl, rfl⟩
  have HP := Lib.hid (putItems_is w1 k vI xs ls B HX1.out (by have := HN.out.1; omega) (fun l hl => by have := HN.out.2 l hl; omega))
  unfold PutTold at HP
  go_wp2_with fail
  (with_reducible refine HP.out.mono ?_)
  rintro e w2 ⟨rfl, hX2, o2⟩
  have HX2 := Lib.hid hX2
  have HO2 := Lib.hid (HO1.out.trans o2 (fun b _ ⟨v, hv, e⟩ => (HX1.out.dk v hv b e).2.2))
  have nl := hX2.nils
  clear b0 b2 b6 b8 b10 b12 b14 b16
  have c0 := nl.n0
  have c2 := nl.n2
  have c6 := nl.n6
  have c8 := nl.n8
  have c10 := nl.n10
  have c12 := nl.n12
  have c14 := nl.n14
  have c16 := nl.n16
  clear o2 hX2 nl HP
  go_wp2_with fail
  (with_reducible refine (putKids_none _ k c6).mono ?_)
  rintro e _ ⟨rfl, rfl⟩
  go_wp2_with fail
  (with_reducible refine (putPairs_none _ k c8).mono ?_)
  rintro e _ ⟨rfl, rfl⟩
  go_wp2_with fail
  (with_reducible refine (putReplies_none _ k c10).mono ?_)
  rintro e _ ⟨rfl, rfl⟩
  go_wp2_with fail
  (with_reducible refine (putCmds_none _ k c12).mono ?_)
  rintro e _ ⟨rfl, rfl⟩
  go_wp2_with fail
  (with_reducible refine (growTexts_none _ k c0).mono ?_)
  rintro e _ ⟨rfl, rfl⟩
  go_wp2_with fail
  (with_reducible refine (growInts_none _ k c2).mono ?_)
  rintro e _ ⟨rfl, rfl⟩
  have HGR := Lib.hid (growItems_is w2 k vI xs (marksTo ls ls.length) B HX2.out (by rw [marksTo_length]; have := HN.out.1; omega) (fun l hl => by
    obtain ⟨j, hj⟩ := List.getElem?_of_mem hl
    rw [marksTo_at] at hj
    cases hm : ls[j]? with
    | none => rw [hm] at hj; cases hj
    | some m =>
      rw [hm, Option.map_some] at hj
      have := HN.out.2 m (List.mem_of_getElem? hm)
      have h2 := Option.some.inj hj
      rw [← h2]
      split
      · rw [marksI_length]; omega
      · omega))
  unfold GrowTold at HGR
  go_wp2_with fail
  (with_reducible refine HGR.out.mono ?_)
  rintro e w3 ⟨ov, gs, rfl, G3⟩
  have HG3 := Lib.hid G3
  have hk2 : ¬ ∃ v ∈ xs, OwnB v k := fun ⟨v, hv, e⟩ => (HX2.out.dk v hv k e).1 rfl
  have HO3 := Lib.hid (HO2.out.trans G3.only (fun b _ ⟨v, hv, e⟩ => (HX2.out.dk v hv b e).2.2))
  have nl := HX2.out.nils.only G3.only hk2
  have HI3 := Lib.hid (own_only HX2.out.rowI G3.only (fun b e ⟨v, hv, q⟩ => (HX2.out.dk v hv b q).2.1 e))
  obtain ⟨aO, cO, rfl⟩ := ownsRow_form G3.own
  have c4 : w3.cell? ⟨k, 4, none⟩ = some vI := by
    obtain ⟨vW2, hheap⟩ := HX2.out.heap
    have d4 := heap_cell hheap 4
    simp only [List.getElem?_toArray, List.getElem?_cons_zero, List.getElem?_cons_succ] at d4
    exact (G3.only.cell (p := ⟨k, 4, none⟩) (lt_of_cell d4) hk2).trans d4
  clear c0 c2 c6 c8 c10 c12 c14 c16
  have d0 := nl.n0
  have d2 := nl.n2
  have d6 := nl.n6
  have d8 := nl.n8
  have d10 := nl.n10
  have d12 := nl.n12
  have d14 := nl.n14
  have d16 := nl.n16
  clear G3 nl HGR hk2
  go_wp2_with fail
  (with_reducible refine (growKids_none _ k d6).mono ?_)
  rintro e _ ⟨rfl, rfl⟩
  go_wp2_with fail
  (with_reducible refine (growPairs_none _ k d8).mono ?_)
  rintro e _ ⟨rfl, rfl⟩
  go_wp2_with fail
  (with_reducible refine (growReplies_none _ k d10).mono ?_)
  rintro e _ ⟨rfl, rfl⟩
  go_wp2_with fail
  (with_reducible refine (growCmds_none _ k d12).mono ?_)
  rintro e _ ⟨rfl, rfl⟩
  go_wp2_with fail
  (with_reducible refine (growSteps_none _ k d14).mono ?_)
  rintro e _ ⟨rfl, rfl⟩
  go_wp2_with fail
  (with_reducible refine (growEntries_none _ k d16).mono ?_)
  rintro e _ ⟨rfl, rfl⟩
  have hml : ∀ (j : Nat) (l : List Item), (marksTo ls ls.length)[j]? = some l → l = marksI j 0 l.length ∧ l.length ≤ 900 := fun j l hl => by
    rw [marksTo_at] at hl
    cases hm : ls[j]? with
    | none => rw [hm] at hl; cases hl
    | some m =>
      rw [hm, Option.map_some, if_pos (List.getElem?_eq_some_iff.1 hm).1] at hl
      have h2 := Option.some.inj hl
      rw [← h2, marksI_length]
      exact ⟨rfl, HN.out.2 m (List.mem_of_getElem? hm)⟩
  have HML := Lib.hid hml
  have hgat : ∀ (j : Nat) (l : List Item), ((marksTo ls ls.length).mapIdx fun j l => l ++ marksI j l.length 72)[j]? = some l → ∃ m, (marksTo ls ls.length)[j]? = some m ∧ l = m ++ marksI j m.length 72 := fun j l hl => by
    rw [List.getElem?_mapIdx] at hl
    cases hm : (marksTo ls ls.length)[j]? with
    | none => rw [hm] at hl; cases hl
    | some m => rw [hm] at hl; exact ⟨m, rfl, (Option.some.inj hl).symm⟩
  have HMA : Hid (∀ W, Only (fun _ => False) w3 W → Calls Tryz.prog 65 #[.slice aO gs.length cO] W (StillTold W)) := Lib.hid fun W hW => by
    refine markedItems_is W _ gs ((marksTo ls ls.length).mapIdx fun j l => l ++ marksI j l.length 72) (own_only HG3.out.own hW (fun _ _ q => q)) (fun j g l a b => ?_) ?_ (fun j l b => ?_) ?_ (fun l b => ?_)
    · obtain ⟨m, hm, rfl⟩ := hgat j l b
      exact row_only (HG3.out.grown j g m a hm) hW (fun _ _ q => q)
    · rw [HG3.out.len, List.length_mapIdx, marksTo_length]
    · obtain ⟨m, hm, rfl⟩ := hgat j l b
      have e := (HML.out j m hm).1
      rw [List.length_append, marksI_length, marksI_more, Nat.zero_add, ← e]
    · rw [List.length_mapIdx, marksTo_length]; have := HN.out.1; omega
    · obtain ⟨j, hj⟩ := List.getElem?_of_mem b
      obtain ⟨m, hm, rfl⟩ := hgat j l hj
      rw [List.length_append, marksI_length]
      have := (HML.out j m hm).2; omega
  have HMB : Hid (∀ W, Only (fun _ => False) w3 W → Calls Tryz.prog 65 #[vI] W (StillTold W)) := Lib.hid fun W hW => by
    refine markedItems_is W _ xs (marksTo ls ls.length) (own_only HI3.out hW (fun _ _ q => q)) (fun j x l a b => row_only (HG3.out.xrow j x l a b) hW (fun _ _ q => q)) (by rw [marksTo_length]; exact HX1.out.len) (fun j l b => (HML.out j l b).1) (by rw [marksTo_length]; have := HN.out.1; omega) (fun l b => ?_)
    obtain ⟨j, hj⟩ := List.getElem?_of_mem b
    have := (HML.out j l hj).2; omega
  have hk3 := lt_of_cell c4
  obtain ⟨aI, cI, rfl⟩ := ownsRow_form HI3.out
  clear hml hgat
  unfold StillTold at HMA HMB
  go_wp2_with fail
  (with_reducible refine (markedTexts_none _).mono ?_)
  rintro e _ ⟨rfl, rfl⟩
  go_wp2_with fail
  (with_reducible refine (markedTexts_none _).mono ?_)
  rintro e _ ⟨rfl, rfl⟩
  go_wp2_with fail
  (with_reducible refine (markedInts_none _).mono ?_)
  rintro e _ ⟨rfl, rfl⟩
  go_wp2_with fail
  (with_reducible refine (markedInts_none _).mono ?_)
  rintro e _ ⟨rfl, rfl⟩
  go_wp2_with fail
  (with_reducible refine (HMA.out _ (Only.refl _ _)).mono ?_)
  rintro e w4 ⟨rfl, o4⟩
  have e4 := (o4.cell (p := ⟨k, 4, none⟩) hk3 (fun q => q)).trans c4
  have HMB4 := Lib.hid (HMB.out w4 o4)
  have HO4 := Lib.hid (HO3.out.trans o4 (fun _ _ q => q.elim))
  have f6 := (o4.cell (p := ⟨k, 6, none⟩) hk3 (fun q => q)).trans d6
  have f8 := (o4.cell (p := ⟨k, 8, none⟩) hk3 (fun q => q)).trans d8
  have f10 := (o4.cell (p := ⟨k, 10, none⟩) hk3 (fun q => q)).trans d10
  have f12 := (o4.cell (p := ⟨k, 12, none⟩) hk3 (fun q => q)).trans d12
  have f14 := (o4.cell (p := ⟨k, 14, none⟩) hk3 (fun q => q)).trans d14
  have f16 := (o4.cell (p := ⟨k, 16, none⟩) hk3 (fun q => q)).trans d16
  clear d0 d2 d6 d8 d10 d12 d14 d16 HMA HMB c4
  go_wp2_with fail
  (with_reducible refine HMB4.out.mono ?_)
  rintro e w5 ⟨rfl, o5⟩
  have HO5 := Lib.hid (HO4.out.trans o5 (fun _ _ q => q.elim))
  have hk4 := Nat.lt_of_lt_of_le hk3 o4.size
  have g6 := (o5.cell (p := ⟨k, 6, none⟩) hk4 (fun q => q)).trans f6
  have g8 := (o5.cell (p := ⟨k, 8, none⟩) hk4 (fun q => q)).trans f8
  have g10 := (o5.cell (p := ⟨k, 10, none⟩) hk4 (fun q => q)).trans f10
  have g12 := (o5.cell (p := ⟨k, 12, none⟩) hk4 (fun q => q)).trans f12
  have g14 := (o5.cell (p := ⟨k, 14, none⟩) hk4 (fun q => q)).trans f14
  have g16 := (o5.cell (p := ⟨k, 16, none⟩) hk4 (fun q => q)).trans f16
  clear o4 o5 e4 HMB4 f6 f8 f10 f12 f14 f16
  go_wp2_with fail
  (with_reducible refine (markedKids_none _).mono ?_)
  rintro e _ ⟨rfl, rfl⟩
  go_wp2_with fail
  (with_reducible refine (markedKids_none _).mono ?_)
  rintro e _ ⟨rfl, rfl⟩
  go_wp2_with fail
  (with_reducible refine (markedPairs_none _).mono ?_)
  rintro e _ ⟨rfl, rfl⟩
  go_wp2_with fail
  (with_reducible refine (markedPairs_none _).mono ?_)
  rintro e _ ⟨rfl, rfl⟩
  go_wp2_with fail
  (with_reducible refine (markedReplies_none _).mono ?_)
  rintro e _ ⟨rfl, rfl⟩
  go_wp2_with fail
  (with_reducible refine (markedReplies_none _).mono ?_)
  rintro e _ ⟨rfl, rfl⟩
  go_wp2_with fail
  (with_reducible refine (markedCmds_none _).mono ?_)
  rintro e _ ⟨rfl, rfl⟩
  go_wp2_with fail
  (with_reducible refine (markedCmds_none _).mono ?_)
  rintro e _ ⟨rfl, rfl⟩
  go_wp2_with fail
  (with_reducible refine (markedSteps_none _).mono ?_)
  rintro e _ ⟨rfl, rfl⟩
  go_wp2_with fail
  (with_reducible refine (markedSteps_none _).mono ?_)
  rintro e _ ⟨rfl, rfl⟩
  go_wp2_with fail
  (with_reducible refine (markedEntries_none _).mono ?_)
  rintro e _ ⟨rfl, rfl⟩
  go_wp2_with fail
  (with_reducible refine (markedEntries_none _).mono ?_)
  rintro e _ ⟨rfl, rfl⟩
  go_wp2_with fail
  go_ret
  exact ⟨rfl, HO5.out⟩
end Go.Proofs.YtklccpaphkpgfaaGreat
