/- The law's book, with lists of texts: each list is as it was, and none shares memory with another one. Conditions: one goroutine; each list lies in memory of its own; they are few and short. (Printed by wip/gen/bkapart.py.) -/
import Derived.Test.YtbhiamcmiopnoaaGreatDoorZBkN
import Derived.Test.YtbhiamcmiopnoaaGreatDoorZBkTC
namespace Go.Proofs.YtbhiamcmiopnoaaGreatDoor.bk
open Go.RowKit

/-- When all has grown: are the marks where they should be? -/
theorem marksT_both (w3 : World) (vI : Value) (xs : List Value) (ls : List (List Bytes)) (ov : Value) (gs : List Value) (hI : w3.ownsRow 0 37 1 vI xs.length xs) (hlen : xs.length = ls.length) (hgl : gs.length = ls.length)
    (hO : w3.ownsRow 0 37 1 ov gs.length gs) (hg : ∀ (j : Nat) (g : Value) (l : List Bytes), gs[j]? = some g → (marksTo markT ls ls.length)[j]? = some l → RowAt txtC 1 w3 g (l ++ marks markT j l.length 72))
    (hx : ∀ (j : Nat) (x : Value) (l : List Bytes), xs[j]? = some x → (marksTo markT ls ls.length)[j]? = some l → RowAt txtC 1 w3 x l) (hl : ls.length < 200) (hn : ∀ l ∈ ls, l.length ≤ 900) :
    ∀ W, Only (fun _ => False) w3 W → Calls Tryz.prog 78 #[ov] W (StillTold W) ∧ Calls Tryz.prog 78 #[vI] W (StillTold W) := by
  have hml : ∀ (j : Nat) (l : List Bytes), (marksTo markT ls ls.length)[j]? = some l → l = marks markT j 0 l.length ∧ l.length ≤ 900 := fun j l hl => by
    rw [marksTo_at] at hl
    cases hm : ls[j]? with
    | none => rw [hm] at hl; cases hl
    | some m =>
      rw [hm, Option.map_some, if_pos (List.getElem?_eq_some_iff.1 hm).1] at hl
      have h2 := Option.some.inj hl
      rw [← h2, marks_length]
      exact ⟨rfl, hn m (List.mem_of_getElem? hm)⟩
  have hgat : ∀ (j : Nat) (l : List Bytes), ((marksTo markT ls ls.length).mapIdx fun j l => l ++ marks markT j l.length 72)[j]? = some l → ∃ m, (marksTo markT ls ls.length)[j]? = some m ∧ l = m ++ marks markT j m.length 72 := fun j l hl => by
    rw [List.getElem?_mapIdx] at hl
    cases hm : (marksTo markT ls ls.length)[j]? with
    | none => rw [hm] at hl; cases hl
    | some m => rw [hm] at hl; exact ⟨m, rfl, (Option.some.inj hl).symm⟩
  intro W hW
  constructor
  · refine markedT_is W _ gs ((marksTo markT ls ls.length).mapIdx fun j l => l ++ marks markT j l.length 72) (own_only hO hW (fun _ _ q => q)) (fun j g l a b => ?_) ?_ (fun j l b => ?_) ?_ (fun l b => ?_)
    · obtain ⟨m, hm, rfl⟩ := hgat j l b
      exact row_only (hg j g m a hm) hW (fun _ _ q => q)
    · rw [hgl, List.length_mapIdx, marksTo_length]
    · obtain ⟨m, hm, rfl⟩ := hgat j l b
      have e := (hml j m hm).1
      rw [List.length_append, marks_length, marks_more, Nat.zero_add, ← e]
    · rw [List.length_mapIdx, marksTo_length]; omega
    · obtain ⟨j, hj⟩ := List.getElem?_of_mem b
      obtain ⟨m, hm, rfl⟩ := hgat j l hj
      rw [List.length_append, marks_length]
      have := (hml j m hm).2; omega
  · refine markedT_is W _ xs (marksTo markT ls ls.length) (own_only hI hW (fun _ _ q => q)) (fun j x l a b => row_only (hx j x l a b) hW (fun _ _ q => q)) (by rw [marksTo_length]; exact hlen) (fun j l b => (hml j l b).1) (by rw [marksTo_length]; omega) (fun l b => ?_)
    obtain ⟨j, hj⟩ := List.getElem?_of_mem b
    have := (hml j l hj).2; omega
/-- How the question ends. -/
def ApartTold (w : World) (B : Nat) : Ending → World → Prop := fun e w' => e = .returned (.bool true) ∧ Only (fun b => B ≤ b) w w'

theorem longT {ls : List (List Bytes)} (hn : ∀ l ∈ ls, l.length ≤ 900) : ∀ l ∈ marksTo markT ls ls.length, l.length ≤ 1000 := fun l hl => by
  obtain ⟨j, hj⟩ := List.getElem?_of_mem hl
  rw [marksTo_at] at hj
  cases hm : ls[j]? with
  | none => rw [hm] at hj; cases hj
  | some m =>
    rw [hm, Option.map_some] at hj
    have := hn m (List.mem_of_getElem? hm)
    have h2 := Option.some.inj hj
    rw [← h2]
    split
    · rw [marks_length]; omega
    · omega

set_option maxRecDepth 100000 in
set_option maxHeartbeats 40000000 in
theorem BApart_is (w : World) (k B : Nat) (cs : Array Value) (vIT vWT : Value) (xsT ysT : List Value) (lsT : List (List Bytes)) (hT : BookAt txtC 1 9 37 0 w k cs vIT vWT xsT ysT lsT lsT B) (hlT : lsT.length < 200) (hnT : ∀ l ∈ lsT, l.length ≤ 900)  (n2 : cs[2]? = some (.slice none 0 0)) (n4 : cs[4]? = some (.slice none 0 0)) (n6 : cs[6]? = some (.slice none 0 0)) (n8 : cs[8]? = some (.slice none 0 0)) (n10 : cs[10]? = some (.slice none 0 0)) (n12 : cs[12]? = some (.slice none 0 0)) (n14 : cs[14]? = some (.slice none 0 0)) (n16 : cs[16]? = some (.slice none 0 0)) :
    Calls Tryz.prog 17 #[.pointer (some ⟨k, 0, none⟩)] w (ApartTold w B) := by
  have HP0 := Lib.hid hT.x.heap
  have HO0 : Hid (Only (fun b => B ≤ b) w w) := Lib.hid (Only.refl _ w)
  have LT := Lib.hid (And.intro hlT hnT)
  have XKT : Hid (¬ ∃ v ∈ xsT, OwnB v k) := Lib.hid (fun ⟨v, hv, e⟩ => (hT.x.dk v hv k e).1 rfl)
  have XIT : Hid (∀ b, OwnB vIT b → ¬ ∃ v ∈ xsT, OwnB v b) := Lib.hid (fun b e ⟨v, hv, q⟩ => (hT.x.dk v hv b q).2.1 e)
  have XBT : Hid (∀ b, (∃ v ∈ xsT, OwnB v b) → B ≤ b ∧ b < w.heap.size) := Lib.hid (fun b ⟨v, hv, q⟩ => ⟨(hT.x.dk v hv b q).2.2, hT.x.xlt hv q⟩)
  have XLT := Lib.hid hT.x.len
  have HAT0 := Lib.hid hT
  clear hT hlT hnT 
  go_enter Tryz.func17, Tryz.ntmps17
  have HS := Lib.hid (stillT_is w k cs vIT vWT xsT ysT lsT B HAT0.out (by have := LT.out.1; omega) (fun l hl => by have := LT.out.2 l hl; omega))
  unfold StillTold at HS
  go_wp2_with fail
  (with_reducible refine HS.out.mono ?_)
  rintro e w1 ⟨rfl, o⟩
  have HAT1 := Lib.hid (HAT0.out.still o)
  have HP1 := Lib.hid HAT1.out.x.heap
  have HO1 := Lib.hid (HO0.out.trans o (fun _ _ q => q.elim))
  clear HS o HAT0 HP0 HO0
  go_wp2_with fail
  (with_reducible refine (stillInts_none _ k ((blk_cell HP1.out 2).trans n2)).mono ?_)
  rintro e _ ⟨rfl, rfl⟩
  go_wp2_with fail
  (with_reducible refine (stillItems_none _ k ((blk_cell HP1.out 4).trans n4)).mono ?_)
  rintro e _ ⟨rfl, rfl⟩
  go_wp2_with fail
  (with_reducible refine (stillKids_none _ k ((blk_cell HP1.out 6).trans n6)).mono ?_)
  rintro e _ ⟨rfl, rfl⟩
  go_wp2_with fail
  (with_reducible refine (stillPairs_none _ k ((blk_cell HP1.out 8).trans n8)).mono ?_)
  rintro e _ ⟨rfl, rfl⟩
  go_wp2_with fail
  (with_reducible refine (stillReplies_none _ k ((blk_cell HP1.out 10).trans n10)).mono ?_)
  rintro e _ ⟨rfl, rfl⟩
  go_wp2_with fail
  (with_reducible refine (stillCmds_none _ k ((blk_cell HP1.out 12).trans n12)).mono ?_)
  rintro e _ ⟨rfl, rfl⟩
  go_wp2_with fail
  (with_reducible refine (stillSteps_none _ k ((blk_cell HP1.out 14).trans n14)).mono ?_)
  rintro e _ ⟨rfl, rfl⟩
  go_wp2_with fail
  (with_reducible refine (stillEntries_none _ k ((blk_cell HP1.out 16).trans n16)).mono ?_)
  rintro e _ ⟨rfl, rfl⟩
  have HXT1 := Lib.hid HAT1.out.x
  clear HAT1
  go_wp2_with fail
  (with_reducible refine (putSteps_none _ k ((blk_cell HP1.out 14).trans n14)).mono ?_)
  rintro e _ ⟨rfl, rfl⟩
  go_wp2_with fail
  (with_reducible refine (putEntries_none _ k ((blk_cell HP1.out 16).trans n16)).mono ?_)
  rintro e _ ⟨rfl, rfl⟩
  have HS := Lib.hid (putT_is w1 k cs vIT xsT lsT B HXT1.out (by have := LT.out.1; omega) (fun l hl => by have := LT.out.2 l hl; omega))
  unfold PutTold at HS
  go_wp2_with fail
  (with_reducible refine HS.out.mono ?_)
  rintro e w2 ⟨rfl, hX, o⟩
  have HXT2 := Lib.hid hX
  have HP2 := Lib.hid HXT2.out.heap
  have HO2 := Lib.hid (HO1.out.trans o (fun b _ q => (XBT.out b q).1))
  clear HS hX o HXT1 HP1 HO1
  go_wp2_with fail
  (with_reducible refine (putInts_none _ k ((blk_cell HP2.out 2).trans n2)).mono ?_)
  rintro e _ ⟨rfl, rfl⟩
  go_wp2_with fail
  (with_reducible refine (putItems_none _ k ((blk_cell HP2.out 4).trans n4)).mono ?_)
  rintro e _ ⟨rfl, rfl⟩
  go_wp2_with fail
  (with_reducible refine (putKids_none _ k ((blk_cell HP2.out 6).trans n6)).mono ?_)
  rintro e _ ⟨rfl, rfl⟩
  go_wp2_with fail
  (with_reducible refine (putPairs_none _ k ((blk_cell HP2.out 8).trans n8)).mono ?_)
  rintro e _ ⟨rfl, rfl⟩
  go_wp2_with fail
  (with_reducible refine (putReplies_none _ k ((blk_cell HP2.out 10).trans n10)).mono ?_)
  rintro e _ ⟨rfl, rfl⟩
  go_wp2_with fail
  (with_reducible refine (putCmds_none _ k ((blk_cell HP2.out 12).trans n12)).mono ?_)
  rintro e _ ⟨rfl, rfl⟩
  have HS := Lib.hid (growT_is w2 k cs vIT xsT (marksTo markT lsT lsT.length) B HXT2.out (by rw [marksTo_length]; have := LT.out.1; omega) (longT LT.out.2))
  unfold GrowTold at HS
  go_wp2_with fail
  (with_reducible refine HS.out.mono ?_)
  rintro e w3 ⟨ovT, gsT, rfl, G⟩
  have HIT3 := Lib.hid (own_only HXT2.out.rowI G.only XIT.out)
  have HTT3 := Lib.hid (And.intro G.own (And.intro G.grown G.xrow))
  have HGT := Lib.hid G
  have HBT := Lib.hid HXT2.out
  have HZT := Lib.hid HO2.out.size
  have HLT := Lib.hid G.len
  have HP3 := Lib.hid ((G.only.block k (blk_lt HP2.out) XKT.out).trans HP2.out)
  have HO3 := Lib.hid (HO2.out.trans G.only (fun b _ q => (XBT.out b q).1))
  clear HS HXT2 HP2 HO2
  obtain ⟨aT, cT, rfl⟩ := ownsRow_form G.own
  clear G
  go_wp2_with fail
  (with_reducible refine (growInts_none _ k ((blk_cell HP3.out 2).trans n2)).mono ?_)
  rintro e _ ⟨rfl, rfl⟩
  go_wp2_with fail
  (with_reducible refine (growItems_none _ k ((blk_cell HP3.out 4).trans n4)).mono ?_)
  rintro e _ ⟨rfl, rfl⟩
  go_wp2_with fail
  (with_reducible refine (growKids_none _ k ((blk_cell HP3.out 6).trans n6)).mono ?_)
  rintro e _ ⟨rfl, rfl⟩
  go_wp2_with fail
  (with_reducible refine (growPairs_none _ k ((blk_cell HP3.out 8).trans n8)).mono ?_)
  rintro e _ ⟨rfl, rfl⟩
  go_wp2_with fail
  (with_reducible refine (growReplies_none _ k ((blk_cell HP3.out 10).trans n10)).mono ?_)
  rintro e _ ⟨rfl, rfl⟩
  go_wp2_with fail
  (with_reducible refine (growCmds_none _ k ((blk_cell HP3.out 12).trans n12)).mono ?_)
  rintro e _ ⟨rfl, rfl⟩
  go_wp2_with fail
  (with_reducible refine (growSteps_none _ k ((blk_cell HP3.out 14).trans n14)).mono ?_)
  rintro e _ ⟨rfl, rfl⟩
  go_wp2_with fail
  (with_reducible refine (growEntries_none _ k ((blk_cell HP3.out 16).trans n16)).mono ?_)
  rintro e _ ⟨rfl, rfl⟩
  have HMT := Lib.hid (marksT_both w3 vIT xsT lsT _ gsT HIT3.out XLT.out (HLT.out.trans (marksTo_length _ _ _)) HTT3.out.1 HTT3.out.2.1 HTT3.out.2.2 LT.out.1 LT.out.2)
  have HQT := Lib.hid HBT.out.atI
  unfold StillTold at HMT
  have HW3 : Hid (Only (fun _ => False) w3 w3) := Lib.hid (Only.refl _ _)
  clear HIT3 HTT3 HGT HBT HZT HLT
  go_wp2_with fail
  (with_reducible refine (HMT.out _ HW3.out).1.mono ?_)
  rintro e w4 ⟨rfl, o⟩
  have HP4 := Lib.hid ((o.block k (blk_lt HP3.out) id).trans HP3.out)
  have HO4 := Lib.hid (HO3.out.trans o (fun _ _ q => q.elim))
  have HW4 := Lib.hid (HW3.out.trans o (fun _ _ q => q))
  clear o HP3 HO3 HW3
  have ck := (blk_cell HP4.out 0).trans HQT.out
  go_wp2_with fail
  (with_reducible refine (HMT.out _ HW4.out).2.mono ?_)
  rintro e w5 ⟨rfl, o⟩
  have HP5 := Lib.hid ((o.block k (blk_lt HP4.out) id).trans HP4.out)
  have HO5 := Lib.hid (HO4.out.trans o (fun _ _ q => q.elim))
  have HW5 := Lib.hid (HW4.out.trans o (fun _ _ q => q))
  clear o HP4 HO4 HW4 ck
  go_wp2_with fail
  (with_reducible refine (markedInts_none _).mono ?_)
  rintro e _ ⟨rfl, rfl⟩
  have ck := (blk_cell HP5.out 2).trans n2
  go_wp2_with fail
  (with_reducible refine (markedInts_none _).mono ?_)
  rintro e _ ⟨rfl, rfl⟩
  clear ck
  go_wp2_with fail
  (with_reducible refine (markedItems_none _).mono ?_)
  rintro e _ ⟨rfl, rfl⟩
  have ck := (blk_cell HP5.out 4).trans n4
  go_wp2_with fail
  (with_reducible refine (markedItems_none _).mono ?_)
  rintro e _ ⟨rfl, rfl⟩
  clear ck
  go_wp2_with fail
  (with_reducible refine (markedKids_none _).mono ?_)
  rintro e _ ⟨rfl, rfl⟩
  have ck := (blk_cell HP5.out 6).trans n6
  go_wp2_with fail
  (with_reducible refine (markedKids_none _).mono ?_)
  rintro e _ ⟨rfl, rfl⟩
  clear ck
  go_wp2_with fail
  (with_reducible refine (markedPairs_none _).mono ?_)
  rintro e _ ⟨rfl, rfl⟩
  have ck := (blk_cell HP5.out 8).trans n8
  go_wp2_with fail
  (with_reducible refine (markedPairs_none _).mono ?_)
  rintro e _ ⟨rfl, rfl⟩
  clear ck
  go_wp2_with fail
  (with_reducible refine (markedReplies_none _).mono ?_)
  rintro e _ ⟨rfl, rfl⟩
  have ck := (blk_cell HP5.out 10).trans n10
  go_wp2_with fail
  (with_reducible refine (markedReplies_none _).mono ?_)
  rintro e _ ⟨rfl, rfl⟩
  clear ck
  go_wp2_with fail
  (with_reducible refine (markedCmds_none _).mono ?_)
  rintro e _ ⟨rfl, rfl⟩
  have ck := (blk_cell HP5.out 12).trans n12
  go_wp2_with fail
  (with_reducible refine (markedCmds_none _).mono ?_)
  rintro e _ ⟨rfl, rfl⟩
  clear ck
  go_wp2_with fail
  (with_reducible refine (markedSteps_none _).mono ?_)
  rintro e _ ⟨rfl, rfl⟩
  have ck := (blk_cell HP5.out 14).trans n14
  go_wp2_with fail
  (with_reducible refine (markedSteps_none _).mono ?_)
  rintro e _ ⟨rfl, rfl⟩
  clear ck
  go_wp2_with fail
  (with_reducible refine (markedEntries_none _).mono ?_)
  rintro e _ ⟨rfl, rfl⟩
  have ck := (blk_cell HP5.out 16).trans n16
  go_wp2_with fail
  (with_reducible refine (markedEntries_none _).mono ?_)
  rintro e _ ⟨rfl, rfl⟩
  clear ck
  go_wp2_with fail
  go_ret
  exact ⟨rfl, HO5.out⟩
end Go.Proofs.YtbhiamcmiopnoaaGreatDoor.bk
