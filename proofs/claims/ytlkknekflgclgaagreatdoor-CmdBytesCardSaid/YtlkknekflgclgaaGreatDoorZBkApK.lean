/- The law's book, with lists of replies and cmds: each list is as it was, and none shares memory with another one. Conditions: one goroutine; each list lies in memory of its own; they are few and short. (Printed by wip/gen/bkapart.py.) -/
import Derived.Test.YtlkknekflgclgaaGreatDoorZBkN
import Derived.Test.YtlkknekflgclgaaGreatDoorZBkRC
import Derived.Test.YtlkknekflgclgaaGreatDoorZBkCC
namespace Go.Proofs.YtlkknekflgclgaaGreatDoor.bk
open Go.RowKit

/-- When all has grown: are the marks where they should be? -/
theorem marksR_both (w3 : World) (vI : Value) (xs : List Value) (ls : List (List Rp)) (ov : Value) (gs : List Value) (hI : w3.ownsRow 0 65 1 vI xs.length xs) (hlen : xs.length = ls.length) (hgl : gs.length = ls.length)
    (hO : w3.ownsRow 0 65 1 ov gs.length gs) (hg : ∀ (j : Nat) (g : Value) (l : List Rp), gs[j]? = some g → (marksTo markR ls ls.length)[j]? = some l → RowAt rpC 2 w3 g (l ++ marks markR j l.length 72))
    (hx : ∀ (j : Nat) (x : Value) (l : List Rp), xs[j]? = some x → (marksTo markR ls ls.length)[j]? = some l → RowAt rpC 2 w3 x l) (hl : ls.length < 200) (hn : ∀ l ∈ ls, l.length ≤ 900) :
    ∀ W, Only (fun _ => False) w3 W → Calls Tryz.prog 87 #[ov] W (StillTold W) ∧ Calls Tryz.prog 87 #[vI] W (StillTold W) := by
  have hml : ∀ (j : Nat) (l : List Rp), (marksTo markR ls ls.length)[j]? = some l → l = marks markR j 0 l.length ∧ l.length ≤ 900 := fun j l hl => by
    rw [marksTo_at] at hl
    cases hm : ls[j]? with
    | none => rw [hm] at hl; cases hl
    | some m =>
      rw [hm, Option.map_some, if_pos (List.getElem?_eq_some_iff.1 hm).1] at hl
      have h2 := Option.some.inj hl
      rw [← h2, marks_length]
      exact ⟨rfl, hn m (List.mem_of_getElem? hm)⟩
  have hgat : ∀ (j : Nat) (l : List Rp), ((marksTo markR ls ls.length).mapIdx fun j l => l ++ marks markR j l.length 72)[j]? = some l → ∃ m, (marksTo markR ls ls.length)[j]? = some m ∧ l = m ++ marks markR j m.length 72 := fun j l hl => by
    rw [List.getElem?_mapIdx] at hl
    cases hm : (marksTo markR ls ls.length)[j]? with
    | none => rw [hm] at hl; cases hl
    | some m => rw [hm] at hl; exact ⟨m, rfl, (Option.some.inj hl).symm⟩
  intro W hW
  constructor
  · refine markedR_is W _ gs ((marksTo markR ls ls.length).mapIdx fun j l => l ++ marks markR j l.length 72) (own_only hO hW (fun _ _ q => q)) (fun j g l a b => ?_) ?_ (fun j l b => ?_) ?_ (fun l b => ?_)
    · obtain ⟨m, hm, rfl⟩ := hgat j l b
      exact row_only (hg j g m a hm) hW (fun _ _ q => q)
    · rw [hgl, List.length_mapIdx, marksTo_length]
    · obtain ⟨m, hm, rfl⟩ := hgat j l b
      have e := (hml j m hm).1
      rw [List.length_append, marks_length, marks_more, Nat.zero_add, ← e]
    · rw [List.length_mapIdx, marksTo_length]; omega
    · obtain ⟨j, hj⟩ := List.getElem?_of_mem b
      obtain ⟨m, hm, rfl⟩ := hgat j l hj
      rw [List.length_append, marks_length]
      have := (hml j m hm).2; omega
  · refine markedR_is W _ xs (marksTo markR ls ls.length) (own_only hI hW (fun _ _ q => q)) (fun j x l a b => row_only (hx j x l a b) hW (fun _ _ q => q)) (by rw [marksTo_length]; exact hlen) (fun j l b => (hml j l b).1) (by rw [marksTo_length]; omega) (fun l b => ?_)
    obtain ⟨j, hj⟩ := List.getElem?_of_mem b
    have := (hml j l hj).2; omega
/-- When all has grown: are the marks where they should be? -/
theorem marksC_both (w3 : World) (vI : Value) (xs : List Value) (ls : List (List Cq)) (ov : Value) (gs : List Value) (hI : w3.ownsRow 0 50 1 vI xs.length xs) (hlen : xs.length = ls.length) (hgl : gs.length = ls.length)
    (hO : w3.ownsRow 0 50 1 ov gs.length gs) (hg : ∀ (j : Nat) (g : Value) (l : List Cq), gs[j]? = some g → (marksTo markC ls ls.length)[j]? = some l → RowAt cmdC 5 w3 g (l ++ marks markC j l.length 72))
    (hx : ∀ (j : Nat) (x : Value) (l : List Cq), xs[j]? = some x → (marksTo markC ls ls.length)[j]? = some l → RowAt cmdC 5 w3 x l) (hl : ls.length < 200) (hn : ∀ l ∈ ls, l.length ≤ 900) :
    ∀ W, Only (fun _ => False) w3 W → Calls Tryz.prog 88 #[ov] W (StillTold W) ∧ Calls Tryz.prog 88 #[vI] W (StillTold W) := by
  have hml : ∀ (j : Nat) (l : List Cq), (marksTo markC ls ls.length)[j]? = some l → l = marks markC j 0 l.length ∧ l.length ≤ 900 := fun j l hl => by
    rw [marksTo_at] at hl
    cases hm : ls[j]? with
    | none => rw [hm] at hl; cases hl
    | some m =>
      rw [hm, Option.map_some, if_pos (List.getElem?_eq_some_iff.1 hm).1] at hl
      have h2 := Option.some.inj hl
      rw [← h2, marks_length]
      exact ⟨rfl, hn m (List.mem_of_getElem? hm)⟩
  have hgat : ∀ (j : Nat) (l : List Cq), ((marksTo markC ls ls.length).mapIdx fun j l => l ++ marks markC j l.length 72)[j]? = some l → ∃ m, (marksTo markC ls ls.length)[j]? = some m ∧ l = m ++ marks markC j m.length 72 := fun j l hl => by
    rw [List.getElem?_mapIdx] at hl
    cases hm : (marksTo markC ls ls.length)[j]? with
    | none => rw [hm] at hl; cases hl
    | some m => rw [hm] at hl; exact ⟨m, rfl, (Option.some.inj hl).symm⟩
  intro W hW
  constructor
  · refine markedC_is W _ gs ((marksTo markC ls ls.length).mapIdx fun j l => l ++ marks markC j l.length 72) (own_only hO hW (fun _ _ q => q)) (fun j g l a b => ?_) ?_ (fun j l b => ?_) ?_ (fun l b => ?_)
    · obtain ⟨m, hm, rfl⟩ := hgat j l b
      exact row_only (hg j g m a hm) hW (fun _ _ q => q)
    · rw [hgl, List.length_mapIdx, marksTo_length]
    · obtain ⟨m, hm, rfl⟩ := hgat j l b
      have e := (hml j m hm).1
      rw [List.length_append, marks_length, marks_more, Nat.zero_add, ← e]
    · rw [List.length_mapIdx, marksTo_length]; omega
    · obtain ⟨j, hj⟩ := List.getElem?_of_mem b
      obtain ⟨m, hm, rfl⟩ := hgat j l hj
      rw [List.length_append, marks_length]
      have := (hml j m hm).2; omega
  · refine markedC_is W _ xs (marksTo markC ls ls.length) (own_only hI hW (fun _ _ q => q)) (fun j x l a b => row_only (hx j x l a b) hW (fun _ _ q => q)) (by rw [marksTo_length]; exact hlen) (fun j l b => (hml j l b).1) (by rw [marksTo_length]; omega) (fun l b => ?_)
    obtain ⟨j, hj⟩ := List.getElem?_of_mem b
    have := (hml j l hj).2; omega
/-- How the question ends. -/
def ApartTold (w : World) (B : Nat) : Ending → World → Prop := fun e w' => e = .returned (.bool true) ∧ Only (fun b => B ≤ b) w w'

theorem longR {ls : List (List Rp)} (hn : ∀ l ∈ ls, l.length ≤ 900) : ∀ l ∈ marksTo markR ls ls.length, l.length ≤ 1000 := fun l hl => by
  obtain ⟨j, hj⟩ := List.getElem?_of_mem hl
  rw [marksTo_at] at hj
  cases hm : ls[j]? with
  | none => rw [hm] at hj; cases hj
  | some m =>
    rw [hm, Option.map_some] at hj
    have := hn m (List.mem_of_getElem? hm)
    have h2 := Option.some.inj hj
    rw [← h2]
    split
    · rw [marks_length]; omega
    · omega
theorem longC {ls : List (List Cq)} (hn : ∀ l ∈ ls, l.length ≤ 900) : ∀ l ∈ marksTo markC ls ls.length, l.length ≤ 1000 := fun l hl => by
  obtain ⟨j, hj⟩ := List.getElem?_of_mem hl
  rw [marksTo_at] at hj
  cases hm : ls[j]? with
  | none => rw [hm] at hj; cases hj
  | some m =>
    rw [hm, Option.map_some] at hj
    have := hn m (List.mem_of_getElem? hm)
    have h2 := Option.some.inj hj
    rw [← h2]
    split
    · rw [marks_length]; omega
    · omega

set_option maxRecDepth 100000 in
set_option maxHeartbeats 40000000 in
theorem BApart_is (w : World) (k B : Nat) (cs : Array Value) (vIR vWR : Value) (xsR ysR : List Value) (lsR : List (List Rp)) (hR : BookAt rpC 2 68 65 10 w k cs vIR vWR xsR ysR lsR lsR B) (hlR : lsR.length < 200) (hnR : ∀ l ∈ lsR, l.length ≤ 900) (vIC vWC : Value) (xsC ysC : List Value) (lsC : List (List Cq)) (hC : BookAt cmdC 5 119 50 12 w k cs vIC vWC xsC ysC lsC lsC B) (hlC : lsC.length < 200) (hnC : ∀ l ∈ lsC, l.length ≤ 900) (hdRC : ∀ b, bown vIR vWR xsR ysR b → ¬ bown vIC vWC xsC ysC b) (n0 : cs[0]? = some (.slice none 0 0)) (n2 : cs[2]? = some (.slice none 0 0)) (n4 : cs[4]? = some (.slice none 0 0)) (n6 : cs[6]? = some (.slice none 0 0)) (n8 : cs[8]? = some (.slice none 0 0)) (n14 : cs[14]? = some (.slice none 0 0)) (n16 : cs[16]? = some (.slice none 0 0)) :
    Calls Tryz.prog 15 #[.pointer (some ⟨k, 0, none⟩)] w (ApartTold w B) := by
  have HP0 := Lib.hid hR.x.heap
  have HO0 : Hid (Only (fun b => B ≤ b) w w) := Lib.hid (Only.refl _ w)
  have LR := Lib.hid (And.intro hlR hnR)
  have XKR : Hid (¬ ∃ v ∈ xsR, OwnB v k) := Lib.hid (fun ⟨v, hv, e⟩ => (hR.x.dk v hv k e).1 rfl)
  have XIR : Hid (∀ b, OwnB vIR b → ¬ ∃ v ∈ xsR, OwnB v b) := Lib.hid (fun b e ⟨v, hv, q⟩ => (hR.x.dk v hv b q).2.1 e)
  have XBR : Hid (∀ b, (∃ v ∈ xsR, OwnB v b) → B ≤ b ∧ b < w.heap.size) := Lib.hid (fun b ⟨v, hv, q⟩ => ⟨(hR.x.dk v hv b q).2.2, hR.x.xlt hv q⟩)
  have XLR := Lib.hid hR.x.len
  have LC := Lib.hid (And.intro hlC hnC)
  have XKC : Hid (¬ ∃ v ∈ xsC, OwnB v k) := Lib.hid (fun ⟨v, hv, e⟩ => (hC.x.dk v hv k e).1 rfl)
  have XIC : Hid (∀ b, OwnB vIC b → ¬ ∃ v ∈ xsC, OwnB v b) := Lib.hid (fun b e ⟨v, hv, q⟩ => (hC.x.dk v hv b q).2.1 e)
  have XBC : Hid (∀ b, (∃ v ∈ xsC, OwnB v b) → B ≤ b ∧ b < w.heap.size) := Lib.hid (fun b ⟨v, hv, q⟩ => ⟨(hC.x.dk v hv b q).2.2, hC.x.xlt hv q⟩)
  have XLC := Lib.hid hC.x.len
  have YIRC : Hid (∀ b, OwnB vIC b → ¬ ∃ v ∈ xsR, OwnB v b) := Lib.hid (fun b e q => hdRC b (.inr (.inr (.inl q))) (.inl e))
  have YXRC : Hid (∀ v ∈ xsC, ∀ b, OwnB v b → ¬ ∃ u ∈ xsR, OwnB u b) := Lib.hid (fun v hv b e q => hdRC b (.inr (.inr (.inl q))) (.inr (.inr (.inl ⟨v, hv, e⟩))))
  have YICR : Hid (∀ b, OwnB vIR b → ¬ ∃ v ∈ xsC, OwnB v b) := Lib.hid (fun b e q => hdRC b (.inl e) (.inr (.inr (.inl q))))
  have YXCR : Hid (∀ v ∈ xsR, ∀ b, OwnB v b → ¬ ∃ u ∈ xsC, OwnB u b) := Lib.hid (fun v hv b e q => hdRC b (.inr (.inr (.inl ⟨v, hv, e⟩))) (.inr (.inr (.inl q))))
  have HAR0 := Lib.hid hR
  have HAC0 := Lib.hid hC
  clear hR hlR hnR hC hlC hnC hdRC
  go_enter Tryz.func15, Tryz.ntmps15
  go_wp2_with fail
  (with_reducible refine (stillTexts_none _ k ((blk_cell HP0.out 0).trans n0)).mono ?_)
  rintro e _ ⟨rfl, rfl⟩
  go_wp2_with fail
  (with_reducible refine (stillInts_none _ k ((blk_cell HP0.out 2).trans n2)).mono ?_)
  rintro e _ ⟨rfl, rfl⟩
  go_wp2_with fail
  (with_reducible refine (stillItems_none _ k ((blk_cell HP0.out 4).trans n4)).mono ?_)
  rintro e _ ⟨rfl, rfl⟩
  go_wp2_with fail
  (with_reducible refine (stillKids_none _ k ((blk_cell HP0.out 6).trans n6)).mono ?_)
  rintro e _ ⟨rfl, rfl⟩
  go_wp2_with fail
  (with_reducible refine (stillPairs_none _ k ((blk_cell HP0.out 8).trans n8)).mono ?_)
  rintro e _ ⟨rfl, rfl⟩
  have HS := Lib.hid (stillR_is w k cs vIR vWR xsR ysR lsR B HAR0.out (by have := LR.out.1; omega) (fun l hl => by have := LR.out.2 l hl; omega))
  unfold StillTold at HS
  go_wp2_with fail
  (with_reducible refine HS.out.mono ?_)
  rintro e w1 ⟨rfl, o⟩
  have HAR1 := Lib.hid (HAR0.out.still o)
  have HAC1 := Lib.hid (HAC0.out.still o)
  have HP1 := Lib.hid HAR1.out.x.heap
  have HO1 := Lib.hid (HO0.out.trans o (fun _ _ q => q.elim))
  clear HS o HAR0 HAC0 HP0 HO0
  have HS := Lib.hid (stillC_is w1 k cs vIC vWC xsC ysC lsC B HAC1.out (by have := LC.out.1; omega) (fun l hl => by have := LC.out.2 l hl; omega))
  unfold StillTold at HS
  go_wp2_with fail
  (with_reducible refine HS.out.mono ?_)
  rintro e w2 ⟨rfl, o⟩
  have HAR2 := Lib.hid (HAR1.out.still o)
  have HAC2 := Lib.hid (HAC1.out.still o)
  have HP2 := Lib.hid HAR2.out.x.heap
  have HO2 := Lib.hid (HO1.out.trans o (fun _ _ q => q.elim))
  clear HS o HAR1 HAC1 HP1 HO1
  go_wp2_with fail
  (with_reducible refine (stillSteps_none _ k ((blk_cell HP2.out 14).trans n14)).mono ?_)
  rintro e _ ⟨rfl, rfl⟩
  go_wp2_with fail
  (with_reducible refine (stillEntries_none _ k ((blk_cell HP2.out 16).trans n16)).mono ?_)
  rintro e _ ⟨rfl, rfl⟩
  have HXR2 := Lib.hid HAR2.out.x
  have HXC2 := Lib.hid HAC2.out.x
  clear HAR2 HAC2
  go_wp2_with fail
  (with_reducible refine (putSteps_none _ k ((blk_cell HP2.out 14).trans n14)).mono ?_)
  rintro e _ ⟨rfl, rfl⟩
  go_wp2_with fail
  (with_reducible refine (putEntries_none _ k ((blk_cell HP2.out 16).trans n16)).mono ?_)
  rintro e _ ⟨rfl, rfl⟩
  go_wp2_with fail
  (with_reducible refine (putTexts_none _ k ((blk_cell HP2.out 0).trans n0)).mono ?_)
  rintro e _ ⟨rfl, rfl⟩
  go_wp2_with fail
  (with_reducible refine (putInts_none _ k ((blk_cell HP2.out 2).trans n2)).mono ?_)
  rintro e _ ⟨rfl, rfl⟩
  go_wp2_with fail
  (with_reducible refine (putItems_none _ k ((blk_cell HP2.out 4).trans n4)).mono ?_)
  rintro e _ ⟨rfl, rfl⟩
  go_wp2_with fail
  (with_reducible refine (putKids_none _ k ((blk_cell HP2.out 6).trans n6)).mono ?_)
  rintro e _ ⟨rfl, rfl⟩
  go_wp2_with fail
  (with_reducible refine (putPairs_none _ k ((blk_cell HP2.out 8).trans n8)).mono ?_)
  rintro e _ ⟨rfl, rfl⟩
  have HS := Lib.hid (putR_is w2 k cs vIR xsR lsR B HXR2.out (by have := LR.out.1; omega) (fun l hl => by have := LR.out.2 l hl; omega))
  unfold PutTold at HS
  go_wp2_with fail
  (with_reducible refine HS.out.mono ?_)
  rintro e w3 ⟨rfl, hX, o⟩
  have HXR3 := Lib.hid hX
  have HXC3 := Lib.hid (HXC2.out.only o XKR.out YIRC.out YXRC.out)
  have HP3 := Lib.hid HXR3.out.heap
  have HO3 := Lib.hid (HO2.out.trans o (fun b _ q => (XBR.out b q).1))
  clear HS hX o HXR2 HXC2 HP2 HO2
  have HS := Lib.hid (putC_is w3 k cs vIC xsC lsC B HXC3.out (by have := LC.out.1; omega) (fun l hl => by have := LC.out.2 l hl; omega))
  unfold PutTold at HS
  go_wp2_with fail
  (with_reducible refine HS.out.mono ?_)
  rintro e w4 ⟨rfl, hX, o⟩
  have HXR4 := Lib.hid (HXR3.out.only o XKC.out YICR.out YXCR.out)
  have HXC4 := Lib.hid hX
  have HP4 := Lib.hid HXR4.out.heap
  have HO4 := Lib.hid (HO3.out.trans o (fun b _ q => (XBC.out b q).1))
  clear HS hX o HXR3 HXC3 HP3 HO3
  go_wp2_with fail
  (with_reducible refine (growTexts_none _ k ((blk_cell HP4.out 0).trans n0)).mono ?_)
  rintro e _ ⟨rfl, rfl⟩
  go_wp2_with fail
  (with_reducible refine (growInts_none _ k ((blk_cell HP4.out 2).trans n2)).mono ?_)
  rintro e _ ⟨rfl, rfl⟩
  go_wp2_with fail
  (with_reducible refine (growItems_none _ k ((blk_cell HP4.out 4).trans n4)).mono ?_)
  rintro e _ ⟨rfl, rfl⟩
  go_wp2_with fail
  (with_reducible refine (growKids_none _ k ((blk_cell HP4.out 6).trans n6)).mono ?_)
  rintro e _ ⟨rfl, rfl⟩
  go_wp2_with fail
  (with_reducible refine (growPairs_none _ k ((blk_cell HP4.out 8).trans n8)).mono ?_)
  rintro e _ ⟨rfl, rfl⟩
  have HS := Lib.hid (growR_is w4 k cs vIR xsR (marksTo markR lsR lsR.length) B HXR4.out (by rw [marksTo_length]; have := LR.out.1; omega) (longR LR.out.2))
  unfold GrowTold at HS
  go_wp2_with fail
  (with_reducible refine HS.out.mono ?_)
  rintro e w5 ⟨ovR, gsR, rfl, G⟩
  have HIR5 := Lib.hid (own_only HXR4.out.rowI G.only XIR.out)
  have HTR5 := Lib.hid (And.intro G.own (And.intro G.grown G.xrow))
  have HGR := Lib.hid G
  have HBR := Lib.hid HXR4.out
  have HZR := Lib.hid HO4.out.size
  have HLR := Lib.hid G.len
  have HXC5 := Lib.hid (HXC4.out.only G.only XKR.out YIRC.out YXRC.out)
  have HP5 := Lib.hid ((G.only.block k (blk_lt HP4.out) XKR.out).trans HP4.out)
  have HO5 := Lib.hid (HO4.out.trans G.only (fun b _ q => (XBR.out b q).1))
  clear HS HXR4 HXC4 HP4 HO4
  obtain ⟨aR, cR, rfl⟩ := ownsRow_form G.own
  clear G
  have HS := Lib.hid (growC_is w5 k cs vIC xsC (marksTo markC lsC lsC.length) B HXC5.out (by rw [marksTo_length]; have := LC.out.1; omega) (longC LC.out.2))
  unfold GrowTold at HS
  go_wp2_with fail
  (with_reducible refine HS.out.mono ?_)
  rintro e w6 ⟨ovC, gsC, rfl, G⟩
  have HIR6 := Lib.hid (own_only HIR5.out G.only YICR.out)
  have HTR6 := Lib.hid (GrowTo.later HBR.out (by rw [marksTo_length]; exact XLR.out.symm) HGR.out G.only (fun b h1 _ q => by have := (XBC.out b q).2; have := HZR.out; omega) YXCR.out)
  have HIC6 := Lib.hid (own_only HXC5.out.rowI G.only XIC.out)
  have HTC6 := Lib.hid (And.intro G.own (And.intro G.grown G.xrow))
  have HGC := Lib.hid G
  have HBC := Lib.hid HXC5.out
  have HZC := Lib.hid HO5.out.size
  have HLC := Lib.hid G.len
  have HP6 := Lib.hid ((G.only.block k (blk_lt HP5.out) XKC.out).trans HP5.out)
  have HO6 := Lib.hid (HO5.out.trans G.only (fun b _ q => (XBC.out b q).1))
  clear HS HIR5 HTR5 HXC5 HP5 HO5
  obtain ⟨aC, cC, rfl⟩ := ownsRow_form G.own
  clear G
  go_wp2_with fail
  (with_reducible refine (growSteps_none _ k ((blk_cell HP6.out 14).trans n14)).mono ?_)
  rintro e _ ⟨rfl, rfl⟩
  go_wp2_with fail
  (with_reducible refine (growEntries_none _ k ((blk_cell HP6.out 16).trans n16)).mono ?_)
  rintro e _ ⟨rfl, rfl⟩
  have HMR := Lib.hid (marksR_both w6 vIR xsR lsR _ gsR HIR6.out XLR.out (HLR.out.trans (marksTo_length _ _ _)) HTR6.out.1 HTR6.out.2.1 HTR6.out.2.2 LR.out.1 LR.out.2)
  have HQR := Lib.hid HBR.out.atI
  unfold StillTold at HMR
  have HMC := Lib.hid (marksC_both w6 vIC xsC lsC _ gsC HIC6.out XLC.out (HLC.out.trans (marksTo_length _ _ _)) HTC6.out.1 HTC6.out.2.1 HTC6.out.2.2 LC.out.1 LC.out.2)
  have HQC := Lib.hid HBC.out.atI
  unfold StillTold at HMC
  have HW6 : Hid (Only (fun _ => False) w6 w6) := Lib.hid (Only.refl _ _)
  clear HIR6 HTR6 HGR HBR HZR HLR HIC6 HTC6 HGC HBC HZC HLC
  go_wp2_with fail
  (with_reducible refine (markedTexts_none _).mono ?_)
  rintro e _ ⟨rfl, rfl⟩
  have ck := (blk_cell HP6.out 0).trans n0
  go_wp2_with fail
  (with_reducible refine (markedTexts_none _).mono ?_)
  rintro e _ ⟨rfl, rfl⟩
  clear ck
  go_wp2_with fail
  (with_reducible refine (markedInts_none _).mono ?_)
  rintro e _ ⟨rfl, rfl⟩
  have ck := (blk_cell HP6.out 2).trans n2
  go_wp2_with fail
  (with_reducible refine (markedInts_none _).mono ?_)
  rintro e _ ⟨rfl, rfl⟩
  clear ck
  go_wp2_with fail
  (with_reducible refine (markedItems_none _).mono ?_)
  rintro e _ ⟨rfl, rfl⟩
  have ck := (blk_cell HP6.out 4).trans n4
  go_wp2_with fail
  (with_reducible refine (markedItems_none _).mono ?_)
  rintro e _ ⟨rfl, rfl⟩
  clear ck
  go_wp2_with fail
  (with_reducible refine (markedKids_none _).mono ?_)
  rintro e _ ⟨rfl, rfl⟩
  have ck := (blk_cell HP6.out 6).trans n6
  go_wp2_with fail
  (with_reducible refine (markedKids_none _).mono ?_)
  rintro e _ ⟨rfl, rfl⟩
  clear ck
  go_wp2_with fail
  (with_reducible refine (markedPairs_none _).mono ?_)
  rintro e _ ⟨rfl, rfl⟩
  have ck := (blk_cell HP6.out 8).trans n8
  go_wp2_with fail
  (with_reducible refine (markedPairs_none _).mono ?_)
  rintro e _ ⟨rfl, rfl⟩
  clear ck
  go_wp2_with fail
  (with_reducible refine (HMR.out _ HW6.out).1.mono ?_)
  rintro e w7 ⟨rfl, o⟩
  have HP7 := Lib.hid ((o.block k (blk_lt HP6.out) id).trans HP6.out)
  have HO7 := Lib.hid (HO6.out.trans o (fun _ _ q => q.elim))
  have HW7 := Lib.hid (HW6.out.trans o (fun _ _ q => q))
  clear o HP6 HO6 HW6
  have ck := (blk_cell HP7.out 10).trans HQR.out
  go_wp2_with fail
  (with_reducible refine (HMR.out _ HW7.out).2.mono ?_)
  rintro e w8 ⟨rfl, o⟩
  have HP8 := Lib.hid ((o.block k (blk_lt HP7.out) id).trans HP7.out)
  have HO8 := Lib.hid (HO7.out.trans o (fun _ _ q => q.elim))
  have HW8 := Lib.hid (HW7.out.trans o (fun _ _ q => q))
  clear o HP7 HO7 HW7 ck
  go_wp2_with fail
  (with_reducible refine (HMC.out _ HW8.out).1.mono ?_)
  rintro e w9 ⟨rfl, o⟩
  have HP9 := Lib.hid ((o.block k (blk_lt HP8.out) id).trans HP8.out)
  have HO9 := Lib.hid (HO8.out.trans o (fun _ _ q => q.elim))
  have HW9 := Lib.hid (HW8.out.trans o (fun _ _ q => q))
  clear o HP8 HO8 HW8
  have ck := (blk_cell HP9.out 12).trans HQC.out
  go_wp2_with fail
  (with_reducible refine (HMC.out _ HW9.out).2.mono ?_)
  rintro e w10 ⟨rfl, o⟩
  have HP10 := Lib.hid ((o.block k (blk_lt HP9.out) id).trans HP9.out)
  have HO10 := Lib.hid (HO9.out.trans o (fun _ _ q => q.elim))
  have HW10 := Lib.hid (HW9.out.trans o (fun _ _ q => q))
  clear o HP9 HO9 HW9 ck
  go_wp2_with fail
  (with_reducible refine (markedSteps_none _).mono ?_)
  rintro e _ ⟨rfl, rfl⟩
  have ck := (blk_cell HP10.out 14).trans n14
  go_wp2_with fail
  (with_reducible refine (markedSteps_none _).mono ?_)
  rintro e _ ⟨rfl, rfl⟩
  clear ck
  go_wp2_with fail
  (with_reducible refine (markedEntries_none _).mono ?_)
  rintro e _ ⟨rfl, rfl⟩
  have ck := (blk_cell HP10.out 16).trans n16
  go_wp2_with fail
  (with_reducible refine (markedEntries_none _).mono ?_)
  rintro e _ ⟨rfl, rfl⟩
  clear ck
  go_wp2_with fail
  go_ret
  exact ⟨rfl, HO10.out⟩
end Go.Proofs.YtlkknekflgclgaaGreatDoor.bk

namespace Go.Proofs.YtlkknekflgclgaaGreatDoor.bk
open Go.RowKit

def NilsCR (cs : Array Value) : Prop := cs[0]? = some (.slice none 0 0) ∧ cs[2]? = some (.slice none 0 0) ∧ cs[4]? = some (.slice none 0 0) ∧ cs[6]? = some (.slice none 0 0) ∧ cs[8]? = some (.slice none 0 0) ∧ cs[14]? = some (.slice none 0 0) ∧ cs[16]? = some (.slice none 0 0)
theorem NilsCR.set {cs : Array Value} (h : NilsCR cs) (o : Nat) (ho : o = 10 ∨ o = 11 ∨ o = 12 ∨ o = 13) (v : Value) : NilsCR (cs.setIfInBounds o v) := by
  obtain ⟨h0, h2, h4, h6, h8, h14, h16⟩ := h
  exact ⟨(set_other (by omega)).trans h0, (set_other (by omega)).trans h2, (set_other (by omega)).trans h4, (set_other (by omega)).trans h6, (set_other (by omega)).trans h8, (set_other (by omega)).trans h14, (set_other (by omega)).trans h16⟩
/-- The book: T what it may write, O what is its own. -/
structure Kept (w0 W : World) (k : Nat) (T O : Nat → Prop) (n m : Nat) : Prop where
  ex : ∃ (cs : Array Value) (vI vW : Value) (xs ys : List Value) (ls : List (List Cq)) (uI uW : Value) (us zs : List Value) (rs : List (List Rp)),
    BookAt cmdC 5 119 50 12 W k cs vI vW xs ys ls ls w0.heap.size ∧ BookAt rpC 2 68 65 10 W k cs uI uW us zs rs rs w0.heap.size ∧ (ls.length = n ∧ rs.length = m) ∧
    ((∀ l ∈ ls, l.length ≤ 900) ∧ ∀ l ∈ rs, l.length ≤ 900) ∧ (∀ b, bown uI uW us zs b → ¬ bown vI vW xs ys b) ∧ NilsCR cs ∧
    (∀ b, T b ↔ b = k ∨ OwnB vI b ∨ OwnB vW b ∨ OwnB uI b ∨ OwnB uW b) ∧ (∀ b, O b ↔ b = k ∨ bown vI vW xs ys b ∨ bown uI uW us zs b)
  since : Only (fun _ => False) w0 W
section
variable {w0 W : World} {k n m : Nat} {T O : Nat → Prop} (h : Kept w0 W k T O n m)
include h
theorem Kept.lt : ∀ b, O b → b < W.heap.size ∧ w0.heap.size ≤ b := by
  obtain ⟨cs, vI, vW, xs, ys, ls, uI, uW, us, zs, rs, hC, hR, _, _, _, _, _, hO⟩ := h.ex
  intro b hb
  rcases (hO b).1 hb with q | q | q
  · subst q
    exact ⟨hC.x.lt, hC.x.new⟩
  · exact ⟨(hC.bown_lt q).1, (hC.bown_lt q).2.1⟩
  · exact ⟨(hR.bown_lt q).1, (hR.bown_lt q).2.1⟩
theorem Kept.sub : ∀ b, T b → O b := by
  obtain ⟨cs, vI, vW, xs, ys, ls, uI, uW, us, zs, rs, hC, hR, _, _, _, _, hT, hO⟩ := h.ex
  intro b hb
  refine (hO b).2 ?_
  rcases (hT b).1 hb with q | q | q | q | q
  · exact .inl q
  · exact .inr (.inl (.inl q))
  · exact .inr (.inl (.inr (.inl q)))
  · exact .inr (.inr (.inl q))
  · exact .inr (.inr (.inr (.inl q)))
theorem Kept.still {W' : World} (ho : Only (fun _ => False) W W') : Kept w0 W' k T O n m := by
  obtain ⟨cs, vI, vW, xs, ys, ls, uI, uW, us, zs, rs, hC, hR, h1, h2, h3, h4, hT, hO⟩ := h.ex
  exact ⟨⟨cs, vI, vW, xs, ys, ls, uI, uW, us, zs, rs, hC.still ho, hR.still ho, h1, h2, h3, h4, hT, hO⟩, h.since.trans ho (fun _ _ q => q)⟩
/-- One more list of commands. -/
theorem keptC_is (hn : n < 200) (v : Value) (l : List Cq) (hv : W.ownsRow 0 119 5 v l.length (l.flatMap cmdC)) (hl : l.length ≤ 900) (hB : ∀ b, OwnB v b → w0.heap.size ≤ b ∧ ¬ O b) :
    Calls Tryz.prog 35 #[.pointer (some ⟨k, 0, none⟩), v] W fun e w' => e = .returned (.tuple #[]) ∧ ∃ T' O', Kept w0 w' k T' O' (n + 1) m ∧ Only T W w' ∧ (∀ b, T' b → T b ∨ W.heap.size ≤ b) ∧ ∀ b, O' b → O b ∨ OwnB v b ∨ W.heap.size ≤ b := by
  obtain ⟨cs, vI, vW, xs, ys, ls, uI, uW, us, zs, rs, hC, hR, ⟨h1, h1'⟩, ⟨h2, h2'⟩, h3, h4, hT, hO⟩ := h.ex
  have hBk : ∀ b, OwnB v b → w0.heap.size ≤ b ∧ b ≠ k ∧ ¬ bown vI vW xs ys b := fun b e => ⟨(hB b e).1, fun q => (hB b e).2 ((hO b).2 (.inl q)), fun q => (hB b e).2 ((hO b).2 (.inr (.inl q)))⟩
  refine (BC_is W k cs vI vW xs ys ls w0.heap.size v l hC (by omega) hv (by omega) hBk).mono fun e w' hq => ?_
  obtain ⟨rfl, ho, vI', vW', y, hC', hI', hW', hy⟩ := hq
  have hlt : ∀ b, bown uI uW us zs b → b < W.heap.size ∧ b ≠ k := fun b q => ⟨(hR.bown_lt q).1, (hR.bown_lt q).2.2⟩
  have hR' := hR.aside ho hC'.x.heap (by rw [set_other (by decide), set_other (by decide)]) (by rw [set_other (by decide), set_other (by decide)]) (fun b q r => by
    rcases r with r | r | r
    · exact (hlt b q).2 r
    · exact h3 b q (.inl r)
    · exact h3 b q (.inr (.inl r)))
  have hoT : Only T W w' := ho.mono (fun b _ q => (hT b).2 (by
    rcases q with q | q | q
    · exact .inl q
    · exact .inr (.inl q)
    · exact .inr (.inr (.inl q))))
  have key : ∀ b, bown vI' vW' (xs ++ [v]) (ys ++ [y]) b → bown vI vW xs ys b ∨ OwnB v b ∨ W.heap.size ≤ b := fun b q => by
    rcases q with q | q | ⟨u, hu, q⟩ | ⟨u, hu, q⟩
    · exact (hI' b q).imp .inl .inr
    · exact (hW' b q).imp (fun q => .inr (.inl q)) .inr
    · rcases List.mem_append.1 hu with hu | hu
      · exact .inl (.inr (.inr (.inl ⟨u, hu, q⟩)))
      · rw [List.mem_singleton] at hu
        subst hu
        exact .inr (.inl q)
    · rcases List.mem_append.1 hu with hu | hu
      · exact .inl (.inr (.inr (.inr ⟨u, hu, q⟩)))
      · rw [List.mem_singleton] at hu
        subst hu
        exact .inr (.inr (hy b q))
  refine ⟨rfl, fun b => b = k ∨ OwnB vI' b ∨ OwnB vW' b ∨ OwnB uI b ∨ OwnB uW b, fun b => b = k ∨ bown vI' vW' (xs ++ [v]) (ys ++ [y]) b ∨ bown uI uW us zs b, ⟨⟨_, vI', vW', _, _, _, uI, uW, us, zs, rs, hC', hR', ⟨by rw [List.length_append, List.length_singleton, h1], h1'⟩, ⟨fun l' hl' => ?_, h2'⟩, fun b q r => ?_, (h4.set 12 (by decide) _).set 13 (by decide) _, fun b => Iff.rfl, fun b => Iff.rfl⟩, ?_⟩, hoT, fun b q => ?_, fun b q => ?_⟩
  · rcases List.mem_append.1 hl' with hu | hu
    · exact h2 l' hu
    · rw [List.mem_singleton] at hu
      subst hu
      exact hl
  · rcases key b r with r | r | r
    · exact h3 b q r
    · exact (hB b r).2 ((hO b).2 (.inr (.inr q)))
    · have := (hlt b q).1; omega
  · exact (Only.trans (h.since.mono (T := T) (fun _ _ (q : False) => q.elim)) hoT (fun _ _ q => q)).mono (fun b hb q => by have := (h.lt b (h.sub b q)).2; omega)
  · rcases q with q | q | q | q | q
    · exact .inl ((hT b).2 (.inl q))
    · exact (hI' b q).imp (fun q => (hT b).2 (.inr (.inl q))) id
    · exact (hW' b q).imp (fun q => (hT b).2 (.inr (.inr (.inl q)))) id
    · exact .inl ((hT b).2 (.inr (.inr (.inr (.inl q)))))
    · exact .inl ((hT b).2 (.inr (.inr (.inr (.inr q)))))
  · rcases q with q | q | q
    · exact .inl ((hO b).2 (.inl q))
    · rcases key b q with q | q | q
      · exact .inl ((hO b).2 (.inr (.inl q)))
      · exact .inr (.inl q)
      · exact .inr (.inr q)
    · exact .inl ((hO b).2 (.inr (.inr q)))
/-- One more list of replies. -/
theorem keptR_is (hn : m < 200) (v : Value) (l : List Rp) (hv : W.ownsRow 0 68 2 v l.length (l.flatMap rpC)) (hl : l.length ≤ 900) (hB : ∀ b, OwnB v b → w0.heap.size ≤ b ∧ ¬ O b) :
    Calls Tryz.prog 36 #[.pointer (some ⟨k, 0, none⟩), v] W fun e w' => e = .returned (.tuple #[]) ∧ ∃ T' O', Kept w0 w' k T' O' n (m + 1) ∧ Only T W w' ∧ (∀ b, T' b → T b ∨ W.heap.size ≤ b) ∧ ∀ b, O' b → O b ∨ OwnB v b ∨ W.heap.size ≤ b := by
  obtain ⟨cs, vI, vW, xs, ys, ls, uI, uW, us, zs, rs, hC, hR, ⟨h1, h1'⟩, ⟨h2, h2'⟩, h3, h4, hT, hO⟩ := h.ex
  have hBk : ∀ b, OwnB v b → w0.heap.size ≤ b ∧ b ≠ k ∧ ¬ bown uI uW us zs b := fun b e => ⟨(hB b e).1, fun q => (hB b e).2 ((hO b).2 (.inl q)), fun q => (hB b e).2 ((hO b).2 (.inr (.inr q)))⟩
  refine (BR_is W k cs uI uW us zs rs w0.heap.size v l hR (by omega) hv (by omega) hBk).mono fun e w' hq => ?_
  obtain ⟨rfl, ho, uI', uW', y, hR', hI', hW', hy⟩ := hq
  have hlt : ∀ b, bown vI vW xs ys b → b < W.heap.size ∧ b ≠ k := fun b q => ⟨(hC.bown_lt q).1, (hC.bown_lt q).2.2⟩
  have hC' := hC.aside ho hR'.x.heap (by rw [set_other (by decide), set_other (by decide)]) (by rw [set_other (by decide), set_other (by decide)]) (fun b q r => by
    rcases r with r | r | r
    · exact (hlt b q).2 r
    · exact h3 b (.inl r) q
    · exact h3 b (.inr (.inl r)) q)
  have hoT : Only T W w' := ho.mono (fun b _ q => (hT b).2 (by
    rcases q with q | q | q
    · exact .inl q
    · exact .inr (.inr (.inr (.inl q)))
    · exact .inr (.inr (.inr (.inr q)))))
  have key : ∀ b, bown uI' uW' (us ++ [v]) (zs ++ [y]) b → bown uI uW us zs b ∨ OwnB v b ∨ W.heap.size ≤ b := fun b q => by
    rcases q with q | q | ⟨u, hu, q⟩ | ⟨u, hu, q⟩
    · exact (hI' b q).imp .inl .inr
    · exact (hW' b q).imp (fun q => .inr (.inl q)) .inr
    · rcases List.mem_append.1 hu with hu | hu
      · exact .inl (.inr (.inr (.inl ⟨u, hu, q⟩)))
      · rw [List.mem_singleton] at hu
        subst hu
        exact .inr (.inl q)
    · rcases List.mem_append.1 hu with hu | hu
      · exact .inl (.inr (.inr (.inr ⟨u, hu, q⟩)))
      · rw [List.mem_singleton] at hu
        subst hu
        exact .inr (.inr (hy b q))
  refine ⟨rfl, fun b => b = k ∨ OwnB vI b ∨ OwnB vW b ∨ OwnB uI' b ∨ OwnB uW' b, fun b => b = k ∨ bown vI vW xs ys b ∨ bown uI' uW' (us ++ [v]) (zs ++ [y]) b, ⟨⟨_, vI, vW, _, _, _, uI', uW', _, _, _, hC', hR', ⟨h1, by rw [List.length_append, List.length_singleton, h1']⟩, ⟨h2, fun l' hl' => ?_⟩, fun b q r => ?_, (h4.set 10 (by decide) _).set 11 (by decide) _, fun b => Iff.rfl, fun b => Iff.rfl⟩, ?_⟩, hoT, fun b q => ?_, fun b q => ?_⟩
  · rcases List.mem_append.1 hl' with hu | hu
    · exact h2' l' hu
    · rw [List.mem_singleton] at hu
      subst hu
      exact hl
  · rcases key b q with q | q | q
    · exact h3 b q r
    · exact (hB b q).2 ((hO b).2 (.inr (.inl r)))
    · have := (hlt b r).1; omega
  · exact (Only.trans (h.since.mono (T := T) (fun _ _ (q : False) => q.elim)) hoT (fun _ _ q => q)).mono (fun b hb q => by have := (h.lt b (h.sub b q)).2; omega)
  · rcases q with q | q | q | q | q
    · exact .inl ((hT b).2 (.inl q))
    · exact .inl ((hT b).2 (.inr (.inl q)))
    · exact .inl ((hT b).2 (.inr (.inr (.inl q))))
    · exact (hI' b q).imp (fun q => (hT b).2 (.inr (.inr (.inr (.inl q))))) id
    · exact (hW' b q).imp (fun q => (hT b).2 (.inr (.inr (.inr (.inr q))))) id
  · rcases q with q | q | q
    · exact .inl ((hO b).2 (.inl q))
    · exact .inl ((hO b).2 (.inr (.inl q)))
    · rcases key b q with q | q | q
      · exact .inl ((hO b).2 (.inr (.inr q)))
      · exact .inr (.inl q)
      · exact .inr (.inr q)
theorem keptApart_is (hn : n < 200) (hm : m < 200) : Calls Tryz.prog 15 #[.pointer (some ⟨k, 0, none⟩)] W (ApartTold W w0.heap.size) := by
  obtain ⟨cs, vI, vW, xs, ys, ls, uI, uW, us, zs, rs, hC, hR, ⟨h1, h1'⟩, ⟨h2, h2'⟩, h3, ⟨n0, n2, n4, n6, n8, n14, n16⟩, _, _⟩ := h.ex
  exact BApart_is W k w0.heap.size cs uI uW us zs rs hR (by omega) h2' vI vW xs ys ls hC (by omega) h2 h3 n0 n2 n4 n6 n8 n14 n16
end
/-- A book of nothing. -/
theorem Kept.start (w : World) : ∃ T O, Kept w (w.alloc (.cells (Array.replicate 18 (.slice none 0 0)) 36)) w.heap.size T O 0 0 := by
  have hb := blk_new w (.cells (Array.replicate 18 (.slice none 0 0)) 36)
  refine ⟨fun b => b = w.heap.size, fun b => b = w.heap.size, ⟨_, _, _, _, _, _, _, _, _, _, _, BookAt.empty cmdC 5 119 50 12 hb rfl rfl (Nat.le_refl _), BookAt.empty rpC 2 68 65 10 hb rfl rfl (Nat.le_refl _), ⟨rfl, rfl⟩, ⟨(fun l hl => by cases hl), (fun l hl => by cases hl)⟩, fun b q => ?_, ⟨rfl, rfl, rfl, rfl, rfl, rfl, rfl⟩, fun b => ?_, fun b => ?_⟩, (Only.refl _ w).alloc _⟩
  · rcases q with q | q | ⟨u, hu, q⟩ | ⟨u, hu, q⟩
    · cases q
    · cases q
    · cases hu
    · cases hu
  · simp [OwnB, Value.ownBlock]
  · simp [OwnB, bown, Value.ownBlock]
end Go.Proofs.YtlkknekflgclgaaGreatDoor.bk
