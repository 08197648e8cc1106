/- What a law's first call wants: one item; what pages that are new leave alone. Conditions: none. -/
import Derived.Test.YtbhiamcmiopnoaaGreatDoorZPages
import Derived.Test.YtbhiamcmiopnoaaGreatDoorZPlainD
import Derived.StillTailTactics
import Derived.Test.YtbhiamcmiopnoaaGreatDoorZBuF
import Derived.Test.YtbhiamcmiopnoaaGreatDoorZPathX
namespace Go.Proofs.YtbhiamcmiopnoaaGreatDoor
section
open Go.RowKit
def oneI : Item := ⟨[97], [49], 0⟩
theorem PStep.new {b : Nat} {w0 w w' : World} (ho : Only (fun _ => False) w0 w) (hb : ∀ k, pown w b k → w0.heap.size ≤ k) (s : PStep b w w') : Only (fun _ => False) w0 w' ∧ ∀ k, pown w' b k → w0.heap.size ≤ k := by
  have hs := ho.size
  refine ⟨ho.trans s.only fun i hi q => by have := hb i q; omega, fun k q => ?_⟩
  rcases s.own k q with q | q
  · exact hb k q
  · omega
end
section
open Go.RowKit Go.MuLone
theorem parts_xy : partsP [120, 47, 121] = [[120], [121]] := by decide
theorem ok_xy : pathOk [120, 47, 121] = true := by decide
set_option maxRecDepth 100000 in
set_option maxHeartbeats 4000000 in
theorem alive14_is (w : World) (hm : MaxAt w) : Calls Tryz.prog 8 #[] w fun e w' => e = .returned (.bool true) ∧ Only (fun _ => False) w w' := by
  have HF := Lib.hid (Fresh_is w)
  have hi1 : madeI noPages [97] [49] = oneI := by decide
  have hi2 : madeCs [49] = [] := by decide
  obtain ⟨r, p', hput, hpl⟩ := plays_put plays_none (x := oneI) (by decide) (i := 0) (by omega)
  have hpl1 : PlaysTo p' r [oneI] 1 := hpl
  obtain ⟨ids, R, _⟩ := hpl1.rooted
  have hst := hpl1.stop
  have HPL := Lib.hid (And.intro hput (And.intro hpl1 R))
  have HM := Lib.hid hm
  clear hput hpl hpl1 R hm
  have hsem : Sem p'.L oneI [49] := .plain [97] [49] (by decide)
  go_enter Tryz.func8, Tryz.ntmps8
  go_wp2_with fail
  refine HF.out.mono ?_
  rintro e w1 ⟨rfl, hp1, o1, hpw1⟩
  generalize hb : w.heap.size = b at *
  have HPUT := Lib.hid (BPut_is w1 b noPages p' 0 r 0 [] [] [97] [49] 0 hp1 (by decide) (by decide) (by decide) (by rw [hi1]; decide) .none (by rw [hi2]; exact .none) (by decide) (by decide) (by omega) (by simp [noPages]) (by simp [noPages]) (by rw [hi1, hi2]; exact HPL.out.1) (.inr ⟨[], .plain [] [] (by decide)⟩) (by decide))
  have HO1 := Lib.hid (And.intro o1 hpw1)
  have HB := Lib.hid hb
  clear hp1 o1 hpw1 HF hb hi1 hi2
  rw [show freeL p' (itemIds (wasI [] [97])) = p' from rfl] at HPUT
  unfold pagesV bktV at HPUT
  simp only [str] at HPUT
  go_wp2_with fail
  refine HPUT.out.mono ?_
  rintro e w2 ⟨rfl, hp2, st2⟩
  have A3 := Away.new hp2 (.cells #[.int .i64 r, .int .i64 0] 23)
  have o3 := (Only.refl (fun _ => False) w2).alloc (.cells #[.int .i64 r, .int .i64 0] 23)
  have c0 := blk_cell A3.at_ 0
  have c1 := blk_cell A3.at_ 1
  simp only [List.getElem?_toArray, List.getElem?_cons_zero, List.getElem?_cons_succ] at c0 c1
  have HG := Lib.hid (BGet_some _ b p' r 0 [oneI] ids [97] oneI [49] (hp2.still o3) (by decide) HPL.out.2.2 (by omega) (by decide) (by decide) (by decide +kernel) hsem)
  have HS := Lib.hid (st2.trans (PStep.still hp2.lt o3))
  clear A3 o3 hp2 st2 HPUT
  unfold pagesV bktV at HG
  simp only [str] at HG
  go_wp2_with fail
  refine HG.out.mono ?_
  rintro e w4 ⟨rfl, hp4, st4⟩
  have ho := (PStep.new HO1.out.1 (fun k q => by have := HO1.out.2 k q; have := HB.out; omega) (HS.out.trans st4)).1
  have HO := Lib.hid ho
  have HP := Lib.hid (Path_is w4 [120, 47, 121] (by simp) (by decide) (HM.out.still ho))
  unfold PathEnds at HP
  simp only [ok_xy, if_true, parts_xy] at HP
  simp only [str] at HP
  clear ho hp4 st4 HG HS c0 c1
  go_wp2_with fail
  refine HP.out.mono ?_
  rintro e w5 ⟨g, rfl, hr, _, o5⟩
  have hr0 := hr.cell 1 [121] rfl
  simp only [str] at hr0
  have HO5 := Lib.hid (HO.out.trans o5 (fun _ _ q => q))
  clear hr o5 HP HO
  go_wp2_with fail
  go_ret
  exact ⟨rfl, HO5.out⟩
end
end Go.Proofs.YtbhiamcmiopnoaaGreatDoor
