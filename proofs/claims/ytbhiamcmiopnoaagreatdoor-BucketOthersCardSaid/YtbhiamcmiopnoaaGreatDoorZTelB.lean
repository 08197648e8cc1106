/- What a law's first call wants: one item; what pages that are new leave alone. Conditions: none. -/
import Derived.Test.YtbhiamcmiopnoaaGreatDoorZPages
import Derived.Test.YtbhiamcmiopnoaaGreatDoorZPlainD
import Derived.StillTailTactics
import Derived.Test.YtbhiamcmiopnoaaGreatDoorZBuF
import Derived.Test.YtbhiamcmiopnoaaGreatDoorZPathX
set_option maxHeartbeats 4000000
set_option maxRecDepth 100000
namespace Go.Proofs.YtbhiamcmiopnoaaGreatDoor
section
open Go.RowKit
def H9:Item:=⟨[97],[49],0⟩
theorem aB.new {b:Nat} {w0 w w':World} (ho:Only (fun _=>False) w0 w) (hb:∀k,bn w b k→w0.heap.size≤k) (s:aB b w w'):Only (fun _=>False) w0 w'∧∀k,bn w' b k→w0.heap.size≤k:=by
 have hs:=ho.size
 refine⟨ho.trans s.only fun i hi q=>by have:=hb i q;omega,fun k q=>?_⟩
 rcases s.own k q with q | q
 ·exact hb k q
 ·omega
end
section
open Go.RowKit Go.MuLone
theorem JY:bQ [120,47,121]=[[120],[121]]:=by decide
theorem Q0:sN [120,47,121]=true:=by decide
theorem xY (w:World) (hm:kT w):Calls Tryz.prog 8 #[] w fun e w'=>e=.returned (.bool true)∧Only (fun _=>False) w w':=by
 have HF:=Lib.hid (xZ w)
 have hi1:dG dA [97] [49]=H9:=by decide
 have hi2:dN [49]=[]:=by decide
 obtain⟨r,p',hput,hpl⟩:=Ia EN (x:=H9) (by decide) (i:=0) (by omega)
 have MS:rF p' r [H9] 1:=hpl
 obtain⟨ids,R,_⟩:=MS.rooted
 have hst:=MS.stop
 have VH:=Lib.hid (And.intro hput (And.intro MS R))
 have HM:=Lib.hid hm
 clear hput hpl MS R hm
 have CU:Sem p'.L H9 [49]:=.plain [97] [49] (by decide)
 go_enter Tryz.func8,Tryz.ntmps8
 go_wp2_with fail
 refine HF.out.mono ?_
 rintro e w1 ⟨rfl,hp1,o1,Q5⟩
 generalize hb:w.heap.size=b at *
 have JZ:=Lib.hid (Gl w1 b dA p' 0 r 0 [] [] [97] [49] 0 hp1 (by decide) (by decide) (by decide) (by rw [hi1];decide) .none (by rw [hi2];exact .none) (by decide) (by decide) (by omega) (by simp [dA]) (by simp [dA]) (by rw [hi1,hi2];exact VH.out.1) (.inr ⟨[],.plain [] [] (by decide)⟩) (by decide))
 have mX:=Lib.hid (And.intro o1 Q5)
 have HB:=Lib.hid hb
 clear hp1 o1 Q5 HF hb hi1 hi2
 rw [show fq p' (aX (je [] [97]))=p' from rfl] at JZ
 unfold aF aY at JZ
 simp only [str] at JZ
 go_wp2_with fail
 refine JZ.out.mono ?_
 rintro e w2 ⟨rfl,hp2,st2⟩
 have A3:=bG.new hp2 (.cells #[.int .i64 r,.int .i64 0] 23)
 have o3:=(Only.refl (fun _=>False) w2).alloc (.cells #[.int .i64 r,.int .i64 0] 23)
 have c0:=aj A3.at_ 0
 have c1:=aj A3.at_ 1
 simp only [List.getElem?_toArray,List.getElem?_cons_zero,List.getElem?_cons_succ] at c0 c1
 have HG:=Lib.hid (zV _ b p' r 0 [H9] ids [97] H9 [49] (hp2.still o3) (by decide) VH.out.2.2 (by omega) (by decide) (by decide) (by decide +kernel) CU)
 have HS:=Lib.hid (st2.trans (aB.still hp2.lt o3))
 clear A3 o3 hp2 st2 JZ
 unfold aF aY at HG
 simp only [str] at HG
 go_wp2_with fail
 refine HG.out.mono ?_
 rintro e w4 ⟨rfl,iD,fP⟩
 have ho:=(aB.new mX.out.1 (fun k q=>by have:=mX.out.2 k q;have:=HB.out;omega) (HS.out.trans fP)).1
 have HO:=Lib.hid ho
 have HP:=Lib.hid (Gd w4 [120,47,121] (by simp) (by decide) (HM.out.still ho))
 unfold tZ at HP
 simp only [Q0,if_true,JY] at HP
 simp only [str] at HP
 clear ho iD fP HG HS c0 c1
 go_wp2_with fail
 refine HP.out.mono ?_
 rintro e w5 ⟨g,rfl,hr,_,o5⟩
 have hr0:=hr.cell 1 [121] rfl
 simp only [str] at hr0
 have mO:=Lib.hid (HO.out.trans o5 (fun _ _ q=>q))
 clear hr o5 HP HO
 go_wp2_with fail
 go_ret
 exact⟨rfl,mO.out⟩
end
end Go.Proofs.YtbhiamcmiopnoaaGreatDoor
