/- Package tree over the law's pages: load of a twig, whose row is a new one. Conditions: one goroutine; the pages lie in memory; the page is there. (Printed by wip/gen/load2.py from Tree1.) -/
import Derived.Test.YtbhiamcmiopnoaaGreatDoorZTree1
set_option maxHeartbeats 1000000
set_option maxRecDepth 100000
namespace Go.Proofs.YtbhiamcmiopnoaaGreatDoor
open Go.RowKit
theorem rz (w:World) (b:Nat) (S:aW) (pg:Int) (depth:Int) (l:List Kid) (h:aA w b S) (hs:S.stop<0) (hn:nodeAt S.L pg=some (.cZ l)) (hd:depth≤12) (hid:pg≤1000000) :
 Calls Tryz.prog 145 #[aF b,.int .i64 pg,.int .i64 depth] w fun e w'=>∃v,e=.returned (.tuple #[.agg #[.int .i64 pg,.bool false,.slice none 0 0,v],.int .i64 0])∧gN aR 2 w' v l∧Apart w' b v∧aA w' b S∧aB b w w'∧(∀j,bI v=some j→w.heap.size≤j):=by
 have MZ:=(cB hn).1
 have hG:∀w1,aA w1 b S→Calls Tryz.prog 255 #[.pointer (some ⟨b,0,none⟩),.int .i64 pg] w1 fun e w'=>e=.returned (.tuple #[.agg #[.int .i64 4,.int .i64 pg,.int .i64 0,str (jE l)],.int .i64 0])∧aA w' b S∧aB b w1 w':=fun w1 h1=>by
  have:=xC w1 b S pg h1 (by omega)
  have e:uj S pg=(.ok (.cZ l),S):=by
   rw [uo S pg (by omega),hn]
   unfold told
   rw [if_neg (by omega)]
  rw [e] at this
  exact this
 obtain⟨vL,vG,hp⟩:=h
 have hso:=hp.sound _ (oP hn)
 obtain⟨⟨hr1,hr2,hr3⟩,hne⟩:=hso
 have K4:=Lib.hid (fun W=>DK l hne hr1 hr2 hr3 W)
 have h:aA w b S:=⟨vL,vG,hp⟩
 have HG:=Lib.hid hG
 clear hp hr1 hr2 hr3
 have HP:=Lib.hid h
 clear hG h
 have hm:=fun n=>Gm n ⟨b,0,none⟩
 unfold aF
 go_enter Tryz.func145,Tryz.ntmps145
 go_wp2_with fail
 have hblt:=HP.out.lt
 have ho:=(Only.refl (fun _=>False) w).alloc (.cells #[.int .i64 0,.bool false,.slice none 0 0,.slice none 0 0] 207)
 have hW:=HP.out.still ho
 have hS:=aB.still HP.out.lt ho
 have hR:=heap_alloc_new w (.cells #[.int .i64 0,.bool false,.slice none 0 0,.slice none 0 0] 207)
 have zx:¬bn (w.alloc (.cells #[.int .i64 0,.bool false,.slice none 0 0,.slice none 0 0] 207)) b w.heap.size:=fun q=>by
  have:=bM HP.out ((aD (ho.block b HP.out.lt id) _).1 q);omega
 have hWs:(w.alloc (.cells #[.int .i64 0,.bool false,.slice none 0 0,.slice none 0 0] 207)).heap.size=w.heap.size+1:=by simp
 (with_reducible refine(HG.out _ hW).mono ?_)
 rintro e w1 ⟨rfl,hp1,st1⟩
 have hs1:=st1.only.size
 rw [hWs] at hs1
 have Da:¬bn w1 b w.heap.size:=fun q=>(st1.own _ q).elim zx (by omega)
 have xG:=(st1.only.block _ (by omega) zx).trans hR
 have jY:=Lib.hid hp1
 have kV:=Lib.hid (hS.trans st1)
 clear ho hW hS hR zx hp1 st1
 go_wp2_with fail
 have o2:=((Only.refl (fun _=>False) w1).alloc (.cells #[.int .i64 4,.int .i64 pg,.int .i64 0,str (jE l)] 252)).alloc (.cells #[.int .i64 pg,.bool false,.slice none 0 0,.slice none 0 0] 207)
 have hN:=heap_alloc_new (w1.alloc (.cells #[.int .i64 4,.int .i64 pg,.int .i64 0,str (jE l)] 252)) (.cells #[.int .i64 pg,.bool false,.slice none 0 0,.slice none 0 0] 207)
 have hN1:(w1.alloc (.cells #[.int .i64 4,.int .i64 pg,.int .i64 0,str (jE l)] 252)).heap.size=w1.heap.size+1:=by simp
 have rU:((w1.alloc (.cells #[.int .i64 4,.int .i64 pg,.int .i64 0,str (jE l)] 252)).alloc (.cells #[.int .i64 pg,.bool false,.slice none 0 0,.slice none 0 0] 207)).heap.size=w1.heap.size+2:=by simp
 rw [hN1] at hN
 refine(K4.out _).mono ?_
 rintro e w3 ⟨v,rfl,hrow,o3,hnew⟩
 rw [rU] at hnew
 obtain⟨av,nv,cv,rfl⟩:=bK hrow.cap
 have hs3:=o3.size
 rw [rU] at hs3
 have hsb:=jY.out.lt
 have hsw:=kV.out.only.size
 have jZ:=((o2.trans o3 (fun _ _ q=>q)).block _ (by omega) (fun q=>q)).trans xG
 have xK:=(o3.block _ (by rw [rU];omega) (fun q=>q)).trans hN
 have a0:=ay xK 0
 have a1:=ay xK 1
 have a2:=ay xK 2
 have a3:=ay xK 3
 have b0:=ay jZ 0
 have b1:=ay jZ 1
 have b2:=ay jZ 2
 have b3:=ay jZ 3
 have y2:=aQ xK 3
 have x0:=aQ jZ 0
 have x1:=aQ jZ 1
 have x2:=aQ jZ 2
 have x3:=aQ jZ 3
 simp only [List.getElem?_toArray,List.getElem?_cons_zero,List.getElem?_cons_succ] at a0 a1 a2 a3 b0 b1 b2 b3
 have kU:=Lib.hid (o2.trans o3 (fun _ _ q=>q))
 have iX:=Lib.hid hrow
 have jo:=Lib.hid hnew
 clear o2 o3 hN hN1 rU hrow hnew
 go_wp2_with fail
 have oF:=(((((Only.refl (fun k=>k=w1.heap.size+1∨k=w.heap.size) w3).put (w1.heap.size+1) 3 (.inl rfl) (.slice av nv cv)).put w.heap.size 0 (.inr rfl) (.int .i64 pg)).put w.heap.size 1 (.inr rfl) (.bool false)).put w.heap.size 2 (.inr rfl) (.slice none 0 0)).put w.heap.size 3 (.inr rfl) (.slice av nv cv)
 obtain⟨k1,k2,k3⟩:=yY HP.out jY.out kV.out Da kU.out (by omega) (Nat.le_succ _) oF
 have hq:=ko (w:=w3.setCell ⟨w1.heap.size+1,3,none⟩ (.slice av nv cv)) ((Below.heap_setCell _ _ _ _ (by simp only;omega)).trans jZ) (.int .i64 pg) (.bool false) (.slice none 0 0) (.slice av nv cv)
 have g0:=ay hq 0
 have g1:=ay hq 1
 have g2:=ay hq 2
 have g3:=ay hq 3
 unfold four at g0 g1 g2 g3
 refine bodyPost_ret (v:=.tuple #[.agg #[.int .i64 pg,.bool false,.slice none 0 0,.slice av nv cv],.int .i64 0]) (by simp [results,Tryz.results145,go_sem,g0,g1,g2,g3]) rfl ⟨_,rfl,iX.out.only oF (fun j hj q=>?_),k3 _ (Apart.new jY.out kU.out (fun j hj=>⟨?_,FD iX.out.row hne (fun _=>rfl) (by omega) j hj⟩)),k1,k2,fun j hj=>by have:=jo.out j hj;omega⟩
 ·have:=jo.out j hj
  rcases q with q | q<;>omega
 ·have:=jo.out j hj
  omega
end Go.Proofs.YtbhiamcmiopnoaaGreatDoor
