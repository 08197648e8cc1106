/- Package tree over the law's pages: a page is read. Conditions: one goroutine; the page is one that a tree laid; pages are told without a bound. -/
import Derived.Test.YtbhiamcmiopnoaaGreatDoorZPages
set_option maxHeartbeats 1000000
set_option maxRecDepth 100000
namespace Go.Proofs.YtbhiamcmiopnoaaGreatDoor
open Go.RowKit
def aF (b:Nat):Value:=.iface 52 (.pointer (some ⟨b,0,none⟩))
theorem Gm (n : Nat) (a : Addr) (w : World) : (method (n + 1) 52 (.pointer (some a)) "Get").run Tryz.prog w = .ok (255, .pointer (some a)) w := by kernel_rfl
theorem R4 (n : Nat) (a : Addr) (w : World) : (method (n + 1) 52 (.pointer (some a)) "New").run Tryz.prog w = .ok (257, .pointer (some a)) w := by kernel_rfl
theorem RZ (n : Nat) (a : Addr) (w : World) : (method (n + 1) 52 (.pointer (some a)) "Set").run Tryz.prog w = .ok (259, .pointer (some a)) w := by kernel_rfl
theorem Qb (n : Nat) (a : Addr) (w : World) : (method (n + 1) 52 (.pointer (some a)) "Mine").run Tryz.prog w = .ok (256, .pointer (some a)) w := by kernel_rfl
theorem Br (n : Nat) (a : Addr) (w : World) : (method (n + 1) 52 (.pointer (some a)) "Free").run Tryz.prog w = .ok (254, .pointer (some a)) w := by kernel_rfl
theorem oP {L:List Node} {id:Int} {n:Node} (h:nodeAt L id=some n):n∈L:=by
 unfold nodeAt at h
 by_cases h2:2≤id
 ·rw [if_pos h2] at h;exact List.mem_of_getElem? h
 ·rw [if_neg h2] at h;cases h
theorem bK {v:Value} (h:KG v):∃a n c,v=.slice a n c:=by
 cases v<;>first | exact⟨_,_,_,rfl⟩ | exact h.elim
theorem yY {w w1 w3 W4:World} {b N:Nat} {S:aW} (hP:aA w b S) (hP1:aA w1 b S) (hS1:aB b w w1) (hR:¬bn w1 b w.heap.size) (ho:Only (fun _=>False) w1 w3) (hlt:w.heap.size<w1.heap.size) (hN:w1.heap.size≤N)
 (oF:Only (fun k=>k=N∨k=w.heap.size) w3 W4):aA W4 b S∧aB b w W4∧∀v,Apart w3 b v→Apart W4 b v:=by
 have hb:=hP.lt
 have hb1:=hP1.lt
 have XK:¬(b=N∨b=w.heap.size):=by omega
 have hb3:b<w3.heap.size:=Nat.lt_of_lt_of_le hb1 ho.size
 have hown:∀k,bn w3 b k→¬(k=N∨k=w.heap.size):=fun k q e=>by
  have q1:=(aD (ho.block b hb1 (fun q=>q)) k).1 q
  rcases e with e | e
  ·have:=bM hP1 q1;omega
  ·subst e;exact hR q1
 obtain⟨vL,vG,hI⟩:=hP1.still ho
 exact⟨⟨vL,vG,hI.beside oF hown⟩,(hS1.trans (aB.still hb1 ho)).fresh hb oF (fun k q=>by omega),fun v hv=>hv.later oF.size (oF.block b hb3 XK)⟩
theorem lK (w:World) (b:Nat) (S:aW) (pg:Int) (depth:Int) (l:List Item) (h:aA w b S) (hs:S.stop<0) (hn:nodeAt S.L pg=some (.leaf l)) (hd:depth≤12) (hid:pg≤1000000) :
 Calls Tryz.prog 145 #[aF b,.int .i64 pg,.int .i64 depth] w fun e w'=>∃v,e=.returned (.tuple #[.agg #[.int .i64 pg,.bool true,v,.slice none 0 0],.int .i64 0])∧gN aJ 3 w' v l∧Apart w' b v∧aA w' b S∧aB b w w':=by
 have MZ:=(cB hn).1
 have hG:∀w1,aA w1 b S→Calls Tryz.prog 255 #[.pointer (some ⟨b,0,none⟩),.int .i64 pg] w1 fun e w'=>e=.returned (.tuple #[.agg #[.int .i64 3,.int .i64 pg,.int .i64 0,str (jT l)],.int .i64 0])∧aA w' b S∧aB b w1 w':=fun w1 h1=>by
  have:=xC w1 b S pg h1 (by omega)
  have e:uj S pg=(.ok (.leaf l),S):=by
   rw [uo S pg (by omega),hn]
   unfold told
   rw [if_neg (by omega)]
  rw [e] at this
  exact this
 obtain⟨vL,vG,hp⟩:=h
 have hso:=hp.sound _ (oP hn)
 obtain⟨⟨hr1,hr2,hr3⟩,hne⟩:=hso
 have K4:=Lib.hid (fun W=>Np l hr1 hr2 hr3 W)
 have h:aA w b S:=⟨vL,vG,hp⟩
 have HG:=Lib.hid hG
 clear hp hr1 hr2 hr3
 have HP:=Lib.hid h
 clear hG h
 have hm:=fun n=>Gm n ⟨b,0,none⟩
 unfold aF
 go_enter Tryz.func145,Tryz.ntmps145
 go_wp2_with fail
 have hblt:=HP.out.lt
 have ho:=(Only.refl (fun _=>False) w).alloc (.cells #[.int .i64 0,.bool false,.slice none 0 0,.slice none 0 0] 207)
 have hW:=HP.out.still ho
 have hS:=aB.still HP.out.lt ho
 have hR:=heap_alloc_new w (.cells #[.int .i64 0,.bool false,.slice none 0 0,.slice none 0 0] 207)
 have zx:¬bn (w.alloc (.cells #[.int .i64 0,.bool false,.slice none 0 0,.slice none 0 0] 207)) b w.heap.size:=fun q=>by
  have:=bM HP.out ((aD (ho.block b HP.out.lt id) _).1 q);omega
 have hWs:(w.alloc (.cells #[.int .i64 0,.bool false,.slice none 0 0,.slice none 0 0] 207)).heap.size=w.heap.size+1:=by simp
 (with_reducible refine(HG.out _ hW).mono ?_)
 rintro e w1 ⟨rfl,hp1,st1⟩
 have hs1:=st1.only.size
 rw [hWs] at hs1
 have Da:¬bn w1 b w.heap.size:=fun q=>(st1.own _ q).elim zx (by omega)
 have xG:=(st1.only.block _ (by omega) zx).trans hR
 have jY:=Lib.hid hp1
 have kV:=Lib.hid (hS.trans st1)
 clear ho hW hS hR zx hp1 st1
 go_wp2_with fail
 have o2:=((Only.refl (fun _=>False) w1).alloc (.cells #[.int .i64 3,.int .i64 pg,.int .i64 0,str (jT l)] 252)).alloc (.cells #[.int .i64 pg,.bool true,.slice none 0 0,.slice none 0 0] 207)
 have hN:=heap_alloc_new (w1.alloc (.cells #[.int .i64 3,.int .i64 pg,.int .i64 0,str (jT l)] 252)) (.cells #[.int .i64 pg,.bool true,.slice none 0 0,.slice none 0 0] 207)
 have hN1:(w1.alloc (.cells #[.int .i64 3,.int .i64 pg,.int .i64 0,str (jT l)] 252)).heap.size=w1.heap.size+1:=by simp
 have rU:((w1.alloc (.cells #[.int .i64 3,.int .i64 pg,.int .i64 0,str (jT l)] 252)).alloc (.cells #[.int .i64 pg,.bool true,.slice none 0 0,.slice none 0 0] 207)).heap.size=w1.heap.size+2:=by simp
 rw [hN1] at hN
 refine(K4.out _).mono ?_
 rintro e w3 ⟨v,rfl,hrow,o3,hnew⟩
 rw [rU] at hnew
 obtain⟨av,nv,cv,rfl⟩:=bK hrow.cap
 have hs3:=o3.size
 rw [rU] at hs3
 have hsb:=jY.out.lt
 have hsw:=kV.out.only.size
 have jZ:=((o2.trans o3 (fun _ _ q=>q)).block _ (by omega) (fun q=>q)).trans xG
 have xK:=(o3.block _ (by rw [rU];omega) (fun q=>q)).trans hN
 have a0:=ay xK 0
 have a1:=ay xK 1
 have a2:=ay xK 2
 have a3:=ay xK 3
 have b0:=ay jZ 0
 have b1:=ay jZ 1
 have b2:=ay jZ 2
 have b3:=ay jZ 3
 have y2:=aQ xK 2
 have x0:=aQ jZ 0
 have x1:=aQ jZ 1
 have x2:=aQ jZ 2
 have x3:=aQ jZ 3
 simp only [List.getElem?_toArray,List.getElem?_cons_zero,List.getElem?_cons_succ] at a0 a1 a2 a3 b0 b1 b2 b3
 have kU:=Lib.hid (o2.trans o3 (fun _ _ q=>q))
 have iX:=Lib.hid hrow
 have jo:=Lib.hid hnew
 clear o2 o3 hN hN1 rU hrow hnew
 go_wp2_with fail
 have oF:=(((((Only.refl (fun k=>k=w1.heap.size+1∨k=w.heap.size) w3).put (w1.heap.size+1) 2 (.inl rfl) (.slice av nv cv)).put w.heap.size 0 (.inr rfl) (.int .i64 pg)).put w.heap.size 1 (.inr rfl) (.bool true)).put w.heap.size 2 (.inr rfl) (.slice av nv cv)).put w.heap.size 3 (.inr rfl) (.slice none 0 0)
 obtain⟨k1,k2,k3⟩:=yY HP.out jY.out kV.out Da kU.out (by omega) (Nat.le_succ _) oF
 have hq:=ko (w:=w3.setCell ⟨w1.heap.size+1,2,none⟩ (.slice av nv cv)) ((Below.heap_setCell _ _ _ _ (by simp only;omega)).trans jZ) (.int .i64 pg) (.bool true) (.slice av nv cv) (.slice none 0 0)
 have g0:=ay hq 0
 have g1:=ay hq 1
 have g2:=ay hq 2
 have g3:=ay hq 3
 unfold four at g0 g1 g2 g3
 refine bodyPost_ret (v:=.tuple #[.agg #[.int .i64 pg,.bool true,.slice av nv cv,.slice none 0 0],.int .i64 0]) (by simp [results,Tryz.results145,go_sem,g0,g1,g2,g3]) rfl ⟨_,rfl,iX.out.only oF (fun j hj q=>?_),k3 _ (Apart.new jY.out kU.out (fun j hj=>⟨?_,FD iX.out.row hne (fun _=>rfl) (by omega) j hj⟩)),k1,k2⟩
 ·have:=jo.out j hj
  rcases q with q | q<;>omega
 ·have:=jo.out j hj
  omega
theorem oN (w:World) (b:Nat) (S:aW) (pg:Int) (depth:Int) (l:List Kid) (h:aA w b S) (hs:S.stop<0) (hn:nodeAt S.L pg=some (.cZ l)) (hd:depth≤12) (hid:pg≤1000000) :
 Calls Tryz.prog 145 #[aF b,.int .i64 pg,.int .i64 depth] w fun e w'=>∃v,e=.returned (.tuple #[.agg #[.int .i64 pg,.bool false,.slice none 0 0,v],.int .i64 0])∧gN aR 2 w' v l∧Apart w' b v∧aA w' b S∧aB b w w':=by
 have MZ:=(cB hn).1
 have hG:∀w1,aA w1 b S→Calls Tryz.prog 255 #[.pointer (some ⟨b,0,none⟩),.int .i64 pg] w1 fun e w'=>e=.returned (.tuple #[.agg #[.int .i64 4,.int .i64 pg,.int .i64 0,str (jE l)],.int .i64 0])∧aA w' b S∧aB b w1 w':=fun w1 h1=>by
  have:=xC w1 b S pg h1 (by omega)
  have e:uj S pg=(.ok (.cZ l),S):=by
   rw [uo S pg (by omega),hn]
   unfold told
   rw [if_neg (by omega)]
  rw [e] at this
  exact this
 obtain⟨vL,vG,hp⟩:=h
 have hso:=hp.sound _ (oP hn)
 obtain⟨⟨hr1,hr2,hr3⟩,hne⟩:=hso
 have K4:=Lib.hid (fun W=>DK l hne hr1 hr2 hr3 W)
 have h:aA w b S:=⟨vL,vG,hp⟩
 have HG:=Lib.hid hG
 clear hp hr1 hr2 hr3
 have HP:=Lib.hid h
 clear hG h
 have hm:=fun n=>Gm n ⟨b,0,none⟩
 unfold aF
 go_enter Tryz.func145,Tryz.ntmps145
 go_wp2_with fail
 have hblt:=HP.out.lt
 have ho:=(Only.refl (fun _=>False) w).alloc (.cells #[.int .i64 0,.bool false,.slice none 0 0,.slice none 0 0] 207)
 have hW:=HP.out.still ho
 have hS:=aB.still HP.out.lt ho
 have hR:=heap_alloc_new w (.cells #[.int .i64 0,.bool false,.slice none 0 0,.slice none 0 0] 207)
 have zx:¬bn (w.alloc (.cells #[.int .i64 0,.bool false,.slice none 0 0,.slice none 0 0] 207)) b w.heap.size:=fun q=>by
  have:=bM HP.out ((aD (ho.block b HP.out.lt id) _).1 q);omega
 have hWs:(w.alloc (.cells #[.int .i64 0,.bool false,.slice none 0 0,.slice none 0 0] 207)).heap.size=w.heap.size+1:=by simp
 (with_reducible refine(HG.out _ hW).mono ?_)
 rintro e w1 ⟨rfl,hp1,st1⟩
 have hs1:=st1.only.size
 rw [hWs] at hs1
 have Da:¬bn w1 b w.heap.size:=fun q=>(st1.own _ q).elim zx (by omega)
 have xG:=(st1.only.block _ (by omega) zx).trans hR
 have jY:=Lib.hid hp1
 have kV:=Lib.hid (hS.trans st1)
 clear ho hW hS hR zx hp1 st1
 go_wp2_with fail
 have o2:=((Only.refl (fun _=>False) w1).alloc (.cells #[.int .i64 4,.int .i64 pg,.int .i64 0,str (jE l)] 252)).alloc (.cells #[.int .i64 pg,.bool false,.slice none 0 0,.slice none 0 0] 207)
 have hN:=heap_alloc_new (w1.alloc (.cells #[.int .i64 4,.int .i64 pg,.int .i64 0,str (jE l)] 252)) (.cells #[.int .i64 pg,.bool false,.slice none 0 0,.slice none 0 0] 207)
 have hN1:(w1.alloc (.cells #[.int .i64 4,.int .i64 pg,.int .i64 0,str (jE l)] 252)).heap.size=w1.heap.size+1:=by simp
 have rU:((w1.alloc (.cells #[.int .i64 4,.int .i64 pg,.int .i64 0,str (jE l)] 252)).alloc (.cells #[.int .i64 pg,.bool false,.slice none 0 0,.slice none 0 0] 207)).heap.size=w1.heap.size+2:=by simp
 rw [hN1] at hN
 refine(K4.out _).mono ?_
 rintro e w3 ⟨v,rfl,hrow,o3,hnew⟩
 rw [rU] at hnew
 obtain⟨av,nv,cv,rfl⟩:=bK hrow.cap
 have hs3:=o3.size
 rw [rU] at hs3
 have hsb:=jY.out.lt
 have hsw:=kV.out.only.size
 have jZ:=((o2.trans o3 (fun _ _ q=>q)).block _ (by omega) (fun q=>q)).trans xG
 have xK:=(o3.block _ (by rw [rU];omega) (fun q=>q)).trans hN
 have a0:=ay xK 0
 have a1:=ay xK 1
 have a2:=ay xK 2
 have a3:=ay xK 3
 have b0:=ay jZ 0
 have b1:=ay jZ 1
 have b2:=ay jZ 2
 have b3:=ay jZ 3
 have y2:=aQ xK 3
 have x0:=aQ jZ 0
 have x1:=aQ jZ 1
 have x2:=aQ jZ 2
 have x3:=aQ jZ 3
 simp only [List.getElem?_toArray,List.getElem?_cons_zero,List.getElem?_cons_succ] at a0 a1 a2 a3 b0 b1 b2 b3
 have kU:=Lib.hid (o2.trans o3 (fun _ _ q=>q))
 have iX:=Lib.hid hrow
 have jo:=Lib.hid hnew
 clear o2 o3 hN hN1 rU hrow hnew
 go_wp2_with fail
 have oF:=(((((Only.refl (fun k=>k=w1.heap.size+1∨k=w.heap.size) w3).put (w1.heap.size+1) 3 (.inl rfl) (.slice av nv cv)).put w.heap.size 0 (.inr rfl) (.int .i64 pg)).put w.heap.size 1 (.inr rfl) (.bool false)).put w.heap.size 2 (.inr rfl) (.slice none 0 0)).put w.heap.size 3 (.inr rfl) (.slice av nv cv)
 obtain⟨k1,k2,k3⟩:=yY HP.out jY.out kV.out Da kU.out (by omega) (Nat.le_succ _) oF
 have hq:=ko (w:=w3.setCell ⟨w1.heap.size+1,3,none⟩ (.slice av nv cv)) ((Below.heap_setCell _ _ _ _ (by simp only;omega)).trans jZ) (.int .i64 pg) (.bool false) (.slice none 0 0) (.slice av nv cv)
 have g0:=ay hq 0
 have g1:=ay hq 1
 have g2:=ay hq 2
 have g3:=ay hq 3
 unfold four at g0 g1 g2 g3
 refine bodyPost_ret (v:=.tuple #[.agg #[.int .i64 pg,.bool false,.slice none 0 0,.slice av nv cv],.int .i64 0]) (by simp [results,Tryz.results145,go_sem,g0,g1,g2,g3]) rfl ⟨_,rfl,iX.out.only oF (fun j hj q=>?_),k3 _ (Apart.new jY.out kU.out (fun j hj=>⟨?_,FD iX.out.row hne (fun _=>rfl) (by omega) j hj⟩)),k1,k2⟩
 ·have:=jo.out j hj
  rcases q with q | q<;>omega
 ·have:=jo.out j hj
  omega
end Go.Proofs.YtbhiamcmiopnoaaGreatDoor
