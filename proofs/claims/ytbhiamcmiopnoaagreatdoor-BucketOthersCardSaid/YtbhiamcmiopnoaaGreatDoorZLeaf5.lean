/- Package leaf: an item is put in its place. Conditions: fewer than 2^30 items, which rise by their keys. -/
import Derived.Test.YtbhiamcmiopnoaaGreatDoorZRow
import Derived.Test.YtbhiamcmiopnoaaGreatDoorZPlain
set_option maxHeartbeats 2000000
set_option maxRecDepth 100000
namespace Go.Proofs.YtbhiamcmiopnoaaGreatDoor
open Go.RowKit
theorem Ac (l:List Item) (k:Nat) (x:Item) (hk:k<l.length):(((l.flatMap aJ).set (k * 3) (str x.key)).set (k * 3+1) (str x.val)).set (k * 3+2) (.int .i64 x.kind)=(l.set k x).flatMap aJ:=by
 induction l generalizing k with
 | nil=>simp at hk
 | cons a l ih=>
  cases k with
  | zero=>rfl
  | succ k=>
   have:=ih k (by simpa using hk)
   rw [List.flatMap_cons,List.set_cons_succ,List.flatMap_cons,←this]
   have e0:(k+1) * 3=k * 3+3:=by omega
   have hl:(aJ a).length=3:=rfl
   rw [e0,List.set_append_right _ _ (by rw [hl];omega),List.set_append_right _ _ (by rw [hl];omega),List.set_append_right _ _ (by rw [hl];omega),hl]
   rw [show k * 3+3-3=k * 3 by omega,show k * 3+3+1-3=k * 3+1 by omega,show k * 3+3+2-3=k * 3+2 by omega]
theorem jB {l:List Item} {key:Bytes}:pX l key=(match behind l key with | []=>false | x :: _=>x.key == key):=by
 unfold pX
 have h:=j6 l key
 rw [←List.head?_drop,h]
 cases behind l key<;>rfl
theorem Kr {l:List Item} {x:Item} (h:pX l x.key=true):findAt l x.key<l.length∧dS l x=l.set (findAt l x.key) x:=by
 rw [jB] at h
 have h1:=bZ l x.key
 have hl:findAt l x.key=(ahead l x.key).length:=rfl
 cases hb:behind l x.key with
 | nil=>rw [hb] at h;cases h
 | cons y r=>
  rw [hb] at h h1
  have hy:y.key=x.key:=by simpa using h
  have hlen:=congrArg List.length h1
  simp only [List.length_append,List.length_cons] at hlen
  refine⟨by omega,?_⟩
  unfold dS
  rw [hb]
  simp only [hy,if_true]
  have e:l.set (findAt l x.key) x=(ahead l x.key++y :: r).set (findAt l x.key) x:=by rw [h1]
  rw [e,hl,List.set_append_right _ _ (Nat.le_refl _),Nat.sub_self]
  rfl
theorem Di {l:List Item} {x:Item} (h:pX l x.key=false):dS l x=l.take (findAt l x.key)++x :: l.drop (findAt l x.key):=by
 rw [rO,j6]
 rw [jB] at h
 unfold dS
 cases hb:behind l x.key with
 | nil=>rfl
 | cons y r=>
  rw [hb] at h
  have hy:¬y.key=x.key:=by simpa using h
  simp [hy]
theorem PL (v:Value) (l:List Item) (x:Item) (w:World) (h:bL aJ 3 w v l) (hr:bF l) (hn:l.length≤1073741000) :
 Calls Tryz.prog 196 #[v,iA x] w fun e w'=>∃v',e=.returned v'∧gN aJ 3 w' v' (dS l x)∧Only (fun _=>False) w w'∧∀b,bI v'=some b→w.heap.size≤b:=by
 have HA:=Lib.hid h
 have HR:=Lib.hid hr
 clear h hr
 change Calls Tryz.prog 196 #[v,.agg #[str x.key,str x.val,.int .i64 x.kind]] w _
 go_enter Tryz.func196,Tryz.ntmps196
 go_wp2_with fail
 obtain⟨b0,b1,b2⟩:=yG w x 131
 have oW:=(Only.refl (fun _=>False) w).alloc (.cells #[str x.key,str x.val,.int .i64 x.kind] 131)
 have HW:=Lib.hid oW
 have hws:(w.alloc (.cells #[str x.key,str x.val,.int .i64 x.kind] 131)).heap.size=w.heap.size+1:=by simp
 have HA:=Lib.hid (aU HA.out oW (fun _ _=>id))
 clear oW
 generalize w.alloc (.cells #[str x.key,str x.val,.int .i64 x.kind] 131)=W at *
 generalize hB:w.heap.size=B at *
 have HB:=Lib.hid hB
 clear hB
 have HF:=Lib.hid (xD v l x.key W HA.out HR.out (by omega))
 (with_reducible refine HF.out.mono ?_)
 rintro e w1 ⟨rfl,o1⟩
 have HA:=Lib.hid (aU HA.out o1 (fun _ _=>id))
 have hBW:=lt_of_cell b0
 have b0:=(o1.cell hBW id).trans b0
 have b1:=(o1.cell (p:=⟨B,1,none⟩) hBW id).trans b1
 have b2:=(o1.cell (p:=⟨B,2,none⟩) hBW id).trans b2
 have HW:=Lib.hid (HW.out.trans o1 (fun _ _=>id))
 have hsz1:=o1.size
 clear o1 HF
 have HC:=Lib.hid (nC v l w1 HA.out (by omega))
 go_wp2_with fail
 (with_reducible refine HC.out.mono ?_)
 rintro e w2 ⟨v2,rfl,own,o2,hnew⟩
 have hB1:=lt_of_cell b0
 have b0:=(o2.cell hB1 id).trans b0
 have b1:=(o2.cell (p:=⟨B,1,none⟩) hB1 id).trans b1
 have b2:=(o2.cell (p:=⟨B,2,none⟩) hB1 id).trans b2
 have HW:=Lib.hid (HW.out.trans o2 (fun _ _=>id))
 have hsz2:=o2.size
 have HOWN:=Lib.hid own
 have jo:=Lib.hid hnew
 clear o2 HC own hnew HA
 have hle:=lq l x.key
 cases hat:pX l x.key with
 | true=>
  obtain⟨hk,hput⟩:=Kr hat
  have HP:=Lib.hid hput
  clear hput
  generalize findAt l x.key=k at *
  obtain⟨a,c,rfl⟩:=ownsRow_form HOWN.out
  have hg:∃g,a=some ⟨g,0,none⟩:=by
   rcases HOWN.out.2 with ⟨q,h0⟩ |⟨g,cap,cur,q,_⟩
   ·omega
   ·injection q with q1 q2 q3;exact⟨g,q1⟩
  obtain⟨g,rfl⟩:=hg
  have hk1:(k:Int)<(l.length:Int):=by omega
  have hk0:(0:Int)≤(k:Int):=by omega
  have hxl:=dX l
  have d0:=aZ HOWN.out (k * 3) _ (List.getElem?_eq_getElem (by omega))
  have d1:=aZ HOWN.out (k * 3+1) _ (List.getElem?_eq_getElem (by omega))
  have d2:=aZ HOWN.out (k * 3+2) _ (List.getElem?_eq_getElem (by omega))
  have z0:=eF HOWN.out (k * 3)
  have z1:=eF HOWN.out (k * 3+1)
  have z2:=eF HOWN.out (k * 3+2)
  have hset:=iR (iR (iR HOWN.out (k * 3) (str x.key)) (k * 3+1) (str x.val)) (k * 3+2) (.int .i64 x.kind)
  rw [Ac l k x hk] at hset
  have HS:=Lib.hid hset
  have hgn:w1.heap.size≤g:=jo.out g rfl
  have UD:=Lib.hid ((((HW.out).setCell (p:=⟨g,k * 3,none⟩) (fun q=>by simp at q;have:=HB.out;omega) (str x.key)).setCell (p:=⟨g,k * 3+1,none⟩) (fun q=>by simp at q;have:=HB.out;omega) (str x.val)).setCell (p:=⟨g,k * 3+2,none⟩) (fun q=>by simp at q;have:=HB.out;omega) (.int .i64 x.kind))
  clear hset hat
  go_wp2_with fail
  go_ret
  refine⟨.slice (some ⟨g,0,none⟩) l.length c,rfl,?_,UD.out,fun q hq=>?_⟩
  ·rw [HP.out]
   have hl:l.length=(l.set k x).length:=by rw [List.length_set]
   have:=HS.out
   rw [hl] at this
   have h2:=bS (enc:=aJ) (k:=3) (fun _=>rfl) this
   rw [List.length_set] at h2
   exact⟨h2,dQ HOWN.out⟩
  ·have:=Option.some.inj (show some g=some q from hq)
   have:=HB.out
   omega
 | false=>
  have HP:=Lib.hid (Di hat)
  generalize findAt l x.key=k at *
  have hxl:=dX l
  clear hat
  go_wp2_with fail
  have oV:=(Only.refl (fun _=>False) w2).alloc (.cells (aJ x).toArray 131)
  have hI:=E8 v2 l x k w2.heap.size (w2.alloc (.cells (aJ x).toArray 131)) hle (aP HOWN.out oV (fun _ _=>id)) (fun q=>by have:=(HOWN.out.lt _ q).2;omega) (heap_alloc_new _ _) (by omega)
  change Calls _ _ _ (w2.alloc (.cells #[str x.key,str x.val,.int .i64 x.kind] 131)) _ at hI
  have HI:=Lib.hid hI
  have HW:=Lib.hid (HW.out.trans oV (fun _ _=>id))
  clear hI oV
  (with_reducible refine HI.out.mono ?_)
  rintro e w3 ⟨v3,rfl,jS,o3,m3⟩
  go_wp2_with fail
  go_ret
  have hs3:(w2.alloc (.cells (aJ x).toArray 131)).heap.size=w2.heap.size+1:=by simp
  have hout:∀q,v3.ownBlock=some q→w1.heap.size≤q:=fun q hq=>by
   rcases m3 q hq with r | r
   ·exact jo.out q r
   ·rw [hs3] at r;omega
  refine⟨v3,rfl,?_,HW.out.trans o3 (fun q hq r=>?_),fun q hq=>?_⟩
  ·rw [HP.out]
   have hl:l.length+1=(l.take k++x :: l.drop k).length:=by simp only [List.length_append,List.length_take,List.length_cons,List.length_drop];omega
   rw [hl] at jS
   exact⟨bS (enc:=aJ) (k:=3) (fun _=>rfl) jS,dQ jS⟩
  ·have:=jo.out q r
   have:=HB.out
   omega
  ·rw [bg jS] at hq
   have:=hout q hq
   have:=HB.out
   omega
end Go.Proofs.YtbhiamcmiopnoaaGreatDoor
