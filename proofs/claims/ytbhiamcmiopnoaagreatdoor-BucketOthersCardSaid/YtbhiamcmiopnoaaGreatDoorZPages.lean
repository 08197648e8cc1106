/- The law's pages in memory: how they lie there, what may change. Conditions: one goroutine; each page is one that a tree lays; fewer than 4000 pages. -/
import Derived.Test.YtbhiamcmiopnoaaGreatDoorZPlain
import Derived.Test.YtbhiamcmiopnoaaGreatDoorZLeaf6
import Derived.Test.YtbhiamcmiopnoaaGreatDoorZTwig6
import Derived.BigRegion
set_option maxHeartbeats 2000000
set_option maxRecDepth 100000
namespace Go.Proofs.YtbhiamcmiopnoaaGreatDoor
section
open Go.RowKit
def eU:Node→Int
 | .leaf _=>3
 | .cZ _=>4
 | .over _=>5
def eX:Node→Bytes
 | .leaf l=>jT l
 | .cZ l=>jE l
 | .over b=>b
def mQ:Node→Prop
 | .leaf l=>mP (.leaf l)∧l≠[]
 | .cZ l=>mP (.cZ l)∧l≠[]
 | .over b=>b.length≤232
def mI (n:Node) (id:Int):List Value:=[.int .i64 (eU n),.int .i64 id,.int .i64 0,str (eX n)]
def qO (n:Node) (id:Int):Value:=.agg (mI n id).toArray
def vM:Value:=.agg #[.int .i64 0,.int .i64 0,.int .i64 0,str []]
def BU (x:Node×Nat):List Value:=mI x.1 ((x.2+2:Nat):Int)
def iI (L:List Node):List Value:=L.zipIdx.flatMap BU
def eT (l:List Int):List Value:=l.map fun n=>.int .i64 n
theorem zH (L:List Node):(iI L).length=L.length * 4:=by
 have:∀l:List (Node×Nat),(l.flatMap BU).length=l.length * 4:=by
  intro l
  induction l with
  | nil=>rfl
  | cons a l ih=>rw [List.flatMap_cons,List.length_append,ih,List.length_cons];simp [BU,mI];omega
 rw [iI,this,List.length_zipIdx]
theorem qP (L:List Node) (n:Node):iI (L++[n])=iI L++mI n ((L.length+2:Nat):Int):=by
 unfold iI
 rw [List.zipIdx_append,List.flatMap_append]
 simp [BU]
theorem gY {L:List Node} {k:Nat} {n:Node} (h:L[k]? = some n) {j:Nat} {u:Value} (hj:(mI n ((k+2:Nat):Int))[j]? = some u):(iI L)[k * 4+j]? = some u:=by
 refine flat_get (enc:=BU) (k:=4) (fun _=>rfl) L.zipIdx k j (n,k) u ?_ hj
 rw [List.getElem?_zipIdx,h]
 simp
structure eY (w:World) (b:Nat) (S:aW) (vL vG:Value):Prop where
 heap:w.heap[b]? = some (.cells #[vL,.int .i64 S.mine,vG,.bool S.bad,.bool S.twice,.int .i64 S.stop] 62 (0,0))
 iY:w.ownsRow 0 252 4 vL S.L.length (iI S.L)
 l8:w.ownsRow 0 3 1 vG S.given.length (eT S.given)
 MJ:vL.ownBlock≠some b
 K5:vG.ownBlock≠some b
 apart:∀k,vL.ownBlock=some k→vG.ownBlock≠some k
 sound:∀n∈S.L,mQ n
 few:S.L.length≤3998
 mine:0≤S.mine∧S.mine≤4000
 stop:-1≤S.stop∧S.stop≤1000000
 given:S.given.length≤1000000
def aA (w:World) (b:Nat) (S:aW):Prop:=∃vL vG,eY w b S vL vG
def bn (w:World) (b k:Nat):Prop:=k=b∨∃cs t f,w.heap[b]? = some (.cells cs t f)∧∃(i:Nat) (v:Value),cs[i]? = some v∧v.ownBlock=some k
structure aB (b:Nat) (w w':World):Prop where
 only:Only (bn w b) w w'
 own:∀k,bn w' b k→bn w b k∨w.heap.size≤k
theorem aB.refl (b:Nat) (w:World):aB b w w:=⟨Only.refl _ w,fun _ h=>.inl h⟩
theorem aB.trans {b:Nat} {w w1 w2:World} (h:aB b w w1) (k:aB b w1 w2):aB b w w2:=by
 refine⟨h.only.trans k.only fun i hi q=>(h.own i q).resolve_right (by omega),fun i q=>?_⟩
 have:=h.only.size
 rcases k.own i q with q | q
 ·exact h.own i q
 ·exact .inr (by omega)
theorem aD {w w':World} {b:Nat} (h:w'.heap[b]? = w.heap[b]?) (k:Nat):bn w' b k↔bn w b k:=by unfold bn;rw [h]
theorem eY.lt {w:World} {b:Nat} {S:aW} {vL vG:Value} (h:eY w b S vL vG):b<w.heap.size:=(Array.getElem?_eq_some_iff.1 h.heap).1
theorem aA.lt {w:World} {b:Nat} {S:aW} (h:aA w b S):b<w.heap.size:=by obtain⟨_,_,h⟩:=h;exact h.lt
theorem eY.iQ {w:World} {b:Nat} {S:aW} {vL vG:Value} (h:eY w b S vL vG) (k:Nat):bn w b k↔k=b∨vL.ownBlock=some k∨vG.ownBlock=some k:=by
 unfold bn
 constructor
 ·rintro(e |⟨cs,t,f,e,i,v,h1,h2⟩)
  ·exact .inl e
  ·rw [h.heap] at e
   cases e
   match i with
   | 0=>cases h1;exact .inr (.inl h2)
   | 1=>cases h1;cases h2
   | 2=>cases h1;exact .inr (.inr h2)
   | 3=>cases h1;cases h2
   | 4=>cases h1;cases h2
   | 5=>cases h1;cases h2
   | i+6=>simp at h1
 ·rintro(e | e | e)
  ·exact .inl e
  ·exact .inr ⟨_,_,_,h.heap,0,vL,rfl,e⟩
  ·exact .inr ⟨_,_,_,h.heap,2,vG,rfl,e⟩
theorem eY.still {w w':World} {b:Nat} {S:aW} {vL vG:Value} (h:eY w b S vL vG) (ho:Only (fun _=>False) w w'):eY w' b S vL vG:=
 ⟨(ho.block b h.lt id).trans h.heap,aP h.iY ho (fun _ _=>id),aP h.l8 ho (fun _ _=>id),h.MJ,h.K5,h.apart,h.sound,h.few,h.mine,h.stop,h.given⟩
theorem aA.still {w w':World} {b:Nat} {S:aW} (h:aA w b S) (ho:Only (fun _=>False) w w'):aA w' b S:=by
 obtain⟨_,_,h⟩:=h
 exact⟨_,_,h.still ho⟩
theorem aB.still {b:Nat} {w w':World} (hb:b<w.heap.size) (ho:Only (fun _=>False) w w'):aB b w w':=
 ⟨ho.mono fun _ _ q=>q.elim,fun k q=>.inl ((aD (ho.block b hb id) k).1 q)⟩
def Apart (w:World) (b:Nat) (v:Value):Prop:=∀k,bI v=some k→¬bn w b k∧k<w.heap.size
theorem Apart.step {w w':World} {b:Nat} {v:Value} (h:Apart w b v) (s:aB b w w'):Apart w' b v:=fun k hk=>by
 obtain⟨h1,h2⟩:=h k hk
 exact⟨fun q=>(s.own k q).elim h1 fun q=>by omega,Nat.lt_of_lt_of_le h2 s.only.size⟩
theorem Apart.later {w w':World} {b:Nat} {v:Value} (h:Apart w b v) (hs:w.heap.size≤w'.heap.size) (hh:w'.heap[b]? = w.heap[b]?):Apart w' b v:=fun k hk=>by
 obtain⟨h1,h2⟩:=h k hk
 exact⟨fun q=>h1 ((aD hh k).1 q),Nat.lt_of_lt_of_le h2 hs⟩
theorem gN.step {α:Type} {enc:α→List Value} {k:Nat} {w w':World} {b:Nat} {v:Value} {xs:List α} (h:gN enc k w v xs) (a:Apart w b v) (s:aB b w w'):gN enc k w' v xs:=h.only s.only fun j hj=>(a j hj).1
theorem bM {w:World} {b:Nat} {S:aW} (h:aA w b S) {k:Nat} (q:bn w b k):k<w.heap.size:=by
 obtain⟨vL,vG,h⟩:=h
 rcases(h.iQ k).1 q with q | q | q
 ·subst q;exact h.lt
 ·exact(h.iY.lt k q).2
 ·exact(h.l8.lt k q).2
theorem Apart.new {w w':World} {b:Nat} {S:aW} {v:Value} (h:aA w b S) (ho:Only (fun _=>False) w w') (hn:∀k,bI v=some k→w.heap.size≤k∧k<w'.heap.size):Apart w' b v:=fun k hk=>by
 obtain⟨h1,h2⟩:=hn k hk
 refine⟨fun q=>?_,h2⟩
 have:=bM h ((aD (ho.block b h.lt id) k).1 q)
 omega
theorem FD {α:Type} {enc:α→List Value} {k:Nat} {w:World} {v:Value} {xs:List α} (h:bL enc k w v xs) (hne:xs≠[]) (hk:∀x,(enc x).length=k) (h1:1≤k):∀j,bI v=some j→j<w.heap.size:=by
 intro j hj
 cases h with
 | none=>cases hj
 | some g off cap _ hc=>
  cases hj
  cases xs with
  | nil=>exact absurd rfl hne
  | cons x xs=>
   obtain⟨u,hu⟩:∃u,(enc x)[0]? = some u:=⟨_,List.getElem?_eq_getElem (by rw [hk];omega)⟩
   exact lt_of_cell (hc 0 x 0 u rfl hu)
theorem heap_setCell {w:World} {b:Nat} {cs:Array Value} {t:TypeId} {f:Nat×Nat} (h:w.heap[b]? = some (.cells cs t f)) (o:Nat) (u:Value):(w.setCell ⟨b,o,none⟩ u).heap[b]? = some (.cells (cs.setIfInBounds o u) t f):=by
 simp [World.setCell,Array.getElem?_modify,h]
theorem ay {w:World} {b:Nat} {cs:Array Value} {t:TypeId} {f:Nat×Nat} (h:w.heap[b]? = some (.cells cs t f)) (o:Nat):w.cell? ⟨b,o,none⟩=cs[o]?:=by
 simp [World.cell?,h]
theorem aQ {w:World} {b:Nat} {cs:Array Value} {t:TypeId} (h:w.heap[b]? = some (.cells cs t (0,0))) (o:Nat):w.frozen? ⟨b,o,none⟩=false:=by
 simp [World.frozen?,h]
theorem eY.put {w:World} {b:Nat} {S S':aW} {vL vG GN GQ:Value} (h:eY w b S vL vG) {w1:World} (h1:w1.heap[b]? = some (.cells #[GN,.int .i64 S'.mine,GQ,.bool S'.bad,.bool S'.twice,.int .i64 S'.stop] 62 (0,0)))
 (h2:w1.ownsRow 0 252 4 GN S'.L.length (iI S'.L)) (h3:w1.ownsRow 0 3 1 GQ S'.given.length (eT S'.given)) (ho:Only (bn w b) w w1)
 (hL:∀k,GN.ownBlock=some k→vL.ownBlock=some k∨w.heap.size≤k) (hG:∀k,GQ.ownBlock=some k→vG.ownBlock=some k∨w.heap.size≤k) (hap:∀k,GN.ownBlock=some k→GQ.ownBlock≠some k)
 (sound:∀n∈S'.L,mQ n) (few:S'.L.length≤3998) (mine:S'.mine=S.mine) (stop:-1≤S'.stop∧S'.stop≤1000000) (given:S'.given.length≤1000000):eY w1 b S' GN GQ∧aB b w w1:=by
 have hb:=h.lt
 have hI:eY w1 b S' GN GQ:=⟨h1,h2,h3,fun q=>(hL b q).elim h.MJ (by omega),fun q=>(hG b q).elim h.K5 (by omega),hap,sound,few,mine▸h.mine,stop,given⟩
 refine⟨hI,ho,fun k q=>?_⟩
 rw [h.iQ]
 rcases(hI.iQ k).1 q with q | q | q
 ·exact .inl (.inl q)
 ·exact(hL k q).imp (fun q=>.inr (.inl q)) id
 ·exact(hG k q).imp (fun q=>.inr (.inr q)) id
theorem eY.beside {w w':World} {b:Nat} {S:aW} {vL vG:Value} {T:Nat→Prop} (h:eY w b S vL vG) (ho:Only T w w') (hT:∀k,bn w b k→¬T k):eY w' b S vL vG:=
 ⟨(ho.block b h.lt (hT b (.inl rfl))).trans h.heap,aP h.iY ho (fun k q=>hT k ((h.iQ k).2 (.inr (.inl q)))),aP h.l8 ho (fun k q=>hT k ((h.iQ k).2 (.inr (.inr q)))),h.MJ,h.K5,h.apart,h.sound,h.few,h.mine,h.stop,h.given⟩
theorem aB.fresh {b:Nat} {w w1 w2:World} {T:Nat→Prop} (s:aB b w w1) (hb:b<w.heap.size) (ho:Only T w1 w2) (hT:∀k,T k→w.heap.size≤k):aB b w w2:=by
 refine⟨s.only.trans ho fun i hi q=>by have:=hT i q;omega,fun k q=>s.own k ?_⟩
 exact(aD (ho.block b (Nat.lt_of_lt_of_le hb s.only.size) fun q=>by have:=hT b q;omega) k).1 q
def four (w:World) (B:Nat) (a b c d:Value):World:=(((w.setCell ⟨B,0,none⟩ a).setCell ⟨B,1,none⟩ b).setCell ⟨B,2,none⟩ c).setCell ⟨B,3,none⟩ d
theorem Aq (w:World) (B:Nat) (a b c d:Value):Only (fun k=>k=B) w (four w B a b c d):=by
 unfold four
 exact((((Only.refl (fun k=>k=B) w).put B 0 rfl _).put B 1 rfl _).put B 2 rfl _).put B 3 rfl _
theorem ko {w:World} {B:Nat} {x0 x1 x2 x3:Value} {t:TypeId} {f:Nat×Nat} (h:w.heap[B]? = some (.cells #[x0,x1,x2,x3] t f)) (a b c d:Value):(four w B a b c d).heap[B]? = some (.cells #[a,b,c,d] t f):=by
 unfold four
 have:=heap_setCell (heap_setCell (heap_setCell (heap_setCell h 0 a) 1 b) 2 c) 3 d
 simpa using this
end
section
open Go.RowKit
def iZ (r:Except Int Node) (id:Int):Value:=match r with
 | .ok n=>.tuple #[qO n id,.int .i64 0]
 | .error e=>.tuple #[vM,.int .i64 e]
def OQ:Obj:=.cells #[.int .i64 0,.int .i64 0,.int .i64 0,.string ⟨#[]⟩] 252
def told (S:aW):aW:=if 0<S.stop then { S with stop:=S.stop-1 } else S
theorem uo (S:aW) (id:Int) (h:S.stop≠0):uj S id=(match nodeAt S.L id with | some n=>.ok n | none=>.error 8,told S):=by
 unfold uj told
 rw [if_neg h]
 cases nodeAt S.L id<;>rfl
theorem yZ {L:List Node} {id:Int} (h:id<2∨(L.length:Int)≤id-2):nodeAt L id=none:=by
 unfold nodeAt
 split
 ·exact List.getElem?_eq_none (by omega)
 ·rfl
theorem vO {L:List Node} {id:Int} (h:2≤id) (h2:id-2<(L.length:Int)):∃(k:Nat) (n:Node),id=(k:Int)+2∧L[k]? = some n∧nodeAt L id=some n∧k<L.length:=by
 obtain⟨k,hk⟩:=Int.eq_ofNat_of_zero_le (show 0≤id-2 by omega)
 have hlt:k<L.length:=by omega
 refine⟨k,L[k],by omega,List.getElem?_eq_getElem hlt,?_,hlt⟩
 unfold nodeAt
 rw [if_pos h,hk]
 exact List.getElem?_eq_getElem hlt
theorem Nz {w W1:World} {b:Nat} {S S':aW} {vL vG GN GQ:Value} (h:eY w b S vL vG) (hI:eY W1 b S' GN GQ) (hS:aB b w W1) (hn:¬bn W1 b w.heap.size) {x0 x1 x2 x3:Value} {t:TypeId} {f:Nat×Nat} (hh:W1.heap[w.heap.size]? = some (.cells #[x0,x1,x2,x3] t f)) (a0 a1 a2 a3:Value) :
 eY (four W1 w.heap.size a0 a1 a2 a3) b S' GN GQ∧aB b w (four W1 w.heap.size a0 a1 a2 a3)∧(four W1 w.heap.size a0 a1 a2 a3).cell? ⟨w.heap.size,0,none⟩=some a0∧(four W1 w.heap.size a0 a1 a2 a3).cell? ⟨w.heap.size,1,none⟩=some a1∧
  (four W1 w.heap.size a0 a1 a2 a3).cell? ⟨w.heap.size,2,none⟩=some a2∧(four W1 w.heap.size a0 a1 a2 a3).cell? ⟨w.heap.size,3,none⟩=some a3:=
 ⟨hI.beside (Aq _ _ _ _ _ _) (fun k q e=>hn (e▸q)),hS.fresh h.lt (Aq _ _ _ _ _ _) (fun k e=>by omega),ay (ko hh _ _ _ _) 0,ay (ko hh _ _ _ _) 1,ay (ko hh _ _ _ _) 2,ay (ko hh _ _ _ _) 3⟩
theorem xC (w:World) (b:Nat) (S:aW) (id:Int) (h:aA w b S) (hid:-1000000≤id∧id≤1000000) :
 Calls Tryz.prog 255 #[.pointer (some ⟨b,0,none⟩),.int .i64 id] w fun e w'=>e=.returned (iZ (uj S id).1 id)∧aA w' b (uj S id).2∧aB b w w':=by
 obtain⟨vL,vG,h⟩:=h
 have ho:=(Only.refl (fun _=>False) w).alloc OQ
 have hW:=h.still ho
 have hS:=aB.still h.lt ho
 have hne:b≠w.heap.size:=Nat.ne_of_lt h.lt
 unfold OQ at ho hW hS
 have c5:=ay hW.heap 5
 have z5:=aQ hW.heap 5
 have c0:=ay hW.heap 0
 simp only [List.getElem?_toArray,List.getElem?_cons_zero,List.getElem?_cons_succ] at c5 c0
 obtain⟨aL,cL,rfl⟩:=ownsRow_form h.iY
 have hlen:=h.few
 have hst:=h.stop
 have HR:=Lib.hid (bH w [.int .i64 0,.int .i64 0,.int .i64 0,.string ⟨#[]⟩] 252 (0,0))
 have HO:=Lib.hid ho
 have HS:=Lib.hid hS
 have HI:=Lib.hid hW
 have HP:=Lib.hid h
 clear h ho hS hW
 by_cases hs0:S.stop=0
 ·have he:uj S id=(.error 14,S):=by unfold uj;rw [if_pos hs0]
  rw [he]
  rw [hs0] at c5
  have HE:=Lib.hid hs0
  clear hs0 he
  go_enter Tryz.func255,Tryz.ntmps255
  go_wp2_with fail
  exact bodyPost_ret (v:=iZ (.error 14) id) (by simp [results,Tryz.results255,go_sem,iZ,vM,str]) rfl ⟨rfl,⟨_,_,HI.out⟩,HS.out⟩
 ·rw [uo S id hs0]
  by_cases hs1:0<S.stop
  ·have ht:told S = { S with stop:=S.stop-1 }:=by unfold told;rw [if_pos hs1]
   rw [ht]
   have XL:IntKind.i64.wrap (S.stop-1)=S.stop-1:=by exact IntWalk.i64_in _ (by omega)
   obtain⟨hI1,hS1⟩:=HI.out.put (S':={ S with stop:=S.stop-1 }) (heap_setCell HI.out.heap 5 (.int .i64 (S.stop-1))) (dB HI.out.iY HI.out.MJ 5 _) (dB HI.out.l8 HI.out.K5 5 _) ((Only.refl _ _).put b 5 (.inl rfl) _) (fun _ q=>.inl q) (fun _ q=>.inl q) HI.out.apart HI.out.sound HI.out.few rfl (by simp only;omega) HI.out.given
   have XM:=ay hI1.heap 5
   have c00:=ay hI1.heap 0
   have HI1:=Lib.hid hI1
   have kV:=Lib.hid (HS.out.trans hS1)
   simp only [List.getElem?_toArray,List.getElem?_cons_zero,List.getElem?_cons_succ] at XM c00
   clear hI1 hS1 ht
   have NA:=HI1.out.stop
   have hn:¬bn ((w.alloc (.cells #[.int .i64 0,.int .i64 0,.int .i64 0,.string ⟨#[]⟩] 252)).setCell ⟨b,5,none⟩ (.int .i64 (S.stop-1))) b w.heap.size:=fun q=>by
    rcases(HI1.out.iQ _).1 q with q | q | q
    ·exact hne q.symm
    ·have:=(HP.out.iY.lt _ q).2;omega
    ·have:=(HP.out.l8.lt _ q).2;omega
   have BX:=Lib.hid (Nz HP.out HI1.out kV.out hn ((Below.heap_setCell _ _ _ _ (Ne.symm hne)).trans (heap_alloc_new _ _)))
   clear hn
   by_cases hin:id<2∨(S.L.length:Int)≤id-2
   ·rw [yZ hin]
    have HX:=Lib.hid hin
    by_cases h2:id<2
    ·clear hin
     go_enter Tryz.func255,Tryz.ntmps255
     go_wp2_with fail
     obtain⟨k1,k2,q0,q1,q2,q3⟩:=BX.out (.int .i64 0) (.int .i64 0) (.int .i64 0) (.string ⟨#[]⟩)
     unfold four at k1 k2 q0 q1 q2 q3
     exact bodyPost_ret (v:=iZ (.error 8) id) (by simp [results,Tryz.results255,go_sem,iZ,vM,str,q0,q1,q2,q3]) rfl ⟨rfl,⟨_,_,k1⟩,k2⟩
    ·have h3:(S.L.length:Int)≤id-2:=hin.resolve_left h2
     have hw:IntKind.i64.wrap (id-2)=id-2:=by exact IntWalk.i64_in _ (by omega)
     clear hin
     go_enter Tryz.func255,Tryz.ntmps255
     go_wp2_with fail
     obtain⟨k1,k2,q0,q1,q2,q3⟩:=BX.out (.int .i64 0) (.int .i64 0) (.int .i64 0) (.string ⟨#[]⟩)
     unfold four at k1 k2 q0 q1 q2 q3
     exact bodyPost_ret (v:=iZ (.error 8) id) (by simp [results,Tryz.results255,go_sem,iZ,vM,str,q0,q1,q2,q3]) rfl ⟨rfl,⟨_,_,k1⟩,k2⟩
   ·have h2:¬id<2:=fun q=>hin (.inl q)
    have h3:¬(S.L.length:Int)≤id-2:=fun q=>hin (.inr q)
    obtain⟨k,n,rfl,hk,hn,hlt⟩:=vO (L:=S.L) (id:=id) (by omega) (by omega)
    rw [hn]
    obtain⟨g,rfl⟩:∃g,aL=some ⟨g,0,none⟩:=by
     rcases HI1.out.iY.2 with ⟨q,h0⟩ |⟨g,cap,cur,q,_⟩
     ·change S.L.length=0 at h0;omega
     ·injection q with q1 q2 q3;exact⟨g,q1⟩
    have e0:=aZ HI1.out.iY _ _ (gY hk (j:=0) rfl)
    have e1:=aZ HI1.out.iY _ _ (gY hk (j:=1) rfl)
    have e2:=aZ HI1.out.iY _ _ (gY hk (j:=2) rfl)
    have e3:=aZ HI1.out.iY _ _ (gY hk (j:=3) rfl)
    have hw:IntKind.i64.wrap ((k:Int)+2-2)=(k:Int):=by rw [show (k:Int)+2-2=(k:Int) by omega];exact IntWalk.i64_in _ (by omega)
    have hw2:IntKind.i64.wrap (k:Int)=(k:Int):=by exact IntWalk.i64_in _ (by omega)
    have hk1:(k:Int)<(S.L.length:Int):=by omega
    have hk2:¬(k:Int)+2<2:=by omega
    have hk3:¬(S.L.length:Int)≤(k:Int):=by omega
    clear hin h2 h3 hid
    simp only [iZ,qO,mI,Nat.add_zero] at e0 e1 e2 e3 ⊢
    go_enter Tryz.func255,Tryz.ntmps255
    go_wp2_with fail
    obtain⟨k1,k2,q0,q1,q2,q3⟩:=BX.out (.int .i64 (eU n)) (.int .i64 ((k:Int)+2)) (.int .i64 0) (str (eX n))
    unfold four at k1 k2 q0 q1 q2 q3
    exact bodyPost_ret (v:=.tuple #[.agg #[.int .i64 (eU n),.int .i64 ((k:Int)+2),.int .i64 0,str (eX n)],.int .i64 0]) (by simp [results,Tryz.results255,go_sem,q0,q1,q2,q3]) rfl ⟨rfl,⟨_,_,k1⟩,k2⟩
  ·have ht:told S=S:=by unfold told;rw [if_neg hs1]
   rw [ht]
   have HI1:=HI
   have kV:=HS
   have NA:=HI1.out.stop
   by_cases hin:id<2∨(S.L.length:Int)≤id-2
   ·rw [yZ hin]
    have HX:=Lib.hid hin
    by_cases h2:id<2
    ·clear hin
     go_enter Tryz.func255,Tryz.ntmps255
     go_wp2_with fail
     exact bodyPost_ret (v:=iZ (.error 8) id) (by simp [results,Tryz.results255,go_sem,iZ,vM,str]) rfl ⟨rfl,⟨_,_,HI1.out⟩,kV.out⟩
    ·have h3:(S.L.length:Int)≤id-2:=hin.resolve_left h2
     have hw:IntKind.i64.wrap (id-2)=id-2:=by exact IntWalk.i64_in _ (by omega)
     clear hin
     go_enter Tryz.func255,Tryz.ntmps255
     go_wp2_with fail
     exact bodyPost_ret (v:=iZ (.error 8) id) (by simp [results,Tryz.results255,go_sem,iZ,vM,str]) rfl ⟨rfl,⟨_,_,HI1.out⟩,kV.out⟩
   ·have h2:¬id<2:=fun q=>hin (.inl q)
    have h3:¬(S.L.length:Int)≤id-2:=fun q=>hin (.inr q)
    obtain⟨k,n,rfl,hk,hn,hlt⟩:=vO (L:=S.L) (id:=id) (by omega) (by omega)
    rw [hn]
    obtain⟨g,rfl⟩:∃g,aL=some ⟨g,0,none⟩:=by
     rcases HI1.out.iY.2 with ⟨q,h0⟩ |⟨g,cap,cur,q,_⟩
     ·change S.L.length=0 at h0;omega
     ·injection q with q1 q2 q3;exact⟨g,q1⟩
    have e0:=aZ HI1.out.iY _ _ (gY hk (j:=0) rfl)
    have e1:=aZ HI1.out.iY _ _ (gY hk (j:=1) rfl)
    have e2:=aZ HI1.out.iY _ _ (gY hk (j:=2) rfl)
    have e3:=aZ HI1.out.iY _ _ (gY hk (j:=3) rfl)
    have hw:IntKind.i64.wrap ((k:Int)+2-2)=(k:Int):=by rw [show (k:Int)+2-2=(k:Int) by omega];exact IntWalk.i64_in _ (by omega)
    have hw2:IntKind.i64.wrap (k:Int)=(k:Int):=by exact IntWalk.i64_in _ (by omega)
    have hk1:(k:Int)<(S.L.length:Int):=by omega
    have hk2:¬(k:Int)+2<2:=by omega
    have hk3:¬(S.L.length:Int)≤(k:Int):=by omega
    clear hin h2 h3 hid
    simp only [iZ,qO,mI,Nat.add_zero] at e0 e1 e2 e3 ⊢
    go_enter Tryz.func255,Tryz.ntmps255
    go_wp2_with fail
    have ho:=(Only.refl (fun _=>False) w).alloc (.cells #[.int .i64 (eU n),.int .i64 ((k:Int)+2),.int .i64 0,str (eX n)] 252)
    exact bodyPost_ret (v:=.tuple #[.agg #[.int .i64 (eU n),.int .i64 ((k:Int)+2),.int .i64 0,str (eX n)],.int .i64 0]) (by simp [results,Tryz.results255,go_sem]) rfl ⟨rfl,⟨_,_,HP.out.still ho⟩,aB.still HP.out.lt ho⟩
end
section
open Go.RowKit
theorem nM:(Tryz.prog.info? 252).map (fun i=>(i.zero,i.size,i.bytes))=some (some (.agg #[.int .i64 0,.int .i64 0,.int .i64 0,.string ⟨#[]⟩]),4,40):=by kernel_rfl
def resId (r:Except Int Int):Value:=match r with
 | .ok id=>.tuple #[.int .i64 id,.int .i64 0]
 | .error e=>.tuple #[.int .i64 0,.int .i64 e]
theorem K3 (w:World) (b:Nat) (S:aW) (id:Int) (h:aA w b S) (hid:-1000000≤id∧id≤1000000) :
 Calls Tryz.prog 256 #[.pointer (some ⟨b,0,none⟩),.int .i64 id] w fun e w'=>e=.returned (.bool (eD S id))∧w=w':=by
 obtain⟨vL,vG,h⟩:=h
 have c0:=ay h.heap 0
 have c1:=ay h.heap 1
 simp only [List.getElem?_toArray,List.getElem?_cons_zero,List.getElem?_cons_succ] at c0 c1
 obtain⟨aL,cL,rfl⟩:=ownsRow_form h.iY
 have hlen:=h.few
 have hw:IntKind.i64.wrap (id-2)=id-2:=by exact IntWalk.i64_in _ (by omega)
 have hm:eD S id=decide (S.mine≤id∧id-2<(S.L.length:Int)∧2≤id):=rfl
 rw [hm]
 clear h hm
 by_cases h1:S.mine≤id
 ·by_cases h2:id-2<(S.L.length:Int)
  ·by_cases h3:2≤id
   ·rw [decide_eq_true ⟨h1,h2,h3⟩]
    go_enter Tryz.func256,Tryz.ntmps256
    go_wp2_with fail
    go_ret
    exact⟨rfl,rfl⟩
   ·rw [decide_eq_false (fun q=>h3 q.2.2)]
    go_enter Tryz.func256,Tryz.ntmps256
    go_wp2_with fail
    go_ret
    exact⟨rfl,rfl⟩
  ·rw [decide_eq_false (fun q=>h2 q.2.1)]
   go_enter Tryz.func256,Tryz.ntmps256
   go_wp2_with fail
   go_ret
   exact⟨rfl,rfl⟩
 ·rw [decide_eq_false (fun q=>h1 q.1)]
  go_enter Tryz.func256,Tryz.ntmps256
  go_wp2_with fail
  go_ret
  exact⟨rfl,rfl⟩
theorem Nw (w:World) (b:Nat) (S:aW) (n:Node) (h:aA w b S) (hn:mQ n) :
 Calls Tryz.prog 257 #[.pointer (some ⟨b,0,none⟩),qO n 0] w fun e w'=>e=.returned (resId (newP S n).1)∧aA w' b (newP S n).2∧aB b w w':=by
 obtain⟨i0,hi,hz0,hz1,hz2⟩:=info_parts nM
 obtain⟨vL,vG,h⟩:=h
 have hlen:=h.few
 obtain⟨aL,cL,rfl⟩:=ownsRow_form h.iY
 have hne:b≠w.heap.size:=Nat.ne_of_lt h.lt
 have ho:=(Only.refl (fun _=>False) w).alloc (.cells #[.int .i64 (eU n),.int .i64 ((S.L.length:Int)+2),.int .i64 0,str (eX n)] 252)
 have hW:=h.still ho
 have hS:=aB.still h.lt ho
 have hw:IntKind.i64.wrap ((S.L.length:Int)+2)=(S.L.length:Int)+2:=by exact IntWalk.i64_in _ (by omega)
 have HP:=Lib.hid h
 have HS:=Lib.hid hS
 have HI:=Lib.hid hW
 have c00:=ay ((h.still ((Only.refl (fun _=>False) w).alloc (.cells #[.int .i64 (eU n),.int .i64 0,.int .i64 0,str (eX n)] 252))).heap) 0
 have c0:=ay hW.heap 0
 have z0:=aQ hW.heap 0
 simp only [List.getElem?_toArray,List.getElem?_cons_zero] at c0 c00
 unfold qO mI
 unfold newP
 clear h hS hW ho
 by_cases hf:3998≤S.L.length
 ·rw [if_pos hf]
  have hf2:(4000:Int)≤(S.L.length:Int)+2:=by omega
  go_enter Tryz.func257,Tryz.ntmps257
  go_wp2_with fail
  go_ret2
  exact⟨rfl,⟨_,_,HI.out⟩,HS.out⟩
 ·rw [if_neg hf]
  have hf2:¬(4000:Int)≤(S.L.length:Int)+2:=by omega
  have q0:=ay (heap_alloc_new w (.cells #[.int .i64 (eU n),.int .i64 ((S.L.length:Int)+2),.int .i64 0,str (eX n)] 252)) 0
  have q1:=ay (heap_alloc_new w (.cells #[.int .i64 (eU n),.int .i64 ((S.L.length:Int)+2),.int .i64 0,str (eX n)] 252)) 1
  have q2:=ay (heap_alloc_new w (.cells #[.int .i64 (eU n),.int .i64 ((S.L.length:Int)+2),.int .i64 0,str (eX n)] 252)) 2
  have q3:=ay (heap_alloc_new w (.cells #[.int .i64 (eU n),.int .i64 ((S.L.length:Int)+2),.int .i64 0,str (eX n)] 252)) 3
  simp only [List.getElem?_toArray,List.getElem?_cons_zero,List.getElem?_cons_succ] at q0 q1 q2 q3
  go_enter Tryz.func257,Tryz.ntmps257
  go_wp2_with fail
  have hWs:(w.alloc (.cells #[.int .i64 (eU n),.int .i64 ((S.L.length:Int)+2),.int .i64 0,str (eX n)] 252)).heap.size=w.heap.size+1:=by simp
  generalize (w.alloc (.cells #[.int .i64 (eU n),.int .i64 ((S.L.length:Int)+2),.int .i64 0,str (eX n)] 252))=W at *
  have hbW:b<W.heap.size:=HI.out.lt
  have BZ:=HI.out.MJ
  have hBW:w.heap.size<W.heap.size:=by omega
  have hBL:(Value.slice aL S.L.length cL).ownBlock≠some w.heap.size:=fun e=>by have:=(HP.out.iY.lt _ e).2;omega
  have own:=HI.out.iY
  generalize w.heap.size=B at *
  have Wq:=Lib.hid hWs
  clear hWs
  go_region_law (refine dF _ rfl _ _ 60 rfl 252 i0 _ 4 40 Tryz.underlying60 hi hz0 hz1 hz2 rfl (by decide) _ _ _ rfl (own.drew.alloc _) ⟨W.heap.size,0,none⟩ 1 1 [.int .i64 (eU n),.int .i64 ((S.L.length:Int)+2),.int .i64 0,str (eX n)] rfl rfl (bH W.drew [.int .i64 (eU n),.int .i64 ((S.L.length:Int)+2),.int .i64 0,str (eX n)] 252 _) (by simp [Value.oneCell',str]) (by unfold maxLen;omega) (by omega) ?_;intro a' c' wa hown2 hgr hmv;have hq:Only (fun k=>(Value.slice aL S.L.length cL).ownBlock=some k) W wa:=(((Only.refl _ W).drew).alloc _).grown hgr (fun k _ h=>h);have e0:=(hq.cell (p:=⟨b,0,none⟩) hbW BZ).trans c0;have y0:=(hq.frozen (p:=⟨b,0,none⟩) hbW BZ).trans z0;have f1:=(hq.cell (p:=⟨B,1,none⟩) hBW hBL).trans q1;clear hgr)
  all_goals
   have hin:=HI.out
   have OT:∀k,(Value.slice a' (S.L.length+1) c').ownBlock=some k→(Value.slice aL S.L.length cL).ownBlock=some k∨W.heap.size≤k:=fun k hk=>(hmv k hk).imp id fun q=>by simp at q;omega
   have hnb:(Value.slice a' (S.L.length+1) c').ownBlock≠some b:=fun e=>(OT b e).elim BZ fun q=>by omega
   have hl2:(S.L++[n]).length=S.L.length+1:=by simp
   have hput:=hin.put (S':={ S with L:=S.L++[n] }) (w1:=wa.setCell ⟨b,0,none⟩ (.slice a' (S.L.length+1) c')) (GN:=.slice a' (S.L.length+1) c') (GQ:=vG)
    (heap_setCell ((hq.block b hbW BZ).trans hin.heap) 0 _)
    (by
     have:=dB hown2 hnb 0 (.slice a' (S.L.length+1) c')
     show World.ownsRow _ 0 _ 4 _ (S.L++[n]).length (iI (S.L++[n]))
     rw [qP,hl2]
     exact this)
    (dB (aP hin.l8 hq (fun k hk e=>hin.apart k e hk)) hin.K5 0 _)
    ((hq.mono (fun k _ hk=>(hin.iQ k).2 (.inr (.inl hk)))).put b 0 (.inl rfl) _) OT (fun k hk=>.inl hk)
    (fun k hk e=>(OT k hk).elim (fun q=>hin.apart k q e) fun q=>by have:=(hin.l8.lt k e).2;omega)
    (fun m hm=>by
     rcases List.mem_append.1 hm with hm | hm
     ·exact hin.sound m hm
     ·rw [List.mem_singleton.1 hm];exact hn)
    (by simp only [hl2];omega) rfl hin.stop hin.given
   have HX:=Lib.hid hput
   clear hput hq hown2 hmv hin
   go_wp2_with fail
   go_ret2
   exact⟨by simp [resId],⟨_,_,HX.out.1⟩,HS.out.trans HX.out.2⟩
end
section
open Go.RowKit
theorem FE (l:List (Node×Nat)) (k:Nat) (x:Node×Nat) (hk:k<l.length) :
 ((((l.flatMap BU).set (k * 4) (.int .i64 (eU x.1))).set (k * 4+1) (.int .i64 ((x.2+2:Nat):Int))).set (k * 4+2) (.int .i64 0)).set (k * 4+3) (str (eX x.1))=(l.set k x).flatMap BU:=by
 induction l generalizing k with
 | nil=>simp at hk
 | cons a l ih=>
  cases k with
  | zero=>rfl
  | succ k=>
   have:=ih k (by simpa using hk)
   rw [List.flatMap_cons,List.set_cons_succ,List.flatMap_cons,←this]
   have e0:(k+1) * 4=k * 4+4:=by omega
   have hl:(BU a).length=4:=rfl
   rw [e0,List.set_append_right _ _ (by rw [hl];omega),List.set_append_right _ _ (by rw [hl];omega),List.set_append_right _ _ (by rw [hl];omega),List.set_append_right _ _ (by rw [hl];omega),hl]
   rw [show k * 4+4-4=k * 4 by omega,show k * 4+4+1-4=k * 4+1 by omega,show k * 4+4+2-4=k * 4+2 by omega,show k * 4+4+3-4=k * 4+3 by omega]
theorem FH (L:List Node) (k:Nat) (n:Node) (hk:k<L.length) :
 ((((iI L).set (k * 4) (.int .i64 (eU n))).set (k * 4+1) (.int .i64 ((k+2:Nat):Int))).set (k * 4+2) (.int .i64 0)).set (k * 4+3) (str (eX n))=iI (L.set k n):=by
 have e:(L.set k n).zipIdx=L.zipIdx.set k (n,k):=by
  apply List.ext_getElem?
  intro i
  rw [List.getElem?_zipIdx,List.getElem?_set,List.getElem?_set,List.getElem?_zipIdx]
  by_cases hi:k=i
  ·subst hi
   rw [if_pos rfl,if_pos rfl,List.length_zipIdx,if_pos hk,if_pos hk]
   simp
  ·rw [if_neg hi,if_neg hi]
 unfold iI
 rw [e]
 exact FE L.zipIdx k (n,k) (by rw [List.length_zipIdx];exact hk)
theorem Ny (w:World) (b:Nat) (S:aW) (n:Node) (id:Int) (h:aA w b S) (hn:mQ n) (hm:eD S id=true) :
 Calls Tryz.prog 259 #[.pointer (some ⟨b,0,none⟩),qO n id] w fun e w'=>e=.returned (.int .i64 0)∧aA w' b { S with L:=S.L.set (id-2).toNat n }∧aB b w w':=by
 obtain⟨i0,hi,hz0,hz1,hz2⟩:=info_parts nM
 obtain⟨vL,vG,h⟩:=h
 have hlen:=h.few
 simp only [eD,decide_eq_true_eq] at hm
 obtain⟨k,n0,rfl,hk,_,hlt⟩:=vO (L:=S.L) (id:=id) hm.2.2 hm.2.1
 have hkn:((k:Int)+2-2).toNat=k:=by omega
 rw [hkn]
 obtain⟨aL,cL,rfl⟩:=ownsRow_form h.iY
 obtain⟨g,rfl⟩:∃g,aL=some ⟨g,0,none⟩:=by
  rcases h.iY.2 with ⟨q,h0⟩ |⟨g,cap,cur,q,_⟩
  ·omega
  ·injection q with q1 q2 q3;exact⟨g,q1⟩
 have hne:b≠w.heap.size:=Nat.ne_of_lt h.lt
 have ho:=(Only.refl (fun _=>False) w).alloc (.cells #[.int .i64 (eU n),.int .i64 ((k:Int)+2),.int .i64 0,str (eX n)] 252)
 have hW:=h.still ho
 have hS:=aB.still h.lt ho
 have c0:=ay hW.heap 0
 have c1:=ay hW.heap 1
 have z0:=aQ hW.heap 0
 have q0:=ay (heap_alloc_new w (.cells #[.int .i64 (eU n),.int .i64 ((k:Int)+2),.int .i64 0,str (eX n)] 252)) 0
 have q1:=ay (heap_alloc_new w (.cells #[.int .i64 (eU n),.int .i64 ((k:Int)+2),.int .i64 0,str (eX n)] 252)) 1
 have q2:=ay (heap_alloc_new w (.cells #[.int .i64 (eU n),.int .i64 ((k:Int)+2),.int .i64 0,str (eX n)] 252)) 2
 have q3:=ay (heap_alloc_new w (.cells #[.int .i64 (eU n),.int .i64 ((k:Int)+2),.int .i64 0,str (eX n)] 252)) 3
 simp only [List.getElem?_toArray,List.getElem?_cons_zero,List.getElem?_cons_succ] at c0 c1 q0 q1 q2 q3
 have HS:=Lib.hid hS
 have HI:=Lib.hid hW
 have hBL:(Value.slice (some ⟨g,0,none⟩) S.L.length cL).ownBlock≠some w.heap.size:=fun e=>by have:=(h.iY.lt _ e).2;omega
 have hBG:vG.ownBlock≠some w.heap.size:=fun e=>by have:=(h.l8.lt _ e).2;omega
 have hw:IntKind.i64.wrap (k:Int)=(k:Int):=by exact IntWalk.i64_in _ (by omega)
 have hm1:¬(k:Int)+2<S.mine:=by omega
 have hm2:¬(S.L.length:Int)≤(k:Int):=by omega
 have XI:¬(k:Int)+2<2:=by omega
 have hk1:(k:Int)<(S.L.length:Int):=by omega
 unfold qO mI
 clear h hS hW ho hm hk hkn
 go_enter Tryz.func259,Tryz.ntmps259
 go_wp2_with fail
 have hWs:(w.alloc (.cells #[.int .i64 (eU n),.int .i64 ((k:Int)+2),.int .i64 0,str (eX n)] 252)).heap.size=w.heap.size+1:=by simp
 generalize (w.alloc (.cells #[.int .i64 (eU n),.int .i64 ((k:Int)+2),.int .i64 0,str (eX n)] 252))=W at *
 have hBW:w.heap.size<W.heap.size:=by omega
 generalize w.heap.size=B at *
 have Wq:=Lib.hid hWs
 clear hWs
 have p0:∀p:fu W,p.u.cell? ⟨b,0,none⟩=some (.slice (some ⟨g,0,none⟩) S.L.length cL):=fun p=>p.cell c0
 have p1:∀p:fu W,p.u.cell? ⟨b,1,none⟩=some (.int .i64 S.mine):=fun p=>p.cell c1
 have r1:∀p:fu W,p.u.cell? ⟨B,1,none⟩=some (.int .i64 ((k:Int)+2)):=fun p=>p.cell q1
 refine bD (by kernel_rfl) (by kernel_rfl) (fun _W h0 h1=>?_)
 repeat (refine h1 _ _ _ (fun K hK=>?_);go_simp;refine hK _ ?_;clear hK K)
 refine h0 _ (fun p=>?_)
 clear h0 h1
 have hin2:=HI.out.still p.h
 have HS2:=Lib.hid (HS.out.trans (aB.still HI.out.lt p.h))
 have hW2:=Nat.lt_of_lt_of_le hBW p.h.size
 have q0:=p.cell q0
 have q1:=p.cell q1
 have q2:=p.cell q2
 have q3:=p.cell q3
 have c0:=p0 p
 have z0:=(p.h.frozen (p:=⟨b,0,none⟩) HI.out.lt id).trans z0
 clear p0 p1 r1 c1 HS HI Wq hBW
 generalize p.u=W at *
 clear p
 have hcells:=hin2.iY.cells (g:=g) rfl
 have hone:∀u∈iI S.L,u.oneCell'=true:=by
  intro u hu
  obtain⟨x,_,hu⟩:=List.mem_flatMap.1 hu
  simp only [BU,mI,List.mem_cons,List.not_mem_nil,or_false] at hu
  rcases hu with rfl | rfl | rfl | rfl<;>rfl
 have HI:=Lib.hid hin2
 have hpl:=zH S.L
 clear hin2
 go_wp2_with (at_builtin;refine aM _ rfl _ _ 60 rfl 252 i0 _ 4 40 Tryz.underlying60 hi hz0 hz1 hz2 rfl (by decide) (.slice none 0 0) 0 [] rfl ⟨rfl,.inl ⟨rfl,rfl⟩⟩ ⟨g,0,none⟩ S.L.length cL (iI S.L) rfl hpl hcells hone (by unfold maxLen;omega) (by omega) ?_;intro a' c' wa hown2 hgr hmv;have hq:Only (fun _=>False) W wa:=(Only.refl _ W).grown hgr (fun k _ h=>by cases h);have e0:=(hq.cell (p:=⟨b,0,none⟩) HI.out.lt id).trans c0;have y0:=(hq.frozen (p:=⟨b,0,none⟩) HI.out.lt id).trans z0;have HX:=Lib.hid (And.intro hown2 (And.intro hq hmv));clear hown2 hgr hmv hq)
 obtain⟨hown,hq,hmv⟩:=HX.out
 rw [Nat.zero_add,List.nil_append] at hown
 have R6:∀j,(Value.slice a' S.L.length c').ownBlock=some j→W.heap.size≤j:=fun j hj=>by
  rw [Nat.zero_add] at hmv
  exact(hmv j hj).elim (fun q=>by cases q) id
 obtain⟨g',rfl⟩:∃g',a'=some ⟨g',0,none⟩:=by
  rcases hown.2 with ⟨q,h0⟩ |⟨g,cap,cur,q,_⟩
  ·omega
  ·injection q with q1 q2 q3;exact⟨g,q1⟩
 have hg':W.heap.size≤g':=R6 g' rfl
 have hbg:b≠g':=fun e=>by have:=HI.out.lt;omega
 have hBg:B≠g':=fun e=>by omega
 have QM:=HI.out.still hq
 have hnb:(Value.slice (some ⟨g',0,none⟩) S.L.length c').ownBlock≠some b:=fun e=>hbg (Option.some.inj e).symm
 have hown5:=dB hown hnb 0 (.slice (some ⟨g',0,none⟩) S.L.length c')
 have QN:=heap_setCell QM.heap 0 (.slice (some ⟨g',0,none⟩) S.L.length c')
 have c0:=ay QN 0
 have d0:=aZ hown5 (k * 4) _ (List.getElem?_eq_getElem (by rw [hpl];omega))
 have d1:=aZ hown5 (k * 4+1) _ (List.getElem?_eq_getElem (by rw [hpl];omega))
 have d2:=aZ hown5 (k * 4+2) _ (List.getElem?_eq_getElem (by rw [hpl];omega))
 have d3:=aZ hown5 (k * 4+3) _ (List.getElem?_eq_getElem (by rw [hpl];omega))
 have f0:=eF hown5 (k * 4)
 have f1:=eF hown5 (k * 4+1)
 have f2:=eF hown5 (k * 4+2)
 have f3:=eF hown5 (k * 4+3)
 have q0:=(World.cell?_setCell_other wa ⟨b,0,none⟩ ⟨B,0,none⟩ (.slice (some ⟨g',0,none⟩) S.L.length c') (mV _ _ hne)).trans ((hq.cell (p:=⟨B,0,none⟩) hW2 id).trans q0)
 have q1:=(World.cell?_setCell_other wa ⟨b,0,none⟩ ⟨B,1,none⟩ (.slice (some ⟨g',0,none⟩) S.L.length c') (mV _ _ hne)).trans ((hq.cell (p:=⟨B,1,none⟩) hW2 id).trans q1)
 have q2:=(World.cell?_setCell_other wa ⟨b,0,none⟩ ⟨B,2,none⟩ (.slice (some ⟨g',0,none⟩) S.L.length c') (mV _ _ hne)).trans ((hq.cell (p:=⟨B,2,none⟩) hW2 id).trans q2)
 have q3:=(World.cell?_setCell_other wa ⟨b,0,none⟩ ⟨B,3,none⟩ (.slice (some ⟨g',0,none⟩) S.L.length c') (mV _ _ hne)).trans ((hq.cell (p:=⟨B,3,none⟩) hW2 id).trans q3)
 simp only [List.setIfInBounds_toArray,List.getElem?_toArray,List.set_cons_zero,List.getElem?_cons_zero] at c0
 have XO:=Lib.hid (And.intro hown5 (And.intro QM QN))
 have XP:=Lib.hid hq
 clear hown hq hmv R6 QM hnb hown5 QN e0 y0 hone hcells HX
 generalize Q7:wa.setCell ⟨b,0,none⟩ (.slice (some ⟨g',0,none⟩) S.L.length c')=W5 at *
 have U3:=Lib.hid Q7
 clear Q7
 go_region_law (fail)
 all_goals
  go_wp2_with fail
  go_ret
  obtain⟨hown5,QM,QN⟩:=XO.out
  have hrow:=iR (iR (iR (iR hown5.drew (k * 4) (.int .i64 (eU n))) (k * 4+1) (.int .i64 ((k+2:Nat):Int))) (k * 4+2) (.int .i64 0)) (k * 4+3) (str (eX n))
  rw [FH S.L k n hlt] at hrow
  have U4:=(((((Only.refl (fun j=>j=g') W5).drew).put g' (k * 4) rfl (.int .i64 (eU n))).put g' (k * 4+1) rfl (.int .i64 ((k+2:Nat):Int))).put g' (k * 4+2) rfl (.int .i64 0)).put g' (k * 4+3) rfl (str (eX n))
  have hoa:Only (fun j=>j=b) wa W5:=by rw [←U3.out];exact(Only.refl (fun j=>j=b) wa).put b 0 rfl _
  have XQ:Only (fun _=>False) W wa:=XP.out
  have hb5:b<W5.heap.size:=(Array.getElem?_eq_some_iff.1 QN).1
  have hsz5:=hoa.size
  have R7:∀j,vG.ownBlock=some j→j≠g':=fun j hj e=>by have:=(HI.out.l8.lt j hj).2;omega
  have hput:=HI.out.put (S':={ S with L:=S.L.set k n }) (GN:=.slice (some ⟨g',0,none⟩) S.L.length c') (GQ:=vG) ((U4.block b hb5 hbg).trans QN)
   (by
    show World.ownsRow _ 0 _ 4 _ (S.L.set k n).length (iI (S.L.set k n))
    rw [List.length_set]
    exact hrow)
   (aP (aP QM.l8 hoa (fun j hj e=>QM.K5 (e▸hj))) U4 (fun j hj e=>R7 j hj e))
   (((XQ.mono (fun _ _ q=>q.elim)).trans (hoa.mono (fun j _ e=>(show bn W b j from .inl e))) (fun j _ q=>q)).trans U4 (fun j hj e=>by have e2:j=g':=e;omega))
   (fun j hj=>.inr (by have e:g'=j:=Option.some.inj hj;omega)) (fun j hj=>.inl hj) (fun j hj e=>R7 j e (Option.some.inj hj).symm)
   (fun m hm=>by
    rcases List.mem_or_eq_of_mem_set hm with hm | rfl
    ·exact HI.out.sound m hm
    ·exact hn) (by simp only [List.length_set];exact hlen) rfl HI.out.stop HI.out.given
  exact⟨rfl,⟨_,_,hput.1⟩,HS2.out.trans hput.2⟩
end
section
open Go.RowKit
theorem nN:(Tryz.prog.info? 3).map (fun i=>(i.zero,i.size,i.bytes))=some (some (.int .i64 0),1,8):=by kernel_rfl
def dA:aW:={ L:=[],mine:=2,given:=[],bad:=false,twice:=false,stop:=-1 }
theorem xZ (w:World):Calls Tryz.prog 19 #[] w fun e w'=>e=.returned (.pointer (some ⟨w.heap.size,0,none⟩))∧aA w' w.heap.size dA∧Only (fun _=>False) w w'∧(∀k,bn w' w.heap.size k→w.heap.size≤k):=by
 go_enter Tryz.func19,Tryz.ntmps19
 go_wp2_with fail
 go_ret
 have h:eY (w.alloc (.cells #[.slice none 0 0,.int .i64 2,.slice none 0 0,.bool false,.bool false,.int .i64 (-1)] 62)) w.heap.size dA (.slice none 0 0) (.slice none 0 0):=
  ⟨heap_alloc_new _ _,⟨rfl,.inl ⟨rfl,rfl⟩⟩,⟨rfl,.inl ⟨rfl,rfl⟩⟩,(fun q=>by cases q),(fun q=>by cases q),(fun k q=>by cases q),(fun n hn=>by cases hn),by decide,⟨by decide,by decide⟩,⟨by decide,by decide⟩,by decide⟩
 refine⟨rfl,⟨_,_,h⟩,(Only.refl _ w).alloc _,fun k q=>?_⟩
 rcases(h.iQ k).1 q with q | q | q
 ·omega
 ·cases q
 ·cases q
theorem uE (w:World) (b:Nat) (S:aW) (id:Int) (v:Value) (h:aA w b S) (hg:S.given.length<1000000) (hv:∃g off c,v=.slice (some ⟨g,off,none⟩) 1 c∧w.cell? ⟨g,off,none⟩=some (.int .i64 id)∧¬bn w b g) :
 Calls Tryz.prog 254 #[.pointer (some ⟨b,0,none⟩),v] w fun e w'=>e=.returned (.tuple #[])∧aA w' b (fV S id)∧aB b w w':=by
 obtain⟨i0,hi,hz0,hz1,hz2⟩:=info_parts nN
 obtain⟨vL,vG,h⟩:=h
 obtain⟨gi,BS,ci,rfl,hci,hni⟩:=hv
 obtain⟨aG,cG,rfl⟩:=ownsRow_form h.l8
 have HP:=Lib.hid h
 go_enter Tryz.func254,Tryz.ntmps254
 go_wp2_with fail
 refine wp_loop_rounds 2 ?_
 rw [rounds_succ]
 go_wp2_with fail
 go_loopg [5] S.given.length (fun gh i wr=>∃(k:Nat) (tw:Bool),gh+k=S.given.length∧i=.int .i64 k∧tw=(S.twice ||(S.given.take k).any (fun g=>g == id))∧eY wr b { S with twice:=tw } vL (.slice aG S.given.length cG)∧aB b w wr∧wr.cell? ⟨gi,BS,none⟩=some (.int .i64 id))
 case atStart=>exact⟨0,S.twice,by omega,rfl,by simp,h,aB.refl b w,hci⟩
 case round=>
  obtain⟨k,tw,hgh,rfl,vB,hin,hst,hc⟩:=hrel
  have c4:=ay hin.heap 4
  have c2:=ay hin.heap 2
  have z4:=aQ hin.heap 4
  simp only [List.getElem?_toArray,List.getElem?_cons_zero,List.getElem?_cons_succ] at c4 c2
  have HI:=Lib.hid hin
  have HS:=Lib.hid hst
  have HT:=Lib.hid vB
  clear hin hst vB
  have R8:=hg
  by_cases hk:k<S.given.length
  ·have hk1:(k:Int)<(S.given.length:Int):=by omega
   obtain⟨x,hx⟩:∃x,S.given[k]? = some x:=⟨_,List.getElem?_eq_getElem hk⟩
   obtain⟨g,rfl⟩:∃g,aG=some ⟨g,0,none⟩:=by
    rcases HP.out.l8.2 with ⟨q,h0⟩ |⟨g,cap,cur,q,_⟩
    ·omega
    ·injection q with q1 q2 q3;exact⟨g,q1⟩
   have e0:=aZ HI.out.l8 k (.int .i64 x) (by unfold eT;rw [List.getElem?_map];simp only;rw [hx];rfl)
   have hw1:IntKind.i64.wrap ((k:Int)+1)=(k:Int)+1:=by exact IntWalk.i64_in _ (by omega)
   have hnx:(S.twice ||(S.given.take (k+1)).any (fun g=>g == id))=(tw ||(x == id)):=by
    rw [List.take_add_one,hx,List.any_append,←Bool.or_assoc,←HT.out]
    simp
   have HN:=Lib.hid hnx
   have HX:∀Ca:Bool,eY (wr.drew.setCell ⟨b,4,none⟩ (.bool Ca)) b { S with twice:=Ca } vL (.slice (some ⟨g,0,none⟩) S.given.length cG)∧aB b wr (wr.drew.setCell ⟨b,4,none⟩ (.bool Ca)):=fun Ca=>
    HI.out.put (S':={ S with twice:=Ca }) (heap_setCell (w:=wr.drew) HI.out.heap 4 (.bool Ca)) (dB HI.out.iY.drew HI.out.MJ 4 _) (dB HI.out.l8.drew HI.out.K5 4 _) ((Only.refl _ _).drew.put b 4 (.inl rfl) _) (fun _ q=>.inl q) (fun _ q=>.inl q) HI.out.apart HI.out.sound HI.out.few rfl HI.out.stop HI.out.given
   have IW:=Lib.hid HX
   have hcb:∀Ca:Bool,(wr.drew.setCell ⟨b,4,none⟩ (.bool Ca)).cell? ⟨gi,BS,none⟩=some (.int .i64 id):=fun Ca=>by
    rw [World.cell?_setCell_other wr.drew ⟨b,4,none⟩ ⟨gi,BS,none⟩ _ (mV _ _ (fun e=>hni (.inl e.symm)))]
    exact hc
   have R9:=Lib.hid hcb
   clear hnx HX hcb hx
   cases tw with
   | true=>
    go_wp2_with fail
    go_region
    all_goals
     go_wp2_with fail
     go_roundg (gk-1)
     case measure=>omega
     case rel=>
      refine⟨k+1,true,by omega,by go_num,?_,(IW.out true).1,HS.out.trans (IW.out true).2,R9.out true⟩
      rw [HN.out];rfl
   | false=>
    go_wp2_with fail
    go_region
    all_goals
     go_wp2_with fail
     go_roundg (gk-1)
     case measure=>omega
     case rel=>
      refine⟨k+1,x == id,by omega,by go_num,?_,(IW.out (x == id)).1,HS.out.trans (IW.out (x == id)).2,R9.out (x == id)⟩
      rw [HN.out];rfl
  ·obtain rfl:k=S.given.length:=by omega
   have hk1:¬(S.given.length:Int)<(S.given.length:Int):=by omega
   have z2:=aQ HI.out.heap 2
   have hbW:b<wr.heap.size:=HI.out.lt
   have Cb:=HI.out.K5
   have own:=HI.out.l8
   clear HP
   go_wp2_with fail
   go_region_law (refine dF _ rfl _ _ 57 rfl 3 i0 _ 1 8 Tryz.underlying57 hi hz0 hz1 hz2 rfl (by decide) _ _ _ rfl (own.drew.alloc _) ⟨wr.heap.size,0,none⟩ 1 1 [.int .i64 id] rfl rfl (bH wr.drew [.int .i64 id] 3 _) (by simp [Value.oneCell']) (by unfold maxLen;omega) (by omega) ?_;intro a' c' wa hown2 hgr hmv;have hq:Only (fun k=>(Value.slice aG S.given.length cG).ownBlock=some k) wr wa:=(((Only.refl _ wr).drew).alloc _).grown hgr (fun k _ h=>h);have e2:=(hq.cell (p:=⟨b,2,none⟩) hbW Cb).trans c2;have y2:=(hq.frozen (p:=⟨b,2,none⟩) hbW Cb).trans z2;clear hgr)
   all_goals
    have Qe:∀k,(Value.slice a' (S.given.length+1) c').ownBlock=some k→(Value.slice aG S.given.length cG).ownBlock=some k∨wr.heap.size≤k:=fun k hk=>(hmv k hk).imp (fun q=>q) fun q=>by simp at q;omega
    have hin:=HI.out
    have hnb:(Value.slice a' (S.given.length+1) c').ownBlock≠some b:=fun e=>(Qe b e).elim Cb fun q=>by omega
    have hl2:(S.given++[id]).length=S.given.length+1:=by simp
    have hput:=hin.put (S':=fV S id) (w1:=wa.setCell ⟨b,2,none⟩ (.slice a' (S.given.length+1) c')) (GN:=vL) (GQ:=.slice a' (S.given.length+1) c')
     (by
      have:=heap_setCell ((hq.block b hbW Cb).trans hin.heap) 2 (.slice a' (S.given.length+1) c')
      have e:tw=(fV S id).twice:=by rw [HT.out,List.take_length];rfl
      rw [←e]
      exact this)
     (dB (aP hin.iY hq (fun k hk e=>hin.apart k hk e)) hin.MJ 2 _)
     (by
      have:=dB hown2 hnb 2 (.slice a' (S.given.length+1) c')
      show World.ownsRow _ 0 _ 1 _ (S.given++[id]).length (eT (S.given++[id]))
      rw [hl2]
      simpa [eT] using this)
     ((hq.mono (fun k _ hk=>(hin.iQ k).2 (.inr (.inr hk)))).put b 2 (.inl rfl) _) (fun k hk=>.inl hk) Qe
     (fun k hk e=>(Qe k e).elim (fun q=>hin.apart k hk q) fun q=>by have:=(hin.iY.lt k hk).2;omega)
     hin.sound hin.few rfl hin.stop (by show (S.given++[id]).length≤1000000;rw [hl2];omega)
    have HX:=Lib.hid hput
    clear hput hq hown2 hmv hin
    go_wp2_with fail
    rw [rounds_succ]
    go_wp2_with fail
    go_end0
    exact⟨rfl,⟨_,_,HX.out.1⟩,HS.out.trans HX.out.2⟩
end
end Go.Proofs.YtbhiamcmiopnoaaGreatDoor
