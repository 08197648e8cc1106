/- Package bucket over the law's pages: all pages of a bucket and of those within it. Conditions: one goroutine; the pages hold the buckets. (Printed by wip/gen/bu17.py.) -/
import Derived.Test.YtbhiamcmiopnoaaGreatDoorZBuG
import Derived.Test.YtbhiamcmiopnoaaGreatDoorZIds
import Derived.Test.YtbhiamcmiopnoaaGreatDoorZItems
import Derived.Test.YtbhiamcmiopnoaaGreatDoorZBkS
import Derived.Test.YtbhiamcmiopnoaaGreatDoorZShelI
set_option maxHeartbeats 16000000
set_option maxRecDepth 100000
namespace Go.Proofs.YtbhiamcmiopnoaaGreatDoor
section
open Go.RowKit Go.MuLone
def lC (w:World) (b:Nat) (S:aW) (R:Path→Option Rec) (p:Path):Ending→World→Prop:=fun e w'=>∃v os,e=.returned (.tuple #[v,.int .i64 0])∧w'.ownsRow 0 3 1 v os.length (eT os)∧(os.Nodup∧∀j,j∈os↔under R p j)∧(∀j,v.ownBlock=some j→w.heap.size≤j∧¬bn w' b j)∧aA w' b S∧aB b w w'
structure Me (w wr:World) (b:Nat) (S:aW) (R:Path→Option Rec) (p:Path) (r:Rec) (vI ov:Value) (i:Nat) (os:List Int):Prop where
 F8:zk R p r i os
 own:wr.ownsRow 0 3 1 ov os.length (eT os)
 new:∀j,ov.ownBlock=some j→w.heap.size≤j∧¬bn wr b j∧bI vI≠some j
 pages:aA wr b S
 st:aB b w wr
 items:gN aJ 3 wr vI r.l
 away:Apart wr b vI
theorem Me.step {w wr wx:World} {b:Nat} {S:aW} {R:Path→Option Rec} {p:Path} {r:Rec} {vI ov:Value} {i:Nat} {os:List Int} (h:Me w wr b S R p r vI ov i os) (st:aB b wr wx) (hp:aA wx b S):Me w wx b S R p r vI ov i os:=
 ⟨h.F8,aP h.own st.only (fun j q=>(h.new j q).2.1),fun j q=>⟨(h.new j q).1,fun z=>(st.own j z).elim (h.new j q).2.1 (fun z=>by have:=(h.own.lt j q).2;omega),(h.new j q).2.2⟩,hp,h.st.trans st,h.items.step h.away st,h.away.step st⟩
theorem Me.still {w wr wx:World} {b:Nat} {S:aW} {R:Path→Option Rec} {p:Path} {r:Rec} {vI ov:Value} {i:Nat} {os:List Int} (h:Me w wr b S R p r vI ov i os) (ho:Only (fun _=>False) wr wx):Me w wx b S R p r vI ov i os:=
 h.step (aB.still h.pages.lt ho) (h.pages.still ho)
theorem Me.next {w wr wx:World} {b:Nat} {S:aW} {R:Path→Option Rec} {p:Path} {r:Rec} {vI ov EF:Value} {i:Nat} {os more:List Int} {x:Item} (h:Me w wr b S R p r vI ov i os) (H:Held S R [] []) (hp:R p=some r) (hx:r.l[i]? = some x) (hn:more.Nodup) (hm:∀j,j∈more↔kD R p x j)
 (own:wx.ownsRow 0 3 1 EF (os.length+more.length) (eT os++eT more)) (gr:wr.grownBy wx ov.ownBlock) (mv:Moved wr ov EF):Me w wx b S R p r vI EF (i+1) (os++more):=by
 have ho:Only (fun k=>ov.ownBlock=some k) wr wx:=(Only.refl _ wr).grown gr fun k _ e=>e
 have hb:=ho.block b h.pages.lt fun e=>(h.new b e).2.1 (.inl rfl)
 have hpo:=fun k=>aD hb k
 refine⟨h.F8.next H hp hx hn hm,?_,fun j hj=>?_,fT h.pages ho fun k q e=>(h.new k e).2.1 q,jH h.st hb ho fun k e=>(h.new k e).1,h.items.only ho fun j q e=>(h.new j e).2.2 q,h.away.later ho.size hb⟩
 ·rw [List.length_append]
  simpa [eT] using own
 ·rcases mv j hj with e | e
  ·exact⟨(h.new j e).1,fun q=>(h.new j e).2.1 ((hpo j).1 q),(h.new j e).2.2⟩
  ·refine⟨Nat.le_trans h.st.only.size e,fun q=>?_,fun q=>?_⟩
   ·have:=bM h.pages ((hpo j).1 q)
    omega
   ·have:=(h.away j q).2
    omega
theorem AU {w:World} {v:Value} {l:List Int} (h:bL qN 1 w v l):∃a c,v=.slice a l.length c∧(a=none→l.length=0∧c=0)∧∀W,Only (fun _=>False) w W→∀ad,a=some ad→∀j u,(eT l)[j]? = some u→W.cell? (ad.add j)=some u:=by
 obtain⟨a,c,rfl⟩:=bk.lH h
 refine⟨a,c,rfl,fun q=>bk.NQ h q,fun W hW ad had j u hu=>bk.Lv (enc:=qN) (k:=1) (fun _=>rfl) h W hW ad had j u ?_⟩
 rw [iP] at hu
 exact hu
theorem F9 (l:List Int):∀u∈eT l,u.oneCell'=true:=by
 intro u hu
 obtain⟨x,_,rfl⟩:=List.mem_map.1 hu
 rfl
theorem Ga (l:List Int):(eT l).length=l.length * 1:=by simp [eT]
theorem zl (b:Nat) (S:aW) (R:Path→Option Rec) (H:Held S R [] []) (hL:S.L.length≤3998) (gy:∀p r,R p=some r→r.l.length<2 ^ 11) (p:Path) (r:Rec) (w:World) (hp:R p=some r) (d:Nat) (hd:d≤4) (h:aA w b S)
 (IH:∀k r',R (p++[k])=some r'→∀W,aA W b S→Calls Tryz.prog 90 #[aF b,aY r'.root r'.seq,.int .i64 ((d:Int)+1)] W (lC W b S R (p++[k]))) :
 Calls Tryz.prog 90 #[aF b,aY r.root r.seq,.int .i64 (d:Int)] w (lC w b S R p):=by
 obtain⟨i0,hi,hz0,hz1,hz2⟩:=info_parts nN
 obtain⟨t1,t2,t3,t4⟩:=H.dh.tree p r hp
 have hf:=gy p r hp
 have hst:=H.stop
 have o1:=(Only.refl (fun _=>False) w).alloc (.cells #[.int .i64 r.root,.int .i64 r.seq] 23)
 have h1:=h.still o1
 have A1:=bG.new h (.cells #[.int .i64 r.root,.int .i64 r.seq] 23)
 have st1:=aB.still h.lt o1
 have hd1:decide ((d:Int) > 4)=false:=decide_eq_false (by omega)
 have HI:=Lib.hid (Mf _ b S r.root r.l r.ids h1 t1 (by omega) hf)
 have HT:=Lib.hid (fun W hW=>Ay W b S r.root r.l r.ids [] 1073741824 hW t1 (by omega) hf (by omega))
 have hlt:=h.lt
 have HS:=Lib.hid (And.intro h1 (And.intro st1 A1))
 have HH:=Lib.hid (And.intro H hp)
 have QA:=Lib.hid IH
 have c0:=aj A1.at_ 0
 simp only [List.getElem?_toArray,List.getElem?_cons_zero] at c0
 have hdn:d≤4:=hd
 clear o1 h1 A1 st1 h t1 t2 t3 t4 H IH hd
 unfold vY Hf at HI
 unfold nW at HT
 simp only [sK] at HT
 unfold aF aY at *
 go_enter Tryz.func90,Tryz.ntmps90
 go_wp2_with fail
 generalize (w.alloc (.cells #[.int .i64 r.root,.int .i64 r.seq] 23))=W1 at *
 (with_reducible refine HI.out.mono ?_)
 rintro e w2 ⟨⟨v,rfl,_,hap,hp2,st2,hnew⟩,v',x',he,hown⟩
 obtain rfl:v=v':=by
  simp only [Ending.returned.injEq,Value.tuple.injEq] at he
  have:=congrArg (fun a:Array Value=>a[0]?) he
  simpa using this
 obtain⟨aO,cO,rfl⟩:=ownsRow_form hown
 have hpm:(dM r.ids).Perm r.ids:=by unfold dM;exact List.mergeSort_perm _ _
 obtain⟨h1,st1,A1⟩:=HS.out
 have A2:=A1.step st2
 have c0:=aj A2.at_ 0
 simp only [List.getElem?_toArray,List.getElem?_cons_zero] at c0
 have HI2:=Lib.hid (And.intro hown (And.intro hap (And.intro hp2 (And.intro (st1.trans st2) hnew))))
 have hw1:=st1.only.size
 have HT2:=Lib.hid (HT.out w2 hp2)
 clear he hown hap hp2 st2 hnew h1 st1 A1 A2 HI HT HS
 go_wp2_with fail
 (with_reducible refine HT2.out.mono ?_)
 rintro e w3 ⟨vI,rfl,MK,Sy,hp3,jR,OO⟩
 obtain⟨hown,hap,hp2,st2,hnew⟩:=HI2.out
 have hrb:bI (Value.slice aO (dM r.ids).length cO)=(Value.slice aO (dM r.ids).length cO).ownBlock:=bk.bg hown
 have G0:Me w w3 b S R p r vI (.slice aO (dM r.ids).length cO) 0 (dM r.ids):=by
  have Yn:=aP hown jR.only (fun j q=>(hap j (by rw [hrb];exact q)).1)
  rw [List.take_of_length_le (by show r.l.length≤1073741824;omega)] at MK
  refine⟨zk.start HH.out.1 HH.out.2 hpm,Yn,fun j q=>?_,hp3,st2.trans jR,MK,Sy⟩
  have q2:bI (Value.slice aO (dM r.ids).length cO)=some j:=by rw [hrb];exact q
  have h5:=hap j q2
  refine⟨Nat.le_trans hw1 (hnew j q2),fun z=>(jR.own j z).elim h5.1 (fun z=>by omega),fun z=>?_⟩
  have:=OO j z
  omega
 obtain⟨aI,nI,cI,rfl⟩:=bK MK.cap
 obtain⟨rfl,_⟩:=sj G0.items.row
 have WM:=Lib.hid G0
 clear hown hap hp2 st2 hnew hrb G0 MK Sy hp3 jR OO HI2 HT2 hpm
 go_wp2_with fail
 go_loopg [8,40] r.l.length (fun gh ov kv wr=>∃(i:Nat) (os:List Int),gh+i=r.l.length∧kv=.int .i64 (i:Int)∧Me w wr b S R p r (.slice aI r.l.length cI) ov i os)
 case atStart=>exact⟨0,_,by omega,rfl,WM.out⟩
 case round=>
  obtain⟨i,os,u6,rfl,hG⟩:=hrel
  have YE:=hG.F8.few HH.out.1 HH.out.2
  obtain⟨aO,cO,rfl⟩:=ownsRow_form hG.own
  have HG:=Lib.hid hG
  clear hG WM
  by_cases hi2:i<r.l.length
  ·obtain⟨x,hx⟩:∃x,r.l[i]? = some x:=⟨_,List.getElem?_eq_getElem hi2⟩
   obtain⟨gI,off,rfl,k0,k1,k2⟩:=jL HG.out.items.row hx
   have hi1:(i:Int)<(r.l.length:Int):=by omega
   have hi0:(0:Int)≤(i:Int):=by omega
   have hwi:IntKind.i64.wrap ((i:Int)+1)=(i:Int)+1:=by exact IntWalk.i64_in _ (by omega)
   have hgx:=HG.out.still ((Only.refl (fun _=>False) wr).alloc (.cells #[str x.key,str x.val,.int .i64 x.kind] 131))
   have nx:=dw wr (.cells #[str x.key,str x.val,.int .i64 x.kind] 131)
   have e0:=aj nx 0
   have e1:=aj nx 1
   have e2:=aj nx 2
   simp only [List.getElem?_toArray,List.getElem?_cons_zero,List.getElem?_cons_succ] at e0 e1 e2
   have HX:=Lib.hid hx
   have NR:=Lib.hid hgx
   have xB:=Lib.hid u6
   have CU:=HH.out.1.NU HH.out.2 x (List.mem_of_getElem? hx)
   have HW:=Lib.hid (fun (h2:x.kind=2)=>HH.out.1.dh.sub p r x HH.out.2 (List.mem_of_getElem? hx) h2)
   clear hgx nx hx u6
   rcases CU with h2 |⟨u,hu⟩
   ·obtain⟨hkn,⟨r',hr',hval⟩,_⟩:=HW.out h2
    have hvl:=hval (by simp)
    have hrn:=HH.out.1.G7 hr' hL
    have hts:=(HH.out.1.dh.tree _ _ hr').2.2.1
    have Pz:=Lib.hid (fun W=>Er W x r'.root.toNat r'.seq hrn.2 hts hvl)
    rw [hrn.1] at Pz
    unfold EO aY at Pz
    have Cw:=Lib.hid (fun W hW=>QA.out x.key r' hr' W hW)
    unfold lC at Cw
    have hwd:IntKind.i64.wrap ((d:Int)+1)=(d:Int)+1:=by exact IntWalk.i64_in _ (by omega)
    obtain⟨xk,xv,xd⟩:=x
    have h2:xd=2:=h2
    subst h2
    dsimp only at *
    clear hval hvl hrn hts hr' HW
    go_wp2_with fail
    generalize WC:wr.alloc (.cells #[str xk,str xv,.int .i64 2] 131)=WX at *
    (with_reducible refine(Pz.out _).mono ?_)
    rintro e w4 ⟨rfl,o4⟩
    have o5:=o4.alloc (.cells #[.int .i64 r'.root,.int .i64 r'.seq] 23)
    have n5:=dw w4 (.cells #[.int .i64 r'.root,.int .i64 r'.seq] 23)
    have G5:=NR.out.still o5
    have s0:=aj n5 0
    have s1:=aj n5 1
    simp only [List.getElem?_toArray,List.getElem?_cons_zero,List.getElem?_cons_succ] at s0 s1
    have Yo:=Lib.hid G5
    have JB:=Lib.hid (Cw.out _ G5.pages)
    clear o4 o5 n5 G5 Cw Pz
    go_wp2_with fail
    (with_reducible refine JB.out.mono ?_)
    rintro e w6 ⟨mv,ms,rfl,hmo,hms,hmn,mM,xA⟩
    have G6:=Yo.out.step xA mM
    have hrow:=bk.bS (enc:=qN) (k:=1) (fun _=>rfl) (by rw [←iP];exact hmo)
    obtain⟨am,cm,rfl,hnil,hread⟩:=AU hrow
    have hmm:∀j,j∈ms↔kD R p ⟨xk,xv,2⟩ j:=fun j=>by
     rw [hms.2]
     unfold kD
     constructor
     ·exact fun q=>.inr ⟨rfl,q⟩
     ·exact fun q=>q.elim (fun q=>absurd rfl q.1) (fun q=>q.2)
    have hnd:=hms.1
    have hnx:=NR.out
    have hgt:=G6.F8.next HH.out.1 HH.out.2 HX.out hnd hmm
    have lJ:=hgt.few HH.out.1 HH.out.2
    rw [List.length_append] at lJ
    have hle:=Ga (ms)
    have hone:=F9 (ms)
    have hmax:os.length+(ms).length≤maxLen:=by unfold maxLen;omega
    have SK:=Lib.hid G6
    have SL:=Lib.hid hnil
    have K4:=Lib.hid (hread _ (Only.refl _ _))
    have SN:=Lib.hid hle
    have SQ:=Lib.hid hmm
    have HOW:=Lib.hid G6.own
    have WO:decide (((os.length+(ms).length:Nat):Int) > 4000)=false:=decide_eq_false (by omega)
    have Mg:¬(((os.length:Int)+((ms).length:Int)) > 4000):=by omega
    have SS:decide (((os.length:Int)+((ms).length:Int)) > 4000)=false:=decide_eq_false Mg
    have SV:decide (4000<((os.length:Int)+((ms).length:Int)))=false:=decide_eq_false (by omega)
    clear hnx hgt hle G6 hmm hnil
    go_wp2_with (at_builtin;refine bk.jP _ rfl _ _ 57 rfl 3 i0 _ 1 8 Tryz.underlying57 hi hz0 hz1 hz2 rfl (by decide) _ _ _ rfl HOW.out am (ms).length cm (eT (ms)) rfl SN.out SL.out K4.out hone hmax (by omega) ?_;intro a' c' wx hown2 hgr hmv;have HQ:=Lib.hid (And.intro hown2 (And.intro hgr hmv));clear hown2 hgr hmv)
    all_goals
     go_roundg (r.l.length-(i+1))
     case measure=>have:=xB.out;omega
     case rel=>exact⟨i+1,os++ms,by omega,by go_num,SK.out.next HH.out.1 HH.out.2 HX.out hnd SQ.out HQ.out.1 HQ.out.2.1 HQ.out.2.2⟩
   ·by_cases hk1:x.kind=1
    ·obtain⟨first,WQ,Ud,hxe⟩:∃first,(96<u.length∧u.length≤2000)∧(2≤first∧first+bW u.length≤4000)∧x=⟨x.key,gD first u.length,1⟩:=by
      cases hu with
      | plain k v h=>cases hk1
      | far k v first a1 a2 a3=>exact⟨first,a1,a2,rfl⟩
     have Sk:1≤bW u.length:=by unfold bW;split<;>omega
     have XU:=jf WQ.2
     obtain⟨xk,xv,xd⟩:=x
     simp only [Item.mk.injEq,true_and] at hxe
     obtain⟨rfl,rfl⟩:=hxe
     dsimp only at *
     have Vt:=Lib.hid (fun W=>Eb W first u.length (by omega) WQ.2)
     unfold Ch at Vt
     clear hu hk1 HW
     go_wp2_with fail
     generalize WC:wr.alloc (.cells #[str xk,str (gD first u.length),.int .i64 1] 131)=WX at *
     (with_reducible refine(Vt.out _).mono ?_)
     rintro e w6 ⟨mv,rfl,hrow,o6,_⟩
     have G6:=NR.out.still o6
     obtain⟨am,cm,rfl,hnil,hread⟩:=AU hrow
     have gP:=rZ (k:=xk) (first:=first) (n:=u.length) (by omega) (by omega)
     have hmm:∀j,j∈kr first u.length↔kD R p ⟨xk,gD first u.length,1⟩ j:=fun j=>by
      unfold kD
      rw [gP]
      constructor
      ·exact fun q=>.inl ⟨by simp,q⟩
      ·exact fun q=>q.elim (fun q=>q.2) (fun q=>by simp at q)
     have hnd:(kr first u.length).Nodup:=by
      unfold kr
      exact List.Pairwise.map _ (fun a b hab e=>hab (by omega)) List.nodup_range
     generalize kr first u.length=ms at *
     clear gP Vt o6
     have hnx:=NR.out
     have hgt:=G6.F8.next HH.out.1 HH.out.2 HX.out hnd hmm
     have lJ:=hgt.few HH.out.1 HH.out.2
     rw [List.length_append] at lJ
     have hle:=Ga (ms)
     have hone:=F9 (ms)
     have hmax:os.length+(ms).length≤maxLen:=by unfold maxLen;omega
     have SK:=Lib.hid G6
     have SL:=Lib.hid hnil
     have K4:=Lib.hid (hread _ (Only.refl _ _))
     have SN:=Lib.hid hle
     have SQ:=Lib.hid hmm
     have HOW:=Lib.hid G6.own
     have WO:decide (((os.length+(ms).length:Nat):Int) > 4000)=false:=decide_eq_false (by omega)
     have Mg:¬(((os.length:Int)+((ms).length:Int)) > 4000):=by omega
     have SS:decide (((os.length:Int)+((ms).length:Int)) > 4000)=false:=decide_eq_false Mg
     have SV:decide (4000<((os.length:Int)+((ms).length:Int)))=false:=decide_eq_false (by omega)
     clear hnx hgt hle G6 hmm hnil
     go_wp2_with (at_builtin;refine bk.jP _ rfl _ _ 57 rfl 3 i0 _ 1 8 Tryz.underlying57 hi hz0 hz1 hz2 rfl (by decide) _ _ _ rfl HOW.out am (ms).length cm (eT (ms)) rfl SN.out SL.out K4.out hone hmax (by omega) ?_;intro a' c' wx hown2 hgr hmv;have HQ:=Lib.hid (And.intro hown2 (And.intro hgr hmv));clear hown2 hgr hmv)
     all_goals
      go_roundg (r.l.length-(i+1))
      case measure=>have:=xB.out;omega
      case rel=>exact⟨i+1,os++ms,by omega,by go_num,SK.out.next HH.out.1 HH.out.2 HX.out hnd SQ.out HQ.out.1 HQ.out.2.1 HQ.out.2.2⟩
    ·have hk0:x.kind=0:=hu.Q8.resolve_right hk1
     obtain⟨xk,xv,xd⟩:=x
     have hk0:xd=0:=hk0
     subst hk0
     dsimp only at *
     have G6:=NR.out
     have hnil:(none:Option Addr)=none→([]:List Int).length=0∧0=0:=fun _=>⟨rfl,rfl⟩
     have hmm:∀j,j∈([]:List Int)↔kD R p ⟨xk,xv,0⟩ j:=fun j=>by
      unfold kD aX
      simp
     clear hu hk1 HW
     have hnx:=NR.out
     have hgt:=G6.F8.next HH.out.1 HH.out.2 HX.out List.nodup_nil hmm
     have lJ:=hgt.few HH.out.1 HH.out.2
     rw [List.length_append] at lJ
     have hle:=Ga (([]:List Int))
     have hone:=F9 (([]:List Int))
     have hmax:os.length+(([]:List Int)).length≤maxLen:=by unfold maxLen;omega
     have SK:=Lib.hid G6
     have SL:=Lib.hid hnil
     have K4:=Lib.hid (fun (ad:Addr) (q:(none:Option Addr)=some ad) (j:Nat) (u:Value) (_:(eT ([]:List Int))[j]? = some u)=>((by cases q):(wr.alloc (.cells #[str xk,str xv,.int .i64 0] 131)).cell? (ad.add j)=some u))
     have SN:=Lib.hid hle
     have SQ:=Lib.hid hmm
     have HOW:=Lib.hid G6.own
     have WO:decide (((os.length+(([]:List Int)).length:Nat):Int) > 4000)=false:=decide_eq_false (by omega)
     have Mg:¬(((os.length:Int)+((([]:List Int)).length:Int)) > 4000):=by omega
     have SS:decide (((os.length:Int)+((([]:List Int)).length:Int)) > 4000)=false:=decide_eq_false Mg
     have SV:decide (4000<((os.length:Int)+((([]:List Int)).length:Int)))=false:=decide_eq_false (by omega)
     clear hnx hgt hle G6 hmm hnil
     go_wp2_with (at_builtin;refine bk.jP _ rfl _ _ 57 rfl 3 i0 _ 1 8 Tryz.underlying57 hi hz0 hz1 hz2 rfl (by decide) _ _ _ rfl HOW.out none (([]:List Int)).length 0 (eT (([]:List Int))) rfl SN.out SL.out K4.out hone hmax (by omega) ?_;intro a' c' wx hown2 hgr hmv;have HQ:=Lib.hid (And.intro hown2 (And.intro hgr hmv));clear hown2 hgr hmv)
     all_goals
      go_roundg (r.l.length-(i+1))
      case measure=>have:=xB.out;omega
      case rel=>exact⟨i+1,os++([]:List Int),by omega,by go_num,SK.out.next HH.out.1 HH.out.2 HX.out List.nodup_nil SQ.out HQ.out.1 HQ.out.2.1 HQ.out.2.2⟩
  ·obtain rfl:i=r.l.length:=by omega
   have hi1:¬(r.l.length:Int)<(r.l.length:Int):=by omega
   have HD:=Lib.hid (HG.out.F8.done HH.out.1 HH.out.2)
   go_wp2_with fail
   go_ret2
   exact⟨_,os,rfl,HG.out.own,HD.out,fun j q=>⟨(HG.out.new j q).1,(HG.out.new j q).2.1⟩,HG.out.pages,HG.out.st⟩
theorem Eu (b:Nat) (S:aW) (R:Path→Option Rec) (H:Held S R [] []) (hL:S.L.length≤3998) (gy:∀p r,R p=some r→r.l.length<2 ^ 11) (p0:Path) (hD:∀q r,R q=some r→p0 <+: q→q.length≤p0.length+4):∀(n:Nat) (p:Path) (r:Rec) (w:World) (d:Nat),R p=some r→p0 <+: p→p.length+n=p0.length+4→d+p0.length≤p.length→aA w b S→
 Calls Tryz.prog 90 #[aF b,aY r.root r.seq,.int .i64 (d:Int)] w (lC w b S R p)
 | 0,p,r,w,d,hp,hpre,hn,hd,h=>zl b S R H hL gy p r w hp d (by omega) h fun k r' hr'=>by
  have:=hD _ _ hr' (hpre.trans (List.prefix_append _ _))
  simp at this
  omega
 | n+1,p,r,w,d,hp,hpre,hn,hd,h=>zl b S R H hL gy p r w hp d (by omega) h fun k r' hr' W hW=>by
  have:=Eu b S R H hL gy p0 hD n (p++[k]) r' W (d+1) hr' (hpre.trans (List.prefix_append _ _)) (by simp;omega) (by simp;omega) hW
  exact this
end
section
open Go.RowKit Go.MuLone
structure Jo (w0 w:World) (b:Nat) (v:Value) (l:List Int):Prop where
 own:w.ownsRow 0 3 1 v l.length (eT l)
 new:∀j,v.ownBlock=some j→w0.heap.size≤j∧¬bn w b j
theorem Gb {w0 w:World} {b:Nat} {S:aW} {g cap:Nat} {l ts:List Int} (h:Jo w0 w b (.slice (some ⟨g,0,none⟩) l.length cap) l) (hp:aA w b S) (hl:ts.length=l.length) (n:Nat) (os:Array Obj) :
 Jo w0 (Sort.grow (Sort.putRow (Value.int .i64) (Sort.ahead w n) g 0 ts.toArray) os) b (.slice (some ⟨g,0,none⟩) l.length cap) ts∧aA (Sort.grow (Sort.putRow (Value.int .i64) (Sort.ahead w n) g 0 ts.toArray) os) b S∧Only (fun k=>k=g) w (Sort.grow (Sort.putRow (Value.int .i64) (Sort.ahead w n) g 0 ts.toArray) os)∧(∀k,bn (Sort.grow (Sort.putRow (Value.int .i64) (Sort.ahead w n) g 0 ts.toArray) os) b k↔bn w b k):=by
 have hx:Only (fun k=>k=g) w (Sort.grow (Sort.putRow (Value.int .i64) (Sort.ahead w n) g 0 ts.toArray) os):=(Only.refl (fun k=>k=g) w).grown (grownBy_sortedI _) fun k _ e=>(Option.some.inj e).symm
 have hg:=(h.new g rfl).2
 have hb:=hx.block b hp.lt fun e=>hg (.inl e.symm)
 have hpo:=fun k=>aD hb k
 rcases h.own.2 with ⟨q,_⟩ |⟨g2,cap2,cur,hv,hbase,hh,h1,h2,h3,h4⟩
 ·cases q
 ·cases hv
  refine⟨⟨?_,fun j hj=>?_⟩,fT hp hx fun k q e=>hg (e▸q),hx,hpo⟩
  ·have:=ownsRow_sortedI (n:=n) (os:=os) hl hbase hh h1 h2 h3
   rw [hl]
   exact this
  ·cases hj
   exact⟨(h.new g rfl).1,fun q=>hg ((hpo g).1 q)⟩
theorem AV {w0 w w':World} {b g:Nat} (st:aB b w0 w) (ho:Only (fun k=>k=g) w w') (hp:∀k,bn w' b k↔bn w b k) (hg:w0.heap.size≤g):aB b w0 w':=
 ⟨st.only.trans ho fun i hi q=>by have q:i=g:=q;omega,fun k q=>st.own k ((hp k).1 q)⟩
theorem wU {l:List Int} (h:l.Nodup):(dM l).Nodup:=by
 unfold dM
 exact(List.mergeSort_perm l _).nodup_iff.2 h
theorem Jp (l:List Int):(dM l).length=l.length:=by unfold dM;exact List.length_mergeSort _
theorem zL {l:List Int} (h:l.Nodup):Lib.compact l=l:=by
 refine Lib.compact_all l fun j hj=>?_
 unfold Lib.keeps
 refine decide_eq_true ?_
 by_cases h0:j=0
 ·exact .inl h0
 ·refine .inr ?_
  have e1:l.toArray[j]! = l[j]:=by rw [getElem!_pos l.toArray j (by simpa using hj)];simp
  have e2:l.toArray[j-1]! = l[j-1]:=by rw [getElem!_pos l.toArray (j-1) (by simp;omega)];simp
  rw [e1,e2]
  exact(List.pairwise_iff_getElem.1 h (j-1) j (by omega) hj (by omega)).symm
def zm (w:World) (b:Nat) (S:aW) (R:Path→Option Rec) (p:Path):Ending→World→Prop:=fun e w'=>∃v os,e=.returned (.tuple #[v,.int .i64 0])∧Jo w w' b v (dM os)∧(os.Nodup∧∀j,j∈os↔under R p j)∧aA w' b S∧aB b w w'
theorem GY (w:World) (b:Nat) (S:aW) (R:Path→Option Rec) (p:Path) (r:Rec) (h:aA w b S) (H:Held S R [] []) (hL:S.L.length≤3998) (gy:∀p r,R p=some r→r.l.length<2 ^ 11) (hp:R p=some r) (hD:∀q r,R q=some r→p <+: q→q.length≤p.length+4) :
 Calls Tryz.prog 21 #[aF b,aY r.root r.seq] w (zm w b S R p):=by
 have o1:=(Only.refl (fun _=>False) w).alloc (.cells #[.int .i64 r.root,.int .i64 r.seq] 23)
 have n1:=dw w (.cells #[.int .i64 r.root,.int .i64 r.seq] 23)
 have h1:=h.still o1
 have st1:=aB.still h.lt o1
 have hnil:=jX b
 have HP:Hid (Calls Tryz.prog 90 #[aF b,aY r.root r.seq,.int .i64 0] (w.alloc (.cells #[.int .i64 r.root,.int .i64 r.seq] 23)) (lC (w.alloc (.cells #[.int .i64 r.root,.int .i64 r.seq] 23)) b S R p)):=Lib.hid (Eu b S R H hL gy p hD 4 p r _ 0 hp (List.prefix_refl _) rfl (by omega) h1)
 have HS:=Lib.hid (And.intro st1 h.lt)
 have c0:=aj n1 0
 have c1:=aj n1 1
 simp only [List.getElem?_toArray,List.getElem?_cons_zero,List.getElem?_cons_succ] at c0 c1
 have Qp:∀os:List Int,os.Nodup→(∀j,j∈os↔under R p j)→os.length≤S.L.length:=fun os hn hm=>nZ _ _ hn fun j hj=>H.qZ ((hm j).1 hj)
 clear o1 n1 h1 st1 h H hp hD
 unfold lC at HP
 unfold aF aY at *
 go_enter Tryz.func21,Tryz.ntmps21
 go_wp2_with fail
 generalize (w.alloc (.cells #[.int .i64 r.root,.int .i64 r.seq] 23))=W1 at *
 (with_reducible refine HP.out.mono ?_)
 rintro e w2 ⟨v,os,rfl,hown,hos,hnew,hp2,st2⟩
 have hst:=HS.out.1.trans st2
 have hw1:=HS.out.1.only.size
 have jK:Jo w w2 b v os:=⟨hown,fun j hj=>⟨Nat.le_trans hw1 (hnew j hj).1,(hnew j hj).2⟩⟩
 have hfo:=Qp os hos.1 hos.2
 have Tx:=Lib.hid hos
 rcases hown.2 with ⟨rfl,h0⟩ |⟨g,cap,cur,rfl,hbase,hh,q1,q2,q3,q4⟩
 ·have hn:os=[]:=List.eq_nil_of_length_eq_zero h0
  subst hn
  have HF:Hid (zm w b S R p (.returned (.tuple #[.slice none 0 0,.int .i64 0])) w2):=Lib.hid ⟨_,[],rfl,⟨by rw [show dM []=[] by simp [dM]];exact⟨rfl,.inl ⟨rfl,rfl⟩⟩,fun j hj=>by cases hj⟩,hos,hp2,hst⟩
  have zF:=Lib.hid (q9 none 0 w2)
  have TQ:=Lib.hid (fun W=>slices_Clone_int_nil 0 0 W)
  have Yp:=Lib.hid (fun W=>slices_Compact_int_empty none 0 W)
  clear hown hos hnew hp2 st2 hst jK hfo Qp HP HS h0 Tx
  go_wp2_with fail
  (with_reducible refine zF.out.mono ?_)
  rintro e w' ⟨rfl,rfl⟩
  go_wp2_with fail
  (with_reducible refine(TQ.out _).mono ?_)
  rintro e w' ⟨rfl,rfl⟩
  go_wp2_with fail
  (with_reducible refine(Yp.out _).mono ?_)
  rintro e w' ⟨rfl,rfl⟩
  go_wp2_with fail
  go_ret2
  exact HF.out
 ·have hH:Sort.Holds (Value.int .i64) w2 g 0 os.toArray:=holds_of_blockI hh (by simpa [eT] using q4)
  have hgl:g<w2.heap.size:=(Array.getElem?_eq_some_iff.1 hh).1
  have zF:=Lib.hid (ru g 0 cap os w2 hH hgl (by omega))
  have hnd:=wU hos.1
  have hsl:=Jp os
  have Gt:=Lib.hid (fun n oz=>Gb jK hp2 hsl n oz)
  have HST:=Lib.hid (And.intro hst hgl)
  have hgw:=(jK.new g rfl).1
  generalize hts:dM os=ts at *
  have SX:=Lib.hid hts
  clear hown hnew hp2 st2 hst jK HP HS hH hbase hh q1 q2 q3 q4 Qp hos
  unfold dM at hts
  rw [hts] at zF
  clear hts
  have hcl:Lib.compact ts=ts:=zL hnd
  generalize hN:os.length=N at *
  go_wp2_with fail
  (with_reducible refine zF.out.mono ?_)
  rintro e w3 ⟨rfl,nn,oz,hw3⟩
  obtain⟨MN,hp3,ho3,Qq⟩:=Gt.out nn oz
  rw [←hw3] at MN hp3 ho3 Qq
  have jR:=AV HST.out.1 ho3 Qq hgw
  have jS:=MN.own
  have hc3:∀j,j<ts.length→w3.cell? ⟨g,0+j,none⟩=some (.int .i64 (ts.getD j 0)):=fun j hj=>by
   rw [Nat.zero_add]
   refine aZ (by rw [hsl] at jS;exact jS) j _ ?_
   simp [eT,hj]
  have TQ:=Lib.hid (slices_Clone_int g 0 N cap ts w3 (by omega) (by omega) hc3)
  have H3:=Lib.hid (And.intro MN (And.intro hp3 jR))
  clear hw3 MN hp3 ho3 Qq jR jS hc3 Gt HST zF
  go_wp2_with fail
  (with_reducible refine TQ.out.mono ?_)
  rintro e w4 ⟨v4,rfl,hv4,SY,hbel⟩
  have o4:=Only.of_below (S:=fun _=>False) hbel
  obtain⟨MN,hp3,jR⟩:=H3.out
  have iD:=hp3.still o4
  have fP:=jR.trans (aB.still hp3.lt o4)
  rcases hv4.2 with ⟨q,_⟩ |⟨g4,cap4,Yq,rfl,Vu,Vv,a1,a2,a3,a4⟩
  ·exact absurd q SY
  ·have htk:ts.take N=ts:=List.take_of_length_le (by omega)
   rw [htk] at a4
   have WR:Sort.Holds (Value.int .i64) w4 g4 0 ts.toArray:=holds_of_blockI Vv (by rw [hsl];simpa using a4)
   have hcp:=slices_Compact_int g4 0 cap4 ts w4 WR (by omega) (by omega)
   rw [hcl,hsl,Nat.sub_self] at hcp
   have OJ:=Lib.hid hcp
   have YF:g4<w4.heap.size:=(Array.getElem?_eq_some_iff.1 Vv).1
   have hg3:=(MN.own.lt g rfl).2
   have TR:Jo w w4 b (.slice (some ⟨g,0,none⟩) N cap) ts:=⟨aP MN.own o4 (fun _ _ q=>q),fun j q=>⟨(MN.new j q).1,fun z=>(MN.new j q).2 ((aD (o4.block b hp3.lt id) j).1 z)⟩⟩
   have TH:¬bn w4 b g4:=fun q=>by
    have:=bM hp3 ((aD (o4.block b hp3.lt id) g4).1 q)
    omega
   have YG:=o4.size
   have hw3:=jR.only.size
   have WS:∀q,Jo w (Sort.putRow (Value.int .i64) (Sort.ahead w4 q) g4 0 ts.toArray) b (.slice (some ⟨g,0,none⟩) N cap) ts∧aA (Sort.putRow (Value.int .i64) (Sort.ahead w4 q) g4 0 ts.toArray) b S∧aB b w (Sort.putRow (Value.int .i64) (Sort.ahead w4 q) g4 0 ts.toArray):=fun q=>by
    have hx:Only (fun k=>k=g4) w4 (Sort.grow (Sort.putRow (Value.int .i64) (Sort.ahead w4 q) g4 0 ts.toArray) #[]):=(Only.refl (fun k=>k=g4) w4).grown (grownBy_sortedI _) fun k _ e=>(Option.some.inj e).symm
    rw [Sort.grow_empty] at hx
    have hb:=hx.block b iD.lt fun e=>TH (.inl e.symm)
    have hpo:=fun k=>aD hb k
    refine⟨⟨aP TR.own hx fun j q e=>?_,fun j q=>⟨(TR.new j q).1,fun z=>(TR.new j q).2 ((hpo j).1 z)⟩⟩,fT iD hx fun k q e=>TH (e▸q),AV fP hx hpo (by omega)⟩
    have q2:g=j:=Option.some.inj q
    have e2:j=g4:=e
    omega
   have J8:=Lib.hid WS
   clear WS WR hcp a4 Vv a1 a2 a3 hv4 hbel o4 MN TR hp3 iD jR fP TH H3 SY TQ
   have hlt:decide ((N:Int)<(N:Int))=false:=decide_eq_false (by omega)
   go_wp2_with fail
   (with_reducible refine OJ.out.mono ?_)
   rintro e w5 ⟨rfl,q,rfl⟩
   rw [List.replicate_zero,List.append_nil]
   have HF:=Lib.hid (J8.out q)
   generalize Sort.putRow (Value.int .i64) (Sort.ahead w4 q) g4 0 ts.toArray=w5 at *
   clear J8 OJ
   go_wp2_with fail
   go_ret2
   exact⟨_,os,rfl,by rw [SX.out];exact HF.out.1,Tx.out,HF.out.2.1,HF.out.2.2⟩
end
section
open Go.RowKit Go.MuLone
structure Dropped (m:Nat) (S:aW) (R:Path→Option Rec) (p:Path) (r:Rec) (k:Bytes) (S2:aW) (r2:Rec):Prop where
 held:Held S2 (_root_.Go.Proofs.YtbhiamcmiopnoaaGreatDoor.prune (upd R p r2) (p++[k])) p []
 full:Full S R→Full S2 (_root_.Go.Proofs.YtbhiamcmiopnoaaGreatDoor.prune (upd R p r2) (p++[k]))
 l:r2.l=(bU r.l k).1
 seq:r2.seq=r.seq
 len:S2.L.length≤S.L.length+(2+2 * m)
 grow:S.L.length≤S2.L.length
 given:S2.given.length≤S.given.length+S.L.length+46
 other:∀j:Int,j<(S.L.length:Int)+2→j∉r.ids→nodeAt S2.L j=nodeAt S.L j
theorem Mh (w:World) (b:Nat) (S:aW) (R:Path→Option Rec) (p:Path) (r:Rec) (k:Bytes) (h:aA w b S) (H:Held S R [] []) (gy:∀p r,R p=some r→r.l.length<2 ^ 11) (hp:R p=some r) (hkl:k.length≤1000000) (he:mq r.l k≠0) :
 Calls Tryz.prog 24 #[aF b,aY r.root r.seq,str k] w fun e w'=>e=.returned (.tuple #[aY 0 0,.int .i64 (mq r.l k)])∧aA w' b S∧aB b w w':=by
 have o1:=(Only.refl (fun _=>False) w).alloc (.cells #[.int .i64 r.root,.int .i64 r.seq] 23)
 have h1:=h.still o1
 have A1:=bG.new h (.cells #[.int .i64 r.root,.int .i64 r.seq] 23)
 have hs1:(w.alloc (.cells #[.int .i64 r.root,.int .i64 r.seq] 23)).heap.size=w.heap.size+1:=Array.size_push _
 generalize hW1:w.alloc (.cells #[.int .i64 r.root,.int .i64 r.seq] 23)=W1 at *
 have o2:=(Only.refl (fun _=>False) W1).alloc (.cells #[.int .i64 0,.int .i64 0] 23)
 have h2:=h1.still o2
 have A2:=bG.new h1 (.cells #[.int .i64 0,.int .i64 0] 23)
 rw [hs1] at A2
 have B1:=A1.still h1 o2
 have st2:=aB.still h.lt (Only.trans o1 o2 (fun _ _ q=>q))
 have HO:=Lib.hid (Co _ b S r.root r.seq r.l r.ids k h2 hkl (H.dh.tree p r hp).1 (by have:=H.stop;omega) (gy p r hp) (H.reads hp))
 unfold Cn at HO
 have HS:=Lib.hid (And.intro A2 st2)
 have hlt:=h.lt
 have a0:=aj B1.at_ 0
 have a1:=aj B1.at_ 1
 simp only [List.getElem?_toArray,List.getElem?_cons_zero,List.getElem?_cons_succ] at a0 a1
 have HE:=Lib.hid he
 clear o1 o2 h1 h2 A1 A2 B1 st2 h H gy hp he
 subst hW1
 clear hs1
 unfold aF aY at *
 go_enter Tryz.func24,Tryz.ntmps24
 go_wp2_with fail
 generalize ((w.alloc (.cells #[.int .i64 r.root,.int .i64 r.seq] 23)).alloc (.cells #[.int .i64 0,.int .i64 0] 23))=W at *
 (with_reducible refine HO.out.mono ?_)
 rintro e w2 ⟨root,seq,er,rfl,hone,hp2,st2⟩
 have F4:=hone.err
 obtain⟨B2,st0⟩:=HS.out
 have o3:=(Only.refl (fun _=>False) w2).alloc (.cells #[.int .i64 root,.int .i64 seq] 23)
 have C2:=(B2.step st2).still hp2 o3
 have HF:=Lib.hid (eu (hp2.still o3) ((st0.trans st2).trans (aB.still hp2.lt o3)) C2 (by omega) hlt (.int .i64 0) (.int .i64 0))
 have x0:=aj C2.at_ 0
 have x1:=aj C2.at_ 1
 have y0:=aC C2.at_ 0
 have y1:=aC C2.at_ 1
 simp only [List.getElem?_toArray,List.getElem?_cons_zero,List.getElem?_cons_succ] at x0 x1
 have hz:(er != 0)=true:=by
  have:=HE.out
  rw [←F4] at this
  simpa using this
 have G8:=Lib.hid F4
 clear B2 st0 o3 C2 hp2 st2 HS HO a0 a1 hone F4
 go_wp2_with fail
 obtain⟨g1,g2,g3⟩:=HF.out
 have x0:=aj g3 0
 have x1:=aj g3 1
 simp only [List.getElem?_toArray,List.getElem?_cons_zero,List.getElem?_cons_succ] at x0 x1
 exact bodyPost_ret (v:=.tuple #[.agg #[.int .i64 0,.int .i64 0],.int .i64 er]) (by simp [results,Tryz.results24,go_sem,x0,x1]) rfl ⟨by rw [G8.out],g1,g2⟩
theorem En (w:World) (b:Nat) (S:aW) (R:Path→Option Rec) (p:Path) (r:Rec) (k:Bytes) (m:Nat) (h:aA w b S) (H:Held S R [] []) (gy:∀p r,R p=some r→r.l.length<2 ^ m) (hm2:m≤11) (hp:R p=some r) (hkl:k.length≤1000000) (he:mq r.l k=0) (hL:S.L.length+4+2 * m≤3998) (hg:S.given.length+5000<1000000) :
 Calls Tryz.prog 24 #[aF b,aY r.root r.seq,str k] w fun e w'=>∃S2 r2,e=.returned (.tuple #[aY r2.root r2.seq,.int .i64 0])∧Dropped m S R p r k S2 r2∧aA w' b S2∧aB b w w':=by
 have Gc:∀p r,R p=some r→r.l.length<2 ^ 11:=fun p r hq=>Nat.lt_of_lt_of_le (gy p r hq) (Nat.pow_le_pow_right (by omega) hm2)
 obtain⟨_,r',hr',x,hx,hx2,_⟩:=H.within hp he
 have o1:=(Only.refl (fun _=>False) w).alloc (.cells #[.int .i64 r.root,.int .i64 r.seq] 23)
 have h1:=h.still o1
 have A1:=bG.new h (.cells #[.int .i64 r.root,.int .i64 r.seq] 23)
 have hs1:(w.alloc (.cells #[.int .i64 r.root,.int .i64 r.seq] 23)).heap.size=w.heap.size+1:=Array.size_push _
 generalize hW1:w.alloc (.cells #[.int .i64 r.root,.int .i64 r.seq] 23)=W1 at *
 have o2:=(Only.refl (fun _=>False) W1).alloc (.cells #[.int .i64 0,.int .i64 0] 23)
 have h2:=h1.still o2
 have A2:=bG.new h1 (.cells #[.int .i64 0,.int .i64 0] 23)
 rw [hs1] at A2
 have B1:=A1.still h1 o2
 have st2:=aB.still h.lt (Only.trans o1 o2 (fun _ _ q=>q))
 have hbt:=H.dh.tree p r hp
 have HO:Hid (Calls Tryz.prog 97 #[aF b,aY r.root r.seq,str k] (W1.alloc (.cells #[.int .i64 0,.int .i64 0] 23)) fun e w'=>e=.returned (.tuple #[aY r'.root r'.seq,.int .i64 0])∧aA w' b S∧aB b (W1.alloc (.cells #[.int .i64 0,.int .i64 0] 23)) w'):=Lib.hid ((Co _ b S r.root r.seq r.l r.ids k h2 hkl hbt.1 (by have:=H.stop;omega) (Gc p r hp) (H.reads hp)).mono fun e w' q=>by
  obtain⟨root,seq,er,rfl,hone,hp2,st2⟩:=q
  have her:er=0:=hone.err.trans he
  subst her
  have hrt:=hone.held H (by omega) hp hr' (by simp)
  rw [hrt.1,hrt.2]
  exact⟨rfl,hp2,st2⟩)
 have BR:=Lib.hid (fun W hW=>GY W b S R (p++[k]) r' hW H (by omega) Gc hr' fun q rq hq _=>by
  have:=H.dh.deep q rq hq
  simp
  omega)
 unfold zm at BR
 have HH:=Lib.hid (And.intro H (And.intro hp (And.intro hx (And.intro hx2 (And.intro hbt (And.intro (gy p r hp) (And.intro hL hg)))))))
 have HS:=Lib.hid (And.intro B1 (And.intro A2 st2))
 have hlt:=h.lt
 have a0:=aj B1.at_ 0
 have a1:=aj B1.at_ 1
 simp only [List.getElem?_toArray,List.getElem?_cons_zero,List.getElem?_cons_succ] at a0 a1
 have hm:=fun n=>Br n ⟨b,0,none⟩
 clear o1 o2 h1 h2 A1 A2 B1 st2 h H gy Gc hp he hr' hx hx2 hbt hL hg
 subst hW1
 clear hs1
 unfold aF aY at *
 go_enter Tryz.func24,Tryz.ntmps24
 go_wp2_with fail
 generalize ((w.alloc (.cells #[.int .i64 r.root,.int .i64 r.seq] 23)).alloc (.cells #[.int .i64 0,.int .i64 0] 23))=W at *
 (with_reducible refine HO.out.mono ?_)
 rintro e w2 ⟨rfl,hp2,st2⟩
 obtain⟨B1,B2,st0⟩:=HS.out
 have o3:=(Only.refl (fun _=>False) w2).alloc (.cells #[.int .i64 r'.root,.int .i64 r'.seq] 23)
 have n3:=dw w2 (.cells #[.int .i64 r'.root,.int .i64 r'.seq] 23)
 have C1:=(B1.step st2).still hp2 o3
 have C2:=(B2.step st2).still hp2 o3
 have hp3:=hp2.still o3
 have jR:=(st0.trans st2).trans (aB.still hp2.lt o3)
 have e0:=aj n3 0
 have e1:=aj n3 1
 simp only [List.getElem?_toArray,List.getElem?_cons_zero,List.getElem?_cons_succ] at e0 e1
 have H3:=Lib.hid (And.intro C1 (And.intro C2 jR))
 have S9:=Lib.hid (BR.out _ hp3)
 clear B1 B2 st0 o3 n3 C1 C2 hp3 jR hp2 st2 HS HO BR a0 a1
 go_wp2_with fail
 (with_reducible refine S9.out.mono ?_)
 rintro e w4 ⟨v,os,rfl,hoi,hos,iD,fP⟩
 obtain⟨C1,C2,jR⟩:=H3.out
 have D1:=C1.step fP
 have D2:=C2.step fP
 have EG:=HH.out
 have hnd:=wU hos.1
 have hmem:∀j,j∈dM os↔∃q rq,R q=some rq∧p++[k] <+: q∧j∈rq.own:=fun j=>by
  have:j∈dM os↔j∈os:=by unfold dM;exact(List.mergeSort_perm os _).mem_iff
  rw [this]
  exact hos.2 j
 have hlen:(dM os).length≤S.L.length:=nZ _ _ hnd fun j hj=>EG.1.qZ ((hmem j).1 hj)
 have hrb:bI v=v.ownBlock:=bk.bg hoi.own
 have hrow:bL qN 1 w4 v (dM os):=bk.bS (enc:=qN) (k:=1) (fun _=>rfl) (by rw [←iP];exact hoi.own)
 have Ov:=Lib.hid (Av w4 b S (dM os) v iD (by have:=EG.2.2.2.2.2.2.2;have:=EG.2.2.2.2.2.2.1;omega) hrow (fun j q=>(hoi.new j (by rw [←hrb];exact q)).2))
 generalize dM os=gs at *
 obtain⟨root',wX,S2,bE,hdel,OY,hfull,Hg,hgrow,Qr,hother⟩:=EG.1.step_drop EG.2.1 EG.2.2.1 EG.2.2.2.1 hnd hmem EG.2.2.2.2.2.1 hm2 EG.2.2.2.2.2.2.1
 have HD:Hid (Dropped m S R p r k S2 ⟨root',r.seq,(bU r.l k).1,bE⟩):=Lib.hid ⟨OY,hfull,rfl,rfl,Hg,hgrow,by omega,hother⟩
 obtain⟨f1,f2,f3,f4,f5⟩:=iL S gs
 have HC:=Lib.hid (fun W hW=>Gn W b (fq S gs) S2 r.root root' r.seq r.l r.ids k wX m hW (by rw [f2];exact EG.2.2.2.2.1.1) (by rw [f5];have:=EG.1.stop;omega) EG.2.2.2.2.2.1 hm2 (by rw [f2];exact EG.2.2.2.2.2.2.1) (by rw [f1,List.length_append];have:=EG.2.2.2.2.2.2.2;have:=EG.2.2.2.2.2.2.1;omega) hdel)
 unfold aF aY at HC
 have H4:=Lib.hid (And.intro D1 (And.intro D2 (jR.trans fP)))
 clear C1 C2 jR D1 D2 EG hnd hmem hlen hrb hrow hdel OY hfull Hg hgrow Qr hother f1 f2 f3 f4 f5 hoi hos iD fP H3 HH S9 e0 e1
 go_wp2_with fail
 (with_reducible refine Ov.out.mono ?_)
 rintro e w5 ⟨rfl,oh,sQ⟩
 obtain⟨D1,D2,fP⟩:=H4.out
 have E1:=D1.step sQ
 have E2:=D2.step sQ
 have a0:=aj E1.at_ 0
 have a1:=aj E1.at_ 1
 simp only [List.getElem?_toArray,List.getElem?_cons_zero,List.getElem?_cons_succ] at a0 a1
 have H5:=Lib.hid (And.intro E2 (fP.trans sQ))
 have WT:=Lib.hid (HC.out w5 oh)
 clear D1 D2 fP E1 E2 oh sQ H4 HC Ov
 go_wp2_with fail
 (with_reducible refine WT.out.mono ?_)
 rintro e w6 ⟨rfl,mM,xA⟩
 obtain⟨E2,sQ⟩:=H5.out
 have F2:=E2.step xA
 have x0:=aj F2.at_ 0
 have x1:=aj F2.at_ 1
 have y0:=aC F2.at_ 0
 have y1:=aC F2.at_ 1
 simp only [List.getElem?_toArray,List.getElem?_cons_zero,List.getElem?_cons_succ] at x0 x1
 have HF:=Lib.hid (eu mM (sQ.trans xA) F2 (by omega) hlt (.int .i64 root') (.int .i64 r.seq))
 clear E2 sQ F2 mM xA H5 WT a0 a1
 go_wp2_with fail
 obtain⟨g1,g2,g3⟩:=HF.out
 have x0:=aj g3 0
 have x1:=aj g3 1
 simp only [List.getElem?_toArray,List.getElem?_cons_zero,List.getElem?_cons_succ] at x0 x1
 exact bodyPost_ret (v:=.tuple #[.agg #[.int .i64 root',.int .i64 r.seq],.int .i64 0]) (by simp [results,Tryz.results24,go_sem,x0,x1]) rfl ⟨S2,⟨root',r.seq,(bU r.l k).1,bE⟩,rfl,HD.out,g1,g2⟩
end
section
open Go.RowKit
def kS (kind:Int) (l:List Item) (key val:Bytes):Int:=
 if kind=1 then (if cu key=false then 1 else if 2000<val.length then 2 else match aS l key with | some x=>if x.kind=2 then 21 else 0 | none=>0)
 else if kind=2 then (if cu key=false then 1 else match aS l key with | some x=>if x.kind=2 then 21 else 0 | none=>8)
 else if kind=3 then (if fM key=false then 1 else match aS l key with | some x=>if x.kind=2 then 9 else 21 | none=>0)
 else if kind=4 then mq l key
 else 0
structure kC (m:Nat) (S:aW) (R:Path→Option Rec) (p:Path) (r:Rec) (kind:Int) (key val:Bytes) (S1:aW) (R1:Path→Option Rec) (r1:Rec):Prop where
 held:Held S1 R1 p []
 at_:R1 p=some r1
 full:Full S R→Full S1 R1
 len:S1.L.length≤S.L.length+(if kind=1 then (dN val).length else 0)+(2+2 * m)
 grow:S.L.length≤S1.L.length
 given:S1.given.length≤S.given.length+S.L.length+60
 stay:∀q,q≠p→(¬(p++[key] <+: q)∨kind≠3∧kind≠4)→R1 q=R q
 put:kind=1→r1.l=dS r.l (dG S key val)∧Sem S1.L (dG S key val) val
 del:kind=2→r1.l=(bU r.l key).1
 made:kind=3→r1.l=dS r.l (gT key fH)∧R1 (p++[key])=some fH∧∀q,q≠p→q≠p++[key]→R1 q=R q
 gone:kind=4→r1.l=(bU r.l key).1∧∀q,p++[key] <+: q→R1 q=none
 none:kind≠1→kind≠2→kind≠3→kind≠4→r1.l=r.l
 seq:r1.seq=if kind=1∨kind=2∨kind=3∨kind=4 then r.seq else r.seq+1
 other:∀j:Int,j<(S.L.length:Int)+2→j∉r.ids→nodeAt S1.L j=nodeAt S.L j
theorem kC.out {m:Nat} {S:aW} {R:Path→Option Rec} {p:Path} {r:Rec} {kind:Int} {key val:Bytes} {S1:aW} {R1:Path→Option Rec} {r1:Rec} (h:kC m S R p r kind key val S1 R1 r1) (q:Path) (hq:¬p <+: q):R1 q=R q:=
 h.stay q (fun e=>hq (by rw [e];exact List.prefix_refl _)) (.inl fun z=>hq ((List.prefix_append _ _).trans z))
theorem su {k:Bytes} (h:cu k=true):1≤k.length∧k.length≤32:=by
 unfold cu at h
 simpa using h
theorem Oh {l:List Item} {k:Bytes} (hr:bF l) (h:∀x,aS l k=some x→x.kind≠2):∀y∈l,y.key=k→y.kind≠2:=fun y hy hyk h2=>by
 cases hf:aS l k with
 | none=>exact kI hr hf y hy hyk
 | some x=>
  obtain⟨h3,h4⟩:=fZ hf
  have:=qY hr hy h3 (by rw [hyk,h4])
  rw [this] at h2
  exact h x hf h2
theorem Qs {S:aW} {R:Path→Option Rec} {p:Path} {k v:Bytes} {r:Rec} {m:Nat} (H:Held S R [] []) (hp:R p=some r) (hk:cu k=true) (hv:v.length≤2000) (hx:∀x,aS r.l k=some x→x.kind≠2) (hm:r.l.length<2 ^ m) (hm2:m≤11) (hL:S.L.length+13+2 * m≤3998) :
 ∃root' S2 bE,gV (lI S (dN v)) r.root (dG S k v)=(.ok root',S2)∧bq (lI S (dN v)).L r.root r.l r.ids∧dK (dG S k v)=true∧sD S2.L (je r.l k)∧(je r.l k).kind≠2∧
  kC m S R p r 1 k v (fq S2 (aX (je r.l k))) (upd R p ⟨root',r.seq,dS r.l (dG S k v),bE⟩) ⟨root',r.seq,dS r.l (dG S k v),bE⟩:=by
 have hris:=((aH _).1 (H.dh.tree p r hp).2.1).2
 obtain⟨root',S2,bE,S3,h1,rfl,h3,h4,h5,h6,h7,h8,h9,h10,h11,h12,Yr⟩:=H.LU hp (su hk) hv (Oh hris hx) hm hm2 hL
 exact⟨root',S2,bE,h1,h3,h4,h5,h6,⟨h7,bV _ _ _,h8,by rw [if_pos rfl];exact h9,h10,by omega,fun q hq _=>upd_ne hq,fun _=>⟨rfl,h12⟩,(fun q=>absurd q (by decide)),(fun q=>absurd q (by decide)),(fun q=>absurd q (by decide)),fun q=>absurd rfl q,by rw [if_pos (.inl rfl)],Yr⟩⟩
theorem Qt {S:aW} {R:Path→Option Rec} {p:Path} {k v:Bytes} {r:Rec} {x:Item} {m:Nat} (H:Held S R [] []) (hp:R p=some r) (hx:aS r.l k=some x) (hx2:x.kind≠2) (hm:r.l.length<2 ^ m) (hm2:m≤11) (hL:S.L.length+4+2 * m≤3998) :
 ∃root' wX S2 bE,jk (fq S (aX x)) r.root k=(.ok (root',wX),S2)∧sD S.L x∧(aX x).length≤9∧
  kC m S R p r 2 k v S2 (upd R p ⟨root',r.seq,(bU r.l k).1,bE⟩) ⟨root',r.seq,(bU r.l k).1,bE⟩:=by
 obtain⟨root',wX,S2,bE,h1,h2,h3,h4,h5,h6,h7,h8,h9⟩:=H.LV hp hx hx2 hm hm2 hL
 exact⟨root',wX,S2,bE,h1,h2,h3,⟨h4,bV _ _ _,h5,by rw [if_neg (by omega)];omega,h7,by omega,fun q hq _=>upd_ne hq,(fun q=>absurd q (by decide)),fun _=>rfl,(fun q=>absurd q (by decide)),(fun q=>absurd q (by decide)),fun _ q=>absurd rfl q,by rw [if_pos (.inr (.inl rfl))],h9⟩⟩
theorem Qn {S:aW} {R:Path→Option Rec} {p:Path} {k v:Bytes} {r:Rec} {m:Nat} {kind:Int} (H:Held S R [] []) (hp:R p=some r) (hs:r.seq+1≤1000000) (hk:kind≠1∧kind≠2∧kind≠3∧kind≠4) :
 kC m S R p r kind k v S (upd R p ⟨r.root,r.seq+1,r.l,r.ids⟩) ⟨r.root,r.seq+1,r.l,r.ids⟩:=by
 have h0:=(H.dh.tree p r hp).2.2.1
 obtain⟨h1,h2⟩:=H.step_seq hp (seq:=r.seq+1) ⟨by omega,hs⟩
 exact⟨h1,bV _ _ _,h2,by omega,Nat.le_refl _,by omega,fun q hq _=>upd_ne hq,fun q=>absurd q hk.1,fun q=>absurd q hk.2.1,fun q=>absurd q hk.2.2.1,fun q=>absurd q hk.2.2.2,fun _ _ _ _=>rfl,by rw [if_neg (by omega)],fun _ _ _=>rfl⟩
theorem Oi {S:aW} {R:Path→Option Rec} {p:Path} {k v:Bytes} {r:Rec} {m:Nat} (H:Held S R [] []) (hp:R p=some r) (h47:qW k) (hx:aS r.l k=none) (hd:p.length<5) (hm:r.l.length<2 ^ m) (hm2:m≤11) (hL:S.L.length+4+2 * m≤3998) :
 ∃root' S2 bE,gV S r.root (gT k fH)=(.ok root',S2)∧dK (gT k fH)=true∧
  kC m S R p r 3 k v S2 (upd (upd R (p++[k]) fH) p ⟨root',r.seq,dS r.l (gT k fH),bE⟩) ⟨root',r.seq,dS r.l (gT k fH),bE⟩:=by
 have hris:=((aH _).1 (H.dh.tree p r hp).2.1).2
 have hno:R (p++[k])=none:=by
  cases hr:R (p++[k]) with
  | none=>rfl
  | some r'=>
   obtain⟨r0,x,h1,h2,h3,h4⟩:=H.dh.up p k r' hr (by simp)
   rw [hp] at h1
   cases h1
   exact absurd h3 (kI hris hx x h2)
 have HO:=H.orphan hno hd
 have hp1:upd R (p++[k]) fH p=some r:=by rw [upd_ne (uW p k).symm];exact hp
 obtain⟨root',S2,bE,h1,h2,h3,h4,h5,h6,h7⟩:=HO.Ep (p:=p) (k:=k) (r:=r) (rin:=fH) (m:=m) (.inl rfl) (.inr rfl) hp1 (bV _ _ _) h47 (fun y hy hyk=>absurd hyk (kI hris hx y hy)) hm hm2 hL
 have hgn:∀j:Int,j<(S.L.length:Int)+2→j∉r.ids→nodeAt S2.L j=nodeAt S.L j:=by
  obtain⟨SB,p2,qc,q1,q2,_,M⟩:=lZ S r.root r.l r.ids (gT k fH) (uY h47 fH) (H.dh.tree p r hp).1 (by have:=H.stop;omega) m hm hm2 hL
  rw [h1] at q1
  cases q1
  exact fun j hj hn=>M.other j (by omega) (.inl hn)
 have hmem:=uT hris (gT k fH)
 refine⟨root',S2,bE,h1,uY h47 fH,⟨h2.come ⟨_,gT k fH,bV _ _ _,(hmem _).2 (.inl rfl),rfl,rfl⟩ fun q rq hq hpre j hj=>?_,bV _ _ _,fun F=>h3 (F.orphan hno),by rw [if_neg (by omega)];omega,h5,by omega,fun q hq hs=>?_,(fun q=>absurd q (by decide)),(fun q=>absurd q (by decide)),fun _=>⟨rfl,?_,fun q h3 h4=>by rw [upd_ne h3,upd_ne h4]⟩,(fun q=>absurd q (by decide)),fun _ _ q=>absurd rfl q,by rw [if_pos (.inr (.inr (.inl rfl)))],hgn⟩⟩
 ·rw [upd_ne (xO hpre)] at hq
  by_cases hqe:q=p++[k]
  ·subst hqe
   rw [bV] at hq
   cases hq
   cases hj
  ·rw [upd_ne hqe] at hq
   obtain⟨r',hr'⟩:=H.prefix (q.length-(p++[k]).length) q rq (by have:=hpre.length_le;omega) hq hpre
   rw [hno] at hr'
   cases hr'
 ·rw [upd_ne hq]
  rcases hs with hs | hs
  ·exact upd_ne fun e=>hs (by rw [e];exact List.prefix_refl _)
  ·exact absurd rfl hs.1
 ·rw [upd_ne (uW p k)]
  exact bV _ _ _
theorem Oj {S:aW} {R:Path→Option Rec} {p:Path} {k v:Bytes} {r r2:Rec} {m:Nat} {S2:aW} (D:Dropped m S R p r k S2 r2) :
 kC m S R p r 4 k v S2 (_root_.Go.Proofs.YtbhiamcmiopnoaaGreatDoor.prune (upd R p r2) (p++[k])) r2:=
 ⟨D.held,nT iF (bV _ _ _),D.full,by rw [if_neg (by omega)];have:=D.len;omega,D.grow,by have:=D.given;omega,fun q hq hs=>by
  rcases hs with hs | hs
  ·unfold _root_.Go.Proofs.YtbhiamcmiopnoaaGreatDoor.prune
   rw [if_neg hs,upd_ne hq]
  ·exact absurd rfl hs.2,(fun q=>absurd q (by decide)),(fun q=>absurd q (by decide)),(fun q=>absurd q (by decide)),fun _=>⟨D.l,fun q hq=>if_pos hq⟩,fun _ _ _ q=>absurd rfl q,by rw [D.seq,if_pos (.inr (.inr (.inr rfl)))],D.other⟩
theorem wV {R R1:Path→Option Rec}:∀(ks:List Bytes) (p:Path),(∀q,p <+: q→q <+: p++ks→q≠p++ks→R1 q=R q)→gU R1 p ks=gU R p ks
 | [],_,_=>rfl
 | k :: ks,p,h=>by
  have h1:R1 p=R p:=h p (List.prefix_refl _) (List.prefix_append _ _) (fun e=>by have:=congrArg List.length e;simp at this)
  have h2:=wV (R:=R) (R1:=R1) ks (p++[k]) fun q h3 h4 h5=>h q ((List.prefix_append _ _).trans h3) (by simpa using h4) (by simpa using h5)
  rw [gU,gU,h1,h2]
theorem kC.find {m:Nat} {S:aW} {R:Path→Option Rec} {p:List Bytes} {r:Rec} {kind:Int} {key val:Bytes} {S1:aW} {R1:Path→Option Rec} {r1:Rec} (h:kC m S R p r kind key val S1 R1 r1):gU R1 [] p=gU R [] p:=
 wV p [] fun q _ h2 h3=>h.out q fun h4=>h3 (by
  rw [List.nil_append] at h2 ⊢
  exact(h2.eq_of_length_le h4.length_le))
theorem kC.few {m:Nat} {S:aW} {R:Path→Option Rec} {p:Path} {r:Rec} {kind:Int} {key val:Bytes} {S1:aW} {R1:Path→Option Rec} {r1:Rec} (h:kC m S R p r kind key val S1 R1 r1) (hp:R p=some r) (hf:∀p r,R p=some r→r.l.length+1<2 ^ m):∀q rq,R1 q=some rq→rq.l.length<2 ^ m:=by
 intro q rq hq
 have h0:=hf p r hp
 by_cases Jc:q=p
 ·subst Jc
  rw [h.at_] at hq
  cases hq
  by_cases k1:kind=1
  ·rw [(h.put k1).1];have:=jD r.l (dG S key val);omega
  by_cases k2:kind=2
  ·rw [h.del k2];have:=kZ r.l key;omega
  by_cases k3:kind=3
  ·rw [(h.made k3).1];have:=jD r.l (gT key fH);omega
  by_cases k4:kind=4
  ·rw [(h.gone k4).1];have:=kZ r.l key;omega
  rw [h.none k1 k2 k3 k4];omega
 ·by_cases hst:¬(p++[key] <+: q)∨kind≠3∧kind≠4
  ·rw [h.stay q Jc hst] at hq
   have:=hf q rq hq
   omega
  ·have hpre:p++[key] <+: q:=Classical.byContradiction fun z=>hst (.inl z)
   by_cases k3:kind=3
   ·by_cases hqk:q=p++[key]
    ·subst hqk
     rw [(h.made k3).2.1] at hq
     cases hq
     show 0<2 ^ m
     exact Nat.two_pow_pos m
    ·rw [(h.made k3).2.2 q Jc hqk] at hq
     have:=hf q rq hq
     omega
   ·have k4:kind=4:=Classical.byContradiction fun z=>hst (.inr ⟨k3,z⟩)
    rw [(h.gone k4).2 q hpre] at hq
    cases hq
theorem Md {kind:Int} {l:List Item} {key val:Bytes} (h:kS kind l key val=0) (hk:kind=1):val.length≤2000:=by
 unfold kS at h
 rw [if_pos hk] at h
 split at h
 ·cases h
 ·split at h
  ·cases h
  ·omega
end
section
open Go.RowKit Go.MuLone
theorem Mi (w:World) (b:Nat) (S:aW) (root seq:Int) (key:Bytes) (h:aA w b S) (hkl:key.length≤1000000) (hwd:cu key=false) :
 Calls Tryz.prog 88 #[aF b,aY root seq,str key] w fun e w'=>e=.returned (.tuple #[aY 0 0,.int .i64 1])∧aA w' b S∧aB b w w':=by
 have o1:=(Only.refl (fun _=>False) w).alloc (.cells #[.int .i64 root,.int .i64 seq] 23)
 have h1:=h.still o1
 have A1:=bG.new h (.cells #[.int .i64 root,.int .i64 seq] 23)
 have hs1:(w.alloc (.cells #[.int .i64 root,.int .i64 seq] 23)).heap.size=w.heap.size+1:=Array.size_push _
 generalize hW1:w.alloc (.cells #[.int .i64 root,.int .i64 seq] 23)=W1 at *
 have o2:=(Only.refl (fun _=>False) W1).alloc (.cells #[.int .i64 0,.int .i64 0] 23)
 have h2:=h1.still o2
 have A2:=bG.new h1 (.cells #[.int .i64 0,.int .i64 0] 23)
 rw [hs1] at A2
 have B1:=A1.still h1 o2
 have st2:=aB.still h.lt (Only.trans o1 o2 (fun _ _ q=>q))
 have HI:=Lib.hid (CW _ b S root seq key h2 hkl hwd)
 have HS:=Lib.hid (And.intro A2 st2)
 have hlt:=h.lt
 have a0:=aj B1.at_ 0
 have a1:=aj B1.at_ 1
 simp only [List.getElem?_toArray,List.getElem?_cons_zero,List.getElem?_cons_succ] at a0 a1
 clear o1 o2 h1 h2 A1 A2 B1 st2 h
 subst hW1
 clear hs1
 unfold aF at HI ⊢
 unfold aY at HI ⊢
 go_enter Tryz.func88,Tryz.ntmps88
 go_wp2_with fail
 generalize ((w.alloc (.cells #[.int .i64 root,.int .i64 seq] 23)).alloc (.cells #[.int .i64 0,.int .i64 0] 23))=W at *
 (with_reducible refine HI.out.mono ?_)
 rintro e w2 ⟨rfl,hp2,st2⟩
 obtain⟨B2,st0⟩:=HS.out
 have A3:=bG.new hp2 (.cells #[str [],str [],.int .i64 0] 131)
 have o3:=(Only.refl (fun _=>False) w2).alloc (.cells #[str [],str [],.int .i64 0] 131)
 have C2:=(B2.step st2).still hp2 o3
 have HF:=Lib.hid (eu (hp2.still o3) ((st0.trans st2).trans (aB.still hp2.lt o3)) C2 (by omega) hlt (.int .i64 0) (.int .i64 0))
 have c2:=aj A3.at_ 2
 have x0:=aj C2.at_ 0
 have x1:=aj C2.at_ 1
 have y0:=aC C2.at_ 0
 have y1:=aC C2.at_ 1
 simp only [List.getElem?_toArray,List.getElem?_cons_zero,List.getElem?_cons_succ] at c2 x0 x1
 clear B2 st0 A3 o3 C2 hp2 st2 HS HI a0 a1
 go_wp2_with fail
 obtain⟨g1,g2,g3⟩:=HF.out
 have x0:=aj g3 0
 have x1:=aj g3 1
 simp only [List.getElem?_toArray,List.getElem?_cons_zero,List.getElem?_cons_succ] at x0 x1
 exact bodyPost_ret (v:=.tuple #[.agg #[.int .i64 0,.int .i64 0],.int .i64 1]) (by simp [results,Tryz.results88,go_sem,x0,x1]) rfl ⟨rfl,g1,g2⟩
theorem Ev {k:Bytes} (h:fM k=true):qW k:=by
 unfold fM at h
 simp only [Bool.and_eq_true,Bool.not_eq_true',decide_eq_false_iff_not] at h
 have h1:=su h.1
 have h2:=Lib.indexByte_ge k 47
 have h3:Lib.indexByte k 47=-1:=by omega
 refine⟨h1.1,h1.2,fun hm=>?_⟩
 obtain⟨i,hi⟩:=List.getElem?_of_mem hm
 exact Lib.indexByte_none h3 i hi
end
section
open Go.RowKit
def q8 (w:World) (b m:Nat) (S:aW) (R:Path→Option Rec) (p:Path) (r:Rec) (kind:Int) (key val:Bytes):Ending→World→Prop:=fun e w'=>
 (∃er,er≠0∧er=kS kind r.l key val∧e=.returned (.tuple #[aY 0 0,.int .i64 er])∧aA w' b S∧aB b w w')∨
 (∃S1 R1 r1,kS kind r.l key val=0∧e=.returned (.tuple #[aY r1.root r1.seq,.int .i64 0])∧kC m S R p r kind key val S1 R1 r1∧aA w' b S1∧aB b w w')
structure y8 (b m:Nat) (S:aW) (R:Path→Option Rec) (p:Path) (r:Rec) (key:Bytes):Prop where
 held:Held S R [] []
 at_:R p=some r
 few:∀p r,R p=some r→r.l.length<2 ^ m
 m11:m≤11
 key:key.length≤1000000
 room:S.L.length+13+2 * m≤3998
 given:S.given.length+5000<1000000
 seq:r.seq+1≤1000000
theorem y8.AX {b m:Nat} {S:aW} {R:Path→Option Rec} {p:Path} {r:Rec} {key:Bytes} (h:y8 b m S R p r key):r.l.length<2 ^ 11:=Nat.lt_of_lt_of_le (h.few p r h.at_) (Nat.pow_le_pow_right (by omega) h.m11)
theorem LA (w:World) (b m:Nat) (S:aW) (R:Path→Option Rec) (p:Path) (r:Rec) (key val:Bytes) (h:aA w b S) (A:y8 b m S R p r key) :
 Calls Tryz.prog 26 #[aF b,aY r.root r.seq,str key,str val] w (q8 w b m S R p r 1 key val):=by
 have hs:=A.held.stop
 have hR:=(A.held.dh.tree p r A.at_).1
 by_cases hb:cu key=false∨2000<val.length
 ·refine(J6 w b S r.root r.seq key val h A.key hb).mono fun e w' q=>.inl ⟨_,?_,?_,q.1,q.2⟩
  ·split<;>decide
  ·unfold kS
   rw [if_pos rfl]
   by_cases h1:cu key=false
   ·rw [if_pos h1,if_pos h1]
   ·rw [if_neg h1,if_neg h1,if_pos (hb.resolve_left h1)]
 ·have hk:cu key=true:=by
   cases hc:cu key with
   | true=>rfl
   | false=>exact absurd (.inl hc) hb
  have hv:¬2000<val.length:=fun q=>hb (.inr q)
  have hact:kS 1 r.l key val=match aS r.l key with | some x=>if x.kind=2 then 21 else 0 | none=>0:=by
   unfold kS
   rw [if_pos rfl,if_neg (by simp [hk]),if_neg hv]<;>rfl
  by_cases hx2:∃x,aS r.l key=some x∧x.kind=2
  ·obtain⟨x,hx,h2⟩:=hx2
   refine(Ii w b S r.root r.seq r.l r.ids key val x h A.key hk (by omega) hR (by omega) A.AX hx h2).mono fun e w' q=>.inl ⟨21,by decide,?_,q.1,q.2⟩
   rw [hact,hx]
   simp [h2]
  ·have hx:∀x,aS r.l key=some x→x.kind≠2:=fun x hx h2=>hx2 ⟨x,hx,h2⟩
   obtain⟨root',S2,bE,h1,h3,h4,h5,h6,hop⟩:=Qs (v:=val) A.held A.at_ hk (by omega) hx (A.few p r A.at_) A.m11 A.room
   refine(Gl w b S S2 r.root root' r.seq r.l r.ids key val m h A.key hk (by omega) h4 hR h3 (by omega) (A.few p r A.at_) A.m11 A.room (by have:=A.given;omega) h1 h5 h6).mono fun e w' q=>.inr ⟨_,_,⟨root',r.seq,dS r.l (dG S key val),bE⟩,?_,q.1,hop,q.2⟩
   rw [hact]
   cases hf:aS r.l key with
   | none=>rfl
   | some x=>simp [hx x hf]
theorem Qm (w:World) (b m:Nat) (S:aW) (R:Path→Option Rec) (p:Path) (r:Rec) (key val:Bytes) (h:aA w b S) (A:y8 b m S R p r key) :
 Calls Tryz.prog 88 #[aF b,aY r.root r.seq,str key] w (q8 w b m S R p r 2 key val):=by
 have hs:=A.held.stop
 have hR:=(A.held.dh.tree p r A.at_).1
 have hact:kS 2 r.l key val=if cu key=false then 1 else match aS r.l key with | some x=>if x.kind=2 then 21 else 0 | none=>8:=by
  unfold kS
  rw [if_neg (by decide),if_pos rfl]<;>rfl
 cases hk:cu key with
 | false=>exact(Mi w b S r.root r.seq key h A.key hk).mono fun e w' q=>.inl ⟨1,by decide,by rw [hact,if_pos hk],q.1,q.2⟩
 | true=>
  rw [if_neg (by simp [hk])] at hact
  cases hf:aS r.l key with
  | none=>exact(Ij w b S r.root r.seq r.l r.ids key h A.key hk hR (by omega) A.AX hf).mono fun e w' q=>.inl ⟨8,by decide,by rw [hact,hf],q.1,q.2⟩
  | some x=>
   by_cases h2:x.kind=2
   ·exact(Ik w b S r.root r.seq r.l r.ids key x h A.key hk hR (by omega) A.AX hf h2).mono fun e w' q=>.inl ⟨21,by decide,by rw [hact,hf];simp [h2],q.1,q.2⟩
   ·obtain⟨root',wX,S2,bE,h1,h3,h4,hop⟩:=Qt (v:=val) A.held A.at_ hf h2 (A.few p r A.at_) A.m11 (by have:=A.room;omega)
    exact(MW w b S S2 r.root root' r.seq r.l r.ids key wX m x h A.key hk hR (by omega) (A.few p r A.at_) A.m11 (by have:=A.room;omega) (by have:=A.given;omega) hf h3 h2 h4 h1).mono fun e w' q=>.inr ⟨_,_,⟨root',r.seq,(bU r.l key).1,bE⟩,by rw [hact,hf];simp [h2],q.1,hop,q.2⟩
theorem xM (w:World) (b m:Nat) (S:aW) (R:Path→Option Rec) (p:Path) (r:Rec) (key val:Bytes) (h:aA w b S) (A:y8 b m S R p r key) (hd:p.length<5) :
 Calls Tryz.prog 23 #[aF b,aY r.root r.seq,str key] w (q8 w b m S R p r 3 key val):=by
 have hs:=A.held.stop
 have hR:=(A.held.dh.tree p r A.at_).1
 have hact:kS 3 r.l key val=if fM key=false then 1 else match aS r.l key with | some x=>if x.kind=2 then 9 else 21 | none=>0:=by
  unfold kS
  rw [if_neg (by decide),if_neg (by decide),if_pos rfl]<;>rfl
 cases hk:fM key with
 | false=>exact(L6 w b S r.root r.seq key h A.key hk).mono fun e w' q=>.inl ⟨1,by decide,by rw [hact,if_pos hk],q.1,q.2⟩
 | true=>
  rw [if_neg (by simp [hk])] at hact
  cases hf:aS r.l key with
  | none=>
   obtain⟨root',S2,bE,h1,h3,hop⟩:=Oi (v:=val) A.held A.at_ (Ev hk) hf hd (A.few p r A.at_) A.m11 (by have:=A.room;omega)
   exact(NZ w b S r.root r.seq r.l r.ids key S2 root' m h A.key hR (by omega) A.AX hk hf (A.few p r A.at_) A.m11 (by have:=A.room;omega) (by have:=A.given;omega) h3 h1).mono fun e w' q=>.inr ⟨_,_,⟨root',r.seq,dS r.l (gT key fH),bE⟩,by rw [hact,hf],q.1,hop,q.2⟩
  | some x=>
   by_cases h2:x.kind=2
   ·exact(L8 w b S r.root r.seq r.l r.ids key x h A.key hR (by omega) A.AX hk hf h2).mono fun e w' q=>.inl ⟨9,by decide,by rw [hact,hf];simp [h2],q.1,q.2⟩
   ·exact(Jk w b S r.root r.seq r.l r.ids key x h A.key hR (by omega) A.AX hk hf h2).mono fun e w' q=>.inl ⟨21,by decide,by rw [hact,hf];simp [h2],q.1,q.2⟩
theorem Od (w:World) (b m:Nat) (S:aW) (R:Path→Option Rec) (p:Path) (r:Rec) (key val:Bytes) (h:aA w b S) (A:y8 b m S R p r key) :
 Calls Tryz.prog 24 #[aF b,aY r.root r.seq,str key] w (q8 w b m S R p r 4 key val):=by
 have hact:kS 4 r.l key val=mq r.l key:=by
  unfold kS
  rw [if_neg (by decide),if_neg (by decide),if_neg (by decide),if_pos rfl]
 by_cases he:mq r.l key=0
 ·exact(En w b S R p r key m h A.held A.few A.m11 A.at_ A.key he (by have:=A.room;omega) A.given).mono fun e w' q=>by
   obtain⟨S2,r2,q1,q2,q3⟩:=q
   exact .inr ⟨_,_,_,by rw [hact,he],q1,Oj q2,q3⟩
 ·exact(Mh w b S R p r key h A.held (fun p r hq=>Nat.lt_of_lt_of_le (A.few p r hq) (Nat.pow_le_pow_right (by omega) A.m11)) A.at_ A.key he).mono fun e w' q=>.inl ⟨_,he,hact.symm,q.1,q.2⟩
end
end Go.Proofs.YtbhiamcmiopnoaaGreatDoor
