/- BucketDrops: the law, whatever came in. Conditions: one goroutine; the library's bound MaxLen is some number. -/
import Derived.Test.YtbhiamcmiopnoaaGreatDoorZBuX
import Derived.Test.YtbhiamcmiopnoaaGreatDoorZBuH
import Derived.Test.YtbhiamcmiopnoaaGreatDoorZOpL
import Derived.Test.YtbhiamcmiopnoaaGreatDoorZTelB
import Derived.Deep.DeepCutAuto
import Derived.Test.YtbhiamcmiopnoaaGreatDoorZPathX
set_option maxHeartbeats 16000000
set_option maxRecDepth 100000
namespace Go.Proofs.YtbhiamcmiopnoaaGreatDoor
open Go.RowKit Go.MuLone
theorem Ou (w:World):(binOp .eql 23 (.agg #[.int .i64 0,.int .i64 0]) (.agg #[.int .i64 0,.int .i64 0])).run Tryz.prog w=.ok (.bool true) w:=by
 kernel_rfl
theorem Tg (p:Bytes):({ data:=#[120,47] }:ByteArray) ++ { data:=p.toArray } = { data:=(120 :: 47 :: p).toArray }:=by
 congr 1
structure zP (w3:World) (b i V:Nat) (S:aW) (R:Path→Option Rec) (r0:Rec) (B:Nat) (wr:World):Prop where
 goes:Goes 0 (i+1) V S R r0
 EA:og S.L R
 pages:aA wr b S
 st:aB b w3 wr
 t4:bG wr b B (.cells #[.int .i64 r0.root,.int .i64 r0.seq] 23 (0,0))
 new:w3.heap.size≤B
theorem zP.step {w3:World} {b i V:Nat} {S:aW} {R:Path→Option Rec} {r0:Rec} {B:Nat} {wr wx:World} (h:zP w3 b i V S R r0 B wr) (st:aB b wr wx) (hp:aA wx b S):zP w3 b i V S R r0 B wx:=
 ⟨h.goes,h.EA,hp,h.st.trans st,h.t4.step st,h.new⟩
theorem zP.still {w3:World} {b i V:Nat} {S:aW} {R:Path→Option Rec} {r0:Rec} {B:Nat} {wr wx:World} (h:zP w3 b i V S R r0 B wr) (ho:Only (fun _=>False) wr wx):zP w3 b i V S R r0 B wx:=
 h.step (aB.still h.pages.lt ho) (h.pages.still ho)
theorem Jv (w:World) (hm:kT w) (v:Value) (l:List EB) (h:bL opC 4 w v l) (hn:l.length≤9223372036854775807) (hlen:∀x∈l,x.path.length≤9223372036854775807∧x.key.length≤9223372036854775807∧x.val.length≤9223372036854775807) :
 Calls Tryz.prog 5 #[v] w fun e w'=>e=.returned (.bool true)∧Only (fun _=>False) w w':=by
 obtain⟨a,c,rfl⟩:=bk.lH h
 have HV:=Lib.hid h
 have HM:=Lib.hid hm
 have Mt:=Lib.hid (xX w _ l h hn hlen)
 unfold qp at Mt
 have Mv:Hid (∀W,Only (fun _=>False) w W→Calls Tryz.prog 8 #[] W fun e w'=>e=.returned (.bool true)∧Only (fun _=>False) W w'):=Lib.hid (fun W hW=>xY W (HM.out.still hW))
 clear h hm hlen
 go_enter Tryz.func5,Tryz.ntmps5
 go_wp2_with fail
 (with_reducible refine Mt.out.mono ?_)
 rintro e w1 ⟨bl,rfl,hbl,o1⟩
 cases bl with
 | false=>
  have mX:=Lib.hid o1
  clear o1 hbl Mt
  go_wp2_with fail
  (with_reducible refine(Mv.out _ mX.out).mono ?_)
  rintro e w2 ⟨rfl,o2⟩
  have HF:=Lib.hid (mX.out.trans o2 (fun _ _ q=>q))
  clear o2
  go_wp2_with fail
  go_ret
  exact⟨rfl,HF.out⟩
 | true=>
  obtain⟨T9,hsum⟩:=hbl rfl
  have mX:=Lib.hid o1
  clear o1 hbl Mt
  go_wp2_with fail
  (with_reducible refine(Mv.out _ mX.out).mono ?_)
  rintro e w2 ⟨rfl,o2⟩
  have sO:=Lib.hid (mX.out.trans o2 (fun _ _ q=>q))
  have Ov:=Lib.hid (xZ w2)
  clear o2 mX Mv
  go_wp2_with fail
  (with_reducible refine Ov.out.mono ?_)
  rintro e w3 ⟨rfl,hp3,o3,JO⟩
  generalize hb:w2.heap.size=b at *
  have Gj:=Lib.hid (Qi w3 b hp3)
  unfold aF aY at Gj
  simp only [str] at Gj
  have Pb:Hid (∀W,aB b w3 W→Only (fun _=>False) w W):=Lib.hid (fun W st=>sO.out.trans (aB.new o3 (fun k q=>by have:=JO k q;omega) st).1 (fun _ _ q=>q))
  have hlt3:=hp3.lt
  clear hp3 o3 JO Ov
  go_wp2_with fail
  (with_reducible refine Gj.out.mono ?_)
  rintro e w4 ⟨S1,R1,r1,rfl,hgo,hox,iD,fP⟩
  have n5:=bG.new iD (.cells #[.int .i64 r1.root,.int .i64 r1.seq] 23)
  have o5:=(Only.refl (fun _=>False) w4).alloc (.cells #[.int .i64 r1.root,.int .i64 r1.seq] 23)
  have H5:Hid (zP w3 b 0 (dJ (l.take 0)) S1 R1 r1 w4.heap.size (w4.alloc (.cells #[.int .i64 r1.root,.int .i64 r1.seq] 23))):=Lib.hid ⟨by simpa [dJ] using hgo,hox,iD.still o5,fP.trans (aB.still iD.lt o5),n5,fP.only.size⟩
  clear hgo hox iD fP n5 o5 Gj
  go_wp2_with fail
  go_loopg [6] l.length (fun gh iv wr=>∃(i:Nat) (S:aW) (R:Path→Option Rec) (r0:Rec),gh+i=l.length∧iv=.int .i64 (i:Int)∧zP w3 b i (dJ (l.take i)) S R r0 w4.heap.size wr)
  case atStart=>exact⟨0,S1,R1,r1,by omega,rfl,H5.out⟩
  case round=>
   obtain⟨i,S,R,r0,u6,rfl,hD⟩:=hrel
   have HD:=Lib.hid hD
   clear hD H5
   have c0:=aj HD.out.t4.at_ 0
   have c1:=aj HD.out.t4.at_ 1
   simp only [List.getElem?_toArray,List.getElem?_cons_zero,List.getElem?_cons_succ] at c0 c1
   by_cases hi:i<l.length
   ·obtain⟨x,hx⟩:∃x,l[i]? = some x:=⟨_,List.getElem?_eq_getElem hi⟩
    have hrow:=aU HV.out (Pb.out wr HD.out.st) (fun _ _ q=>q)
    obtain⟨g,off,rfl,k0,k1,k2,k3⟩:=EJ hrow hx
    have hone:=one_le l x (List.mem_of_getElem? hx)
    have Pg:Hid (dJ (l.take (i+1))=dJ (l.take i)+x.val.length):=Lib.hid (by rw [List.take_add_one,hx];simp [dJ])
    have QW:Hid (dJ (l.take i)≤30000):=Lib.hid (by
     have h1:=vg l
     have h2:dJ l=dJ (l.take i)+dJ (l.drop i):=by
      unfold dJ
      rw [←List.sum_append,←List.map_append,List.take_append_drop]
     omega)
    have hi1:(i:Int)<(l.length:Int):=by omega
    have hi0:(0:Int)≤(i:Int):=by omega
    have hwi:IntKind.i64.wrap ((i:Int)+1)=(i:Int)+1:=by exact IntWalk.i64_in _ (by omega)
    have xB:=Lib.hid u6
    have hkl:x.key.length≤1000000:=by omega
    have hpl:x.path.length≤1000000:=by omega
    have oO:=(Only.refl (fun _=>False) wr).alloc (.cells #[.int .i64 x.kind,str x.path,str x.key,str x.val] 55)
    have AO:=bG.new HD.out.pages (.cells #[.int .i64 x.kind,str x.path,str x.key,str x.val] 55)
    have D5:zP w3 b i (dJ (l.take i)) S R r0 w4.heap.size (wr.alloc (.cells #[.int .i64 x.kind,str x.path,str x.key,str x.val] 55)):=HD.out.still oO
    have c0:=aj D5.t4.at_ 0
    have c1:=aj D5.t4.at_ 1
    have f0:=aj AO.at_ 0
    have f1:=aj AO.at_ 1
    have f2:=aj AO.at_ 2
    have f3:=aj AO.at_ 3
    have z1:=aC AO.at_ 1
    simp only [List.getElem?_toArray,List.getElem?_cons_zero,List.getElem?_cons_succ] at c0 c1 f0 f1 f2 f3
    have HX:=Lib.hid (And.intro D5 AO)
    have hgw:w4.heap.size<wr.heap.size:=jU HD.out.t4.at_
    clear hrow hx u6 oO AO D5 hone
    obtain⟨xk,xp,EK,xv⟩:=x
    dsimp only at *
    have EL:(xk<1∨(¬xk<1∧5<xk)∨(¬xk<1∧¬5<xk∧20<xp.length))∨(¬xk<1∧¬5<xk∧¬20<xp.length):=by omega
    have QX:Hid (zP w3 b (i+1) (dJ (l.take (i+1))) S R r0 w4.heap.size (wr.alloc (.cells #[.int .i64 xk,str xp,str EK,str xv] 55))):=Lib.hid ⟨by rw [Pg.out];exact HX.out.1.goes.skip _,HX.out.1.EA,HX.out.1.pages,HX.out.1.st,HX.out.1.t4,HX.out.1.new⟩
    rcases EL with CQ |⟨hk1,hk2,hk3⟩
    ·have e0:(xk<1∧decide (xk<1)=true)∨(¬xk<1∧decide (xk<1)=false∧5<xk∧decide (xk > 5)=true∧decide (5<xk)=true)∨(¬xk<1∧decide (xk<1)=false∧¬5<xk∧decide (xk > 5)=false∧decide (5<xk)=false∧decide ((xp.length:Int) > 20)=true∧decide (20<(xp.length:Int))=true):=by
      rcases CQ with h |⟨h1,h2⟩ |⟨h1,h2,h3⟩
      ·exact .inl ⟨h,decide_eq_true h⟩
      ·exact .inr (.inl ⟨h1,decide_eq_false h1,h2,decide_eq_true h2,decide_eq_true h2⟩)
      ·exact .inr (.inr ⟨h1,decide_eq_false h1,h2,decide_eq_false h2,decide_eq_false h2,decide_eq_true (by omega),decide_eq_true (by omega)⟩)
     clear CQ
     rcases e0 with ⟨_,q1⟩ |⟨_,q1,_,q2,q3⟩ |⟨_,q1,_,q2,q3,q4,q5⟩
     all_goals
      go_wp2_with fail
      go_roundg (gk-1)
      case measure=>have:=xB.out;omega
      case rel=>exact⟨i+1,S,R,r0,by have:=xB.out;omega,by go_num,QX.out⟩
    ·have e1:decide (xk<1)=false:=decide_eq_false hk1
     have e2:decide (xk > 5)=false:=decide_eq_false hk2
     have e3:decide (5<xk)=false:=decide_eq_false hk2
     have e4:decide ((xp.length:Int) > 20)=false:=decide_eq_false (by omega)
     have e5:decide (20<(xp.length:Int))=false:=decide_eq_false (by omega)
     have QV:¬9223372036854775807<2+xp.length:=by omega
     have x9:=Ja (i+1) (by omega)
     have hdv:dJ (l.take i) / 232≤129:=by have:=QW.out;omega
     have oX:=(Only.refl (fun _=>False) wr).alloc (.cells #[.int .i64 xk,str (mE xp),str EK,str xv] 55)
     have DX:=HD.out.still oX
     have yc:=Lib.hid DX
     have mY:=Lib.hid (Ox _ b 0 (i+1) (dJ (l.take i)) S R r0 xk xp EK xv (HM.out.still (Pb.out _ DX.st)) DX.pages DX.goes (by omega) ⟨by omega,x9.2⟩ (by omega) hkl)
     clear x9 hdv oX DX HX QX hk1 hk2 hk3
     unfold JQ at mY
     unfold aF aY at mY
     rw [←Pg.out] at mY
     generalize hV1:dJ (l.take (i+1))=V1 at *
     have EM:=Lib.hid hV1
     clear hV1 Pg QW
     have hcases:(xp=[]∧xp.isEmpty=true)∨(xp.isEmpty=false∧((⟨xp.toArray⟩:ByteArray)=⟨#[]⟩)=False∧mE xp=120 :: 47 :: xp):=by
      cases hxp:xp with
      | nil=>exact .inl ⟨rfl,rfl⟩
      | cons y ys=>exact .inr ⟨rfl,eq_false (fun q=>by
       have:=congrArg (fun b:ByteArray=>b.data.toList) q
       simp at this),by unfold mE;rw [if_neg (by simp)];rfl⟩
     have Ua:w4.heap.size<wr.heap.size:=hgw
     rcases hcases with ⟨rfl,q1⟩ |⟨q1,q2,q3⟩
     ·have q4:mE []=[120]:=rfl
      rw [q4] at mY yc
      simp only [str] at mY yc
      go_wp2_with fail
      (with_reducible refine mY.out.mono ?_)
      rintro e w7 ⟨er,root,seq,S',R',r',rfl,hq,hv,pO,tY⟩
      have D7:bG w7 b w4.heap.size (.cells #[.int .i64 r0.root,.int .i64 r0.seq] 23 (0,0)):=yc.out.t4.step tY
      have CS:=yc.out.st.trans tY
      have o8:=(Only.refl (fun _=>False) w7).alloc (.cells #[.int .i64 root,.int .i64 seq] 23)
      have D8:=D7.still pO o8
      have mZ:=pO.still o8
      have yg:=CS.trans (aB.still pO.lt o8)
      have N8:=bG.new pO (.cells #[.int .i64 root,.int .i64 seq] 23)
      have c0:=aj D8.at_ 0
      have c1:=aj D8.at_ 1
      have y0:=aC D8.at_ 0
      have y1:=aC D8.at_ 1
      have n0:=aj N8.at_ 0
      have n1:=aj N8.at_ 1
      simp only [List.getElem?_toArray,List.getElem?_cons_zero,List.getElem?_cons_succ] at c0 c1 n0 n1
      have hts:=oJ mZ yg D8 yc.out.new hlt3 (.int .i64 root) (.int .i64 seq)
      have hox:og S'.L R':=hv.trans yc.out.EA
      have rE:=Lib.hid (And.intro hox (And.intro mZ (And.intro yg (And.intro D8 (And.intro hts yc.out.new)))))
      clear D7 CS o8 D8 mZ yg N8 hts hox hv pO tY mY
      rcases hq with ⟨hne,hgo,rfl⟩ |⟨rfl,hgo,hr1,hr2⟩
      ·have hz1:(er == 0)=false:=by simpa using hne
       have Bn:=Lib.hid hgo
       clear hne hgo
       go_wp2_with fail
       go_roundg (gk-1)
       case measure=>have:=xB.out;omega
       case rel=>exact⟨i+1,_,_,_,by have:=xB.out;omega,by go_num,by rw [EM.out];exact⟨Bn.out,rE.out.1,rE.out.2.1,rE.out.2.2.1,rE.out.2.2.2.1,rE.out.2.2.2.2.2⟩⟩
      ·have Bn:=Lib.hid (And.intro hgo (And.intro hr1 hr2))
       clear hgo hr1 hr2
       go_wp2_with fail
       go_roundg (gk-1)
       case measure=>have:=xB.out;omega
       case rel=>exact⟨i+1,_,_,_,by have:=xB.out;omega,by go_num,by rw [EM.out];exact⟨Bn.out.1,rE.out.1,rE.out.2.2.2.2.1.1,rE.out.2.2.2.2.1.2.1,by rw [←Bn.out.2.1,←Bn.out.2.2];exact rE.out.2.2.2.2.1.2.2.1,rE.out.2.2.2.2.2⟩⟩
     ·rw [q3] at mY yc
      simp only [str] at mY yc
      have hba:=Tg xp
      clear q3
      go_wp2_with fail
      (with_reducible refine mY.out.mono ?_)
      rintro e w7 ⟨er,root,seq,S',R',r',rfl,hq,hv,pO,tY⟩
      have D7:bG w7 b w4.heap.size (.cells #[.int .i64 r0.root,.int .i64 r0.seq] 23 (0,0)):=yc.out.t4.step tY
      have CS:=yc.out.st.trans tY
      have o8:=(Only.refl (fun _=>False) w7).alloc (.cells #[.int .i64 root,.int .i64 seq] 23)
      have D8:=D7.still pO o8
      have mZ:=pO.still o8
      have yg:=CS.trans (aB.still pO.lt o8)
      have N8:=bG.new pO (.cells #[.int .i64 root,.int .i64 seq] 23)
      have c0:=aj D8.at_ 0
      have c1:=aj D8.at_ 1
      have y0:=aC D8.at_ 0
      have y1:=aC D8.at_ 1
      have n0:=aj N8.at_ 0
      have n1:=aj N8.at_ 1
      simp only [List.getElem?_toArray,List.getElem?_cons_zero,List.getElem?_cons_succ] at c0 c1 n0 n1
      have hts:=oJ mZ yg D8 yc.out.new hlt3 (.int .i64 root) (.int .i64 seq)
      have hox:og S'.L R':=hv.trans yc.out.EA
      have rE:=Lib.hid (And.intro hox (And.intro mZ (And.intro yg (And.intro D8 (And.intro hts yc.out.new)))))
      clear D7 CS o8 D8 mZ yg N8 hts hox hv pO tY mY
      rcases hq with ⟨hne,hgo,rfl⟩ |⟨rfl,hgo,hr1,hr2⟩
      ·have hz1:(er == 0)=false:=by simpa using hne
       have Bn:=Lib.hid hgo
       clear hne hgo
       go_wp2_with fail
       go_roundg (gk-1)
       case measure=>have:=xB.out;omega
       case rel=>exact⟨i+1,_,_,_,by have:=xB.out;omega,by go_num,by rw [EM.out];exact⟨Bn.out,rE.out.1,rE.out.2.1,rE.out.2.2.1,rE.out.2.2.2.1,rE.out.2.2.2.2.2⟩⟩
      ·have Bn:=Lib.hid (And.intro hgo (And.intro hr1 hr2))
       clear hgo hr1 hr2
       go_wp2_with fail
       go_roundg (gk-1)
       case measure=>have:=xB.out;omega
       case rel=>exact⟨i+1,_,_,_,by have:=xB.out;omega,by go_num,by rw [EM.out];exact⟨Bn.out.1,rE.out.1,rE.out.2.2.2.2.1.1,rE.out.2.2.2.2.1.2.1,by rw [←Bn.out.2.1,←Bn.out.2.2];exact rE.out.2.2.2.2.1.2.2.1,rE.out.2.2.2.2.2⟩⟩
   ·obtain rfl:i=l.length:=by omega
    have hi1:¬(l.length:Int)<(l.length:Int):=by omega
    have hS:S.L.length≤3900:=by
     have h1:=HD.out.goes.len
     have h2:=Jb (l.length+1) (by omega)
     have h3:=vg l
     rw [List.take_length] at h1
     omega
    have HDR:=Lib.hid (Qj wr b (l.length+1) _ S R r0 HD.out.pages HD.out.goes HD.out.EA (by omega) hS)
    have HST:=Lib.hid HD.out.st
    unfold aF aY at HDR
    simp only [str] at HDR
    clear HD hS HV
    go_wp2_with fail
    (with_reducible refine HDR.out.mono ?_)
    rintro e w5 ⟨S2,R2,r2,rfl,hB,hL,oh,sQ⟩
    have HB:=Lib.hid (And.intro hB hL)
    have o6:=(Only.refl (fun _=>False) w5).alloc (.cells #[.int .i64 0,.int .i64 0] 23)
    have N6:=bG.new oh (.cells #[.int .i64 0,.int .i64 0] 23)
    have mM:=oh.still o6
    have Ti:=Lib.hid (HST.out.trans (sQ.trans (aB.still oh.lt o6)))
    have Ql:=Lib.hid N6
    have Yt:=Lib.hid mM
    have c0:=aj N6.at_ 0
    have c1:=aj N6.at_ 1
    simp only [List.getElem?_toArray,List.getElem?_cons_zero,List.getElem?_cons_succ] at c0 c1
    have BR:=Lib.hid (SA _ b S2 R2 r2 mM hB hL)
    unfold aF aY at BR
    clear hB hL o6 N6 mM oh sQ HDR HST
    go_wp2_with fail
    generalize w5.alloc (.cells #[.int .i64 0,.int .i64 0] 23)=w6 at *
    (with_reducible refine BR.out.mono ?_)
    rintro e w7 ⟨aI,cI,rfl,pO,tY⟩
    have N7:=Ql.out.step tY
    have c0:=aj N7.at_ 0
    have c1:=aj N7.at_ 1
    have QK:=Lib.hid pO
    have Tj:=Lib.hid (Ti.out.trans tY)
    have Xa:=Lib.hid N7
    have Gj:=Lib.hid (fun W hW=>NV W b S2 R2 r2 hW HB.out.1 HB.out.2)
    unfold aF aY at Gj
    simp only [str] at Gj
    obtain⟨vL,vG,hI⟩:=pO
    have b0:=aj hI.heap 0
    have b2:=aj hI.heap 2
    have b3:=aj hI.heap 3
    have b4:=aj hI.heap 4
    simp only [List.getElem?_toArray,List.getElem?_cons_zero,List.getElem?_cons_succ] at b0 b2 b3 b4 c0 c1
    rw [HB.out.1.held.bad] at b3
    rw [HB.out.1.held.twice] at b4
    obtain⟨aL,cL,rfl⟩:=ownsRow_form hI.iY
    obtain⟨aG,cG,rfl⟩:=ownsRow_form hI.l8
    have hgv:=HB.out.1.given
    rw [hgv] at b2
    clear N7 hI tY hgv BR Ti Ql Yt
    have u0:∀p:fu w7,p.u.cell? ⟨b,0,none⟩=some (.slice aL S2.L.length cL):=fun p=>p.cell b0
    have u2:∀p:fu w7,p.u.cell? ⟨b,2,none⟩=some (.slice aG S2.L.length cG):=fun p=>p.cell b2
    have u3:∀p:fu w7,p.u.cell? ⟨b,3,none⟩=some (.bool false):=fun p=>p.cell b3
    have u4:∀p:fu w7,p.u.cell? ⟨b,4,none⟩=some (.bool false):=fun p=>p.cell b4
    have u5:∀p:fu w7,p.u.cell? ⟨w5.heap.size,0,none⟩=some (.int .i64 0):=fun p=>p.cell c0
    go_wp2_with fail
    refine bD (by kernel_rfl) (by kernel_rfl) (fun _W h0 h1=>?_)
    repeat (refine h1 _ _ _ (fun K hK=>?_);rw [if_pos (by kernel_rfl)];go_simp;(refine hK _ ?_;clear hK K))
    refine h0 _ (fun p=>?_)
    clear h0 h1 u0 u2 u3 u4 u5
    have mZ:=QK.out.still p.h
    have Tk:=Lib.hid (Tj.out.trans (aB.still QK.out.lt p.h))
    have N8:=Xa.out.still QK.out p.h
    have Xb:=Lib.hid (Gj.out p.u mZ)
    have c0:=aj N8.at_ 0
    have c1:=aj N8.at_ 1
    simp only [List.getElem?_toArray,List.getElem?_cons_zero,List.getElem?_cons_succ] at c0 c1
    clear mZ N8 b0 b2 b3 b4 Gj Xa QK Tj
    generalize p.u=w8 at *
    go_wp2_with fail
    (with_reducible refine Xb.out.mono ?_)
    rintro e w9 ⟨S3,R3,r3,rfl,hop,Cv,Gu⟩
    have VD:=(Only.refl (fun _=>False) w9).alloc (.cells #[.int .i64 r3.root,.int .i64 r3.seq] 23)
    have n10:=aj (dw w9 (.cells #[.int .i64 r3.root,.int .i64 r3.seq] 23)) 0
    have n11:=aj (dw w9 (.cells #[.int .i64 r3.root,.int .i64 r3.seq] 23)) 1
    simp only [List.getElem?_toArray,List.getElem?_cons_zero,List.getElem?_cons_succ] at n10 n11
    have h10:=Cv.still VD
    have JU:=Tk.out.trans (Gu.trans (aB.still Cv.lt VD))
    have hnm:=zT _ b S3 h10 [120] 9
    have Tn:(w9.alloc (.cells #[.int .i64 r3.root,.int .i64 r3.seq] 23)).heap.size=w9.heap.size+1:=Array.size_push _
    have Gp:=Qk _ b _ 1 S2 S3 R2 R3 r2 r3 hnm.1 HB.out.1 HB.out.2 hop hnm.2.2
    rw [Tn] at Gp
    have Gp:=Lib.hid Gp
    unfold aF aY at Gp
    simp only [str] at Gp
    have Xc:=Lib.hid (JU.trans hnm.2.1)
    clear hop Cv Gu VD h10 JU Xb Tk hnm Tn
    go_wp2_with fail
    (with_reducible refine Gp.out.mono ?_)
    rintro e Pk ⟨rfl,JV,JW⟩
    have HF:=Lib.hid (Pb.out Pk (Xc.out.trans JW))
    have Qz:=(Only.refl (fun _=>False) Pk).alloc (.cells #[.int .i64 0,.int .i64 0] 23)
    have e0:=aj (dw Pk (.cells #[.int .i64 0,.int .i64 0] 23)) 0
    have e1:=aj (dw Pk (.cells #[.int .i64 0,.int .i64 0] 23)) 1
    simp only [List.getElem?_toArray,List.getElem?_cons_zero,List.getElem?_cons_succ] at e0 e1
    have Jw:=Lib.hid (HF.out.trans Qz (fun _ _ q=>q))
    have heq:=Ou
    clear JV JW Gp Xc HF Qz n10 n11
    go_wp2_with fail
    go_ret
    exact⟨rfl,Jw.out⟩
end Go.Proofs.YtbhiamcmiopnoaaGreatDoor
namespace Go.Proofs.YtbhiamcmiopnoaaGreatDoor.bucketDrops
open Go.RowKit
theorem walk (a:Option Addr) (len cap:Nat) (z:List EB) (w:World) (hm:kT w) (hz:Cy w (.slice a len cap) z) :
 Calls Tryz.prog 5 #[.slice a len cap] w fun e w'=>e=.returned (.bool true)∧Below w.heap.size w w':=
 (Jv w hm _ z hz.1 hz.2.1 hz.2.2).mono fun _ _ hq=>⟨hq.1,hq.2.below (Nat.le_refl _) fun _ _ q=>q⟩
end Go.Proofs.YtbhiamcmiopnoaaGreatDoor.bucketDrops
