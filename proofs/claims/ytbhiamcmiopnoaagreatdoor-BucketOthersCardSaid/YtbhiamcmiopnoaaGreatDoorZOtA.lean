/- BucketOthers: the law, whatever came in. Conditions: one goroutine; the library's bound MaxLen is some number. -/
import Derived.Test.YtbhiamcmiopnoaaGreatDoorZBuXN
import Derived.Test.YtbhiamcmiopnoaaGreatDoorZOpL
import Derived.Test.YtbhiamcmiopnoaaGreatDoorZTelB
import Derived.Deep.DeepCutAuto
import Derived.Test.YtbhiamcmiopnoaaGreatDoorZPathX
import Derived.Test.YtbhiamcmiopnoaaGreatDoorZBkS
import Derived.Deep.RegionLaw
set_option maxHeartbeats 2000000
set_option maxRecDepth 100000
namespace Go.Proofs.YtbhiamcmiopnoaaGreatDoor.bk
open Go.RowKit
theorem X4 (x:Bytes) (w:World):(binOp .eql 9 (.string ⟨x.toArray⟩) (.string ⟨x.toArray⟩)).run Tryz.prog w=.ok (.bool true) w:=by
 simp [go_sem]
theorem JX (w:World) (va vb:Value) (l:List Bytes) (ha:bL qd 1 w va l) (hb:bL qd 1 w vb l) (hn:l.length≤1000000):Calls Tryz.prog 16 #[va,vb] w (zU w):=by
 obtain⟨a1,c1,rfl⟩:=lH ha
 obtain⟨a2,c2,rfl⟩:=lH hb
 have HA:=Lib.hid ha
 have HB:=Lib.hid hb
 clear ha hb
 go_enter Tryz.func16,Tryz.ntmps16
 go_wp2_with fail
 go_loopg [5] l.length (fun gh iv wr=>∃k:Nat,gh+k=l.length∧iv=.int .i64 k∧Only (fun _=>False) w wr)
 case atStart=>exact⟨0,by omega,rfl,Only.refl _ w⟩
 case round=>
  obtain⟨k,u6,rfl,ho⟩:=hrel
  have HO:=Lib.hid ho
  clear ho
  by_cases hk:k<l.length
  ·have hk1:(k:Int)<(l.length:Int):=by omega
   have hk0:(0:Int)≤(k:Int):=by omega
   obtain⟨x,hx⟩:∃x,l[k]? = some x:=⟨_,List.getElem?_eq_getElem hk⟩
   obtain⟨g1,off1,rfl,hi⟩:=vT (aU HA.out HO.out (fun _ _=>id)) hx
   obtain⟨g2,off2,rfl,hj⟩:=vT (aU HB.out HO.out (fun _ _=>id)) hx
   have i0:wr.cell? ⟨g1,off1+k,none⟩=some (str x):=by simpa using hi 0 _ rfl
   have j0:wr.cell? ⟨g2,off2+k,none⟩=some (str x):=by simpa using hj 0 _ rfl
   try simp only [←Nat.add_assoc] at i0 j0
   have hw1:IntKind.i64.wrap ((k:Int)+1)=(k:Int)+1:=by exact IntWalk.i64_in _ (by omega)
   have heq:=X4 x
   have HH:=Lib.hid (HO.out.drew)
   clear hx hi hj
   go_wp2_with fail
   go_region
   all_goals
    go_wp2_with fail
    go_roundg (gk-1)
    case measure=>omega
    case rel=>exact⟨k+1,by omega,by go_num,by first | exact HH.out | exact HO.out⟩
  ·obtain rfl:k=l.length:=by omega
   have hk1:¬(l.length:Int)<(l.length:Int):=by omega
   go_wp2_with fail
   go_ret
   exact⟨rfl,HO.out⟩
end Go.Proofs.YtbhiamcmiopnoaaGreatDoor.bk
set_option maxHeartbeats 16000000
set_option maxRecDepth 100000
namespace Go.Proofs.YtbhiamcmiopnoaaGreatDoor
open Go.RowKit Go.MuLone
theorem O8 (p:Bytes):({ data:=#[120,47] }:ByteArray) ++ { data:=p.toArray } = { data:=(120 :: 47 :: p).toArray }:=by
 congr 1
theorem QT (p:Bytes):({ data:=#[107] }:ByteArray) ++ { data:=p.toArray } = { data:=(107 :: p).toArray }:=by
 congr 1
theorem TY (p:Bytes):(107 :: p:Bytes) < [120]:=List.cons_lt_cons_iff.2 (.inl (by decide))
theorem JM {p:Bytes} (h:p.length≤20):cu (107 :: p)=true:=by
 unfold cu
 simp
 omega
structure wW (w3:World) (b i V:Nat) (S:aW) (R:Path→Option Rec) (r0:Rec) (B:Nat) (kk v:Bytes) (wr:World):Prop where
 goes:Goes 38 (i+2) (v.length+V) S R r0
 kx:KX S.L R kk v
 pages:aA wr b S
 st:aB b w3 wr
 t4:bG wr b B (.cells #[.int .i64 r0.root,.int .i64 r0.seq] 23 (0,0))
 new:w3.heap.size≤B
theorem wW.step {w3:World} {b i V:Nat} {S:aW} {R:Path→Option Rec} {r0:Rec} {B:Nat} {kk v:Bytes} {wr wx:World} (h:wW w3 b i V S R r0 B kk v wr) (st:aB b wr wx) (hp:aA wx b S):wW w3 b i V S R r0 B kk v wx:=
 ⟨h.goes,h.kx,hp,h.st.trans st,h.t4.step st,h.new⟩
theorem wW.still {w3:World} {b i V:Nat} {S:aW} {R:Path→Option Rec} {r0:Rec} {B:Nat} {kk v:Bytes} {wr wx:World} (h:wW w3 b i V S R r0 B kk v wr) (ho:Only (fun _=>False) wr wx):wW w3 b i V S R r0 B kk v wx:=
 h.step (aB.still h.pages.lt ho) (h.pages.still ho)
theorem EI (w:World) (hm:kT w) (v:Value) (l:List EB) (key val:Bytes) (h:bL opC 4 w v l) (hn:l.length≤9223372036854775807) (hlen:∀x∈l,x.path.length≤9223372036854775807∧x.key.length≤9223372036854775807∧x.val.length≤9223372036854775807) :
 Calls Tryz.prog 6 #[v,str key,str val] w fun e w'=>e=.returned (.bool true)∧Only (fun _=>False) w w':=by
 obtain⟨a,c,rfl⟩:=bk.lH h
 have HV:=Lib.hid h
 have HM:=Lib.hid hm
 have Mt:=Lib.hid (xX w _ l h hn hlen)
 unfold qp at Mt
 have Mv:Hid (∀W,Only (fun _=>False) w W→Calls Tryz.prog 8 #[] W fun e w'=>e=.returned (.bool true)∧Only (fun _=>False) W w'):=Lib.hid (fun W hW=>xY W (HM.out.still hW))
 clear h hm hlen
 go_enter Tryz.func6,Tryz.ntmps6
 go_wp2_with fail
 (with_reducible refine Mt.out.mono ?_)
 rintro e w1 ⟨bl,rfl,hbl,o1⟩
 have hcase:(bl=false)∨(bl=true∧key.length<1)∨(bl=true∧¬key.length<1∧20<key.length)∨(bl=true∧¬key.length<1∧¬20<key.length∧300<val.length)∨(bl=true∧¬key.length<1∧¬20<key.length∧¬300<val.length):=by
  cases bl with
  | false=>exact .inl rfl
  | true=>
   by_cases a1:key.length<1
   ·exact .inr (.inl ⟨rfl,a1⟩)
   by_cases a2:20<key.length
   ·exact .inr (.inr (.inl ⟨rfl,a1,a2⟩))
   by_cases a3:300<val.length
   ·exact .inr (.inr (.inr (.inl ⟨rfl,a1,a2,a3⟩)))
   ·exact .inr (.inr (.inr (.inr ⟨rfl,a1,a2,a3⟩)))
 have mX:=Lib.hid o1
 clear o1 Mt
 rcases hcase with rfl |⟨rfl,q1⟩ |⟨rfl,q1,q2⟩ |⟨rfl,q1,q2,q3⟩ |⟨rfl,q1,q2,q3⟩
 rotate_left 4
 ·obtain⟨T9,hsum⟩:=hbl rfl
  have d1:decide ((key.length:Int)<1)=false:=decide_eq_false (by omega)
  have d2:decide ((key.length:Int) > 20)=false:=decide_eq_false (by omega)
  have d3:decide (20<(key.length:Int))=false:=decide_eq_false (by omega)
  have d4:decide ((val.length:Int) > 300)=false:=decide_eq_false (by omega)
  have d5:decide (300<(val.length:Int))=false:=decide_eq_false (by omega)
  clear hbl q1
  go_wp2_with fail
  (with_reducible refine(Mv.out _ mX.out).mono ?_)
  rintro e w2 ⟨rfl,o2⟩
  have sO:=Lib.hid (mX.out.trans o2 (fun _ _ q=>q))
  have Ov:=Lib.hid (xZ w2)
  have QU:key.length≤20:=by omega
  have Ow:val.length≤300:=by omega
  clear o2 mX Mv d1 d2 d3 d4 d5 q2 q3
  go_wp2_with fail
  go_loopg [7] key.length (fun gh iv wr=>∃(i:Nat),gh+i=key.length∧iv=.int .i64 (i:Int)∧wr=w2)
  case atStart=>exact⟨0,by omega,rfl,rfl⟩
  case round=>
   obtain⟨i,u6,rfl,rfl⟩:=hrel
   by_cases hi:i<key.length
   ·obtain⟨x,hx⟩:∃x,key[i]? = some x:=⟨_,List.getElem?_eq_getElem hi⟩
    have hi1:(i:Int)<(key.length:Int):=by omega
    have hi0:(0:Int)≤(i:Int):=by omega
    have hwi:IntKind.i64.wrap ((i:Int)+1)=(i:Int)+1:=by exact IntWalk.i64_in _ (by omega)
    have hb:=bk.JN hx
    by_cases h47:x=47
    ·subst h47
     have HF:=Lib.hid sO.out
     clear hx
     go_wp2_with fail
     go_ret
     exact⟨rfl,HF.out⟩
    ·have hcb:((x.toNat:Int) == 47)=false:=by
      simp
      intro e
      exact h47 (UInt8.toNat_inj.1 (by rw [show x.toNat=47 by omega];rfl))
     clear hx h47
     go_wp2_with fail
     go_roundg (gk-1)
     case measure=>omega
     case rel=>exact⟨i+1,by omega,by go_num,rfl⟩
   ·have hi1:¬(i:Int)<(key.length:Int):=by omega
    clear u6 hi
    go_wp2_with fail
    (with_reducible refine Ov.out.mono ?_)
    rintro e w3 ⟨rfl,hp3,o3,JO⟩
    generalize hb:wr.heap.size=b at *
    have Gj:=Lib.hid (O9 w3 b hp3 (107 :: key) val (JM QU) Ow)
    unfold aF aY at Gj
    simp only [str] at Gj
    have Pb:Hid (∀W,aB b w3 W→Only (fun _=>False) w W):=Lib.hid (fun W st=>sO.out.trans (aB.new o3 (fun k q=>by have:=JO k q;omega) st).1 (fun _ _ q=>q))
    have hlt3:=hp3.lt
    have hka:=QT key
    have QV:¬9223372036854775807<1+key.length:=by omega
    clear hp3 o3 JO Ov
    go_wp2_with fail
    (with_reducible refine Gj.out.mono ?_)
    rintro e w4 ⟨S1,R1,r1,rfl,hop,iD,fP⟩
    have o5:=(Only.refl (fun _=>False) w4).alloc (.cells #[.int .i64 r1.root,.int .i64 r1.seq] 23)
    have n5:=dw w4 (.cells #[.int .i64 r1.root,.int .i64 r1.seq] 23)
    have c0:=aj n5 0
    have c1:=aj n5 1
    simp only [List.getElem?_toArray,List.getElem?_cons_zero,List.getElem?_cons_succ] at c0 c1
    have oh:=iD.still o5
    have H5:=Lib.hid (fP.trans (aB.still iD.lt o5))
    have Pf:=Lib.hid (MR _ b S1 R1 r1 (107 :: key) val oh hop (TY key) Ow)
    unfold aF aY at Pf
    simp only [str] at Pf
    clear hop iD fP o5 n5 oh Gj
    go_wp2_with fail
    (with_reducible refine Pf.out.mono ?_)
    rintro e w6 ⟨S2,R2,r2,rfl,hgo,hkx,mM,xA⟩
    have n7:=bG.new mM (.cells #[.int .i64 r2.root,.int .i64 r2.seq] 23)
    have o7:=(Only.refl (fun _=>False) w6).alloc (.cells #[.int .i64 r2.root,.int .i64 r2.seq] 23)
    have H7:Hid (wW w3 b 0 (dJ (l.take 0)) S2 R2 r2 w6.heap.size (107 :: key) val (w6.alloc (.cells #[.int .i64 r2.root,.int .i64 r2.seq] 23))):=Lib.hid ⟨by simpa [dJ] using hgo,hkx,mM.still o7,(H5.out.trans xA).trans (aB.still mM.lt o7),n7,Nat.le_trans H5.out.only.size xA.only.size⟩
    clear hgo hkx mM xA n7 o7 Pf H5 c0 c1
    go_wp2_with fail
    generalize wr=w2 at *
    go_loopg [13] l.length (fun gh iv wr=>∃(i:Nat) (S:aW) (R:Path→Option Rec) (r0:Rec),gh+i=l.length∧iv=.int .i64 (i:Int)∧wW w3 b i (dJ (l.take i)) S R r0 w6.heap.size (107 :: key) val wr)
    case atStart=>exact⟨0,S2,R2,r2,by omega,rfl,H7.out⟩
    case round=>
     obtain⟨i,S,R,r0,u6,rfl,hD⟩:=hrel
     have HD:=Lib.hid hD
     clear hD H7
     have c0:=aj HD.out.t4.at_ 0
     have c1:=aj HD.out.t4.at_ 1
     simp only [List.getElem?_toArray,List.getElem?_cons_zero,List.getElem?_cons_succ] at c0 c1
     by_cases hi:i<l.length
     ·obtain⟨x,hx⟩:∃x,l[i]? = some x:=⟨_,List.getElem?_eq_getElem hi⟩
      have hrow:=aU HV.out (Pb.out wr HD.out.st) (fun _ _ q=>q)
      obtain⟨g,off,rfl,k0,k1,k2,k3⟩:=EJ hrow hx
      have hone:=one_le l x (List.mem_of_getElem? hx)
      have Pg:Hid (dJ (l.take (i+1))=dJ (l.take i)+x.val.length):=Lib.hid (by rw [List.take_add_one,hx];simp [dJ])
      have QW:Hid (dJ (l.take i)≤30000):=Lib.hid (by
       have h1:=vg l
       have h2:dJ l=dJ (l.take i)+dJ (l.drop i):=by
        unfold dJ
        rw [←List.sum_append,←List.map_append,List.take_append_drop]
       omega)
      have hi1:(i:Int)<(l.length:Int):=by omega
      have hi0:(0:Int)≤(i:Int):=by omega
      have hwi:IntKind.i64.wrap ((i:Int)+1)=(i:Int)+1:=by exact IntWalk.i64_in _ (by omega)
      have xB:=Lib.hid u6
      have hkl:x.key.length≤1000000:=by omega
      have hpl:x.path.length≤1000000:=by omega
      have oO:=(Only.refl (fun _=>False) wr).alloc (.cells #[.int .i64 x.kind,str x.path,str x.key,str x.val] 55)
      have AO:=bG.new HD.out.pages (.cells #[.int .i64 x.kind,str x.path,str x.key,str x.val] 55)
      have D5:wW w3 b i (dJ (l.take i)) S R r0 w6.heap.size (107 :: key) val (wr.alloc (.cells #[.int .i64 x.kind,str x.path,str x.key,str x.val] 55)):=HD.out.still oO
      have c0:=aj D5.t4.at_ 0
      have c1:=aj D5.t4.at_ 1
      have f0:=aj AO.at_ 0
      have f1:=aj AO.at_ 1
      have f2:=aj AO.at_ 2
      have f3:=aj AO.at_ 3
      have z1:=aC AO.at_ 1
      simp only [List.getElem?_toArray,List.getElem?_cons_zero,List.getElem?_cons_succ] at c0 c1 f0 f1 f2 f3
      have HX:=Lib.hid (And.intro D5 AO)
      have hgw:w6.heap.size<wr.heap.size:=jU HD.out.t4.at_
      clear hrow hx u6 oO AO D5 hone
      obtain⟨xk,xp,EK,xv⟩:=x
      dsimp only at *
      have EL:(xk<1∨(¬xk<1∧4<xk)∨(¬xk<1∧¬4<xk∧20<xp.length))∨(¬xk<1∧¬4<xk∧¬20<xp.length):=by omega
      have QX:Hid (wW w3 b (i+1) (dJ (l.take (i+1))) S R r0 w6.heap.size (107 :: key) val (wr.alloc (.cells #[.int .i64 xk,str xp,str EK,str xv] 55))):=Lib.hid ⟨by rw [Pg.out,←Nat.add_assoc];exact HX.out.1.goes.skip _,HX.out.1.kx,HX.out.1.pages,HX.out.1.st,HX.out.1.t4,HX.out.1.new⟩
      rcases EL with CQ |⟨hk1,hk2,hk3⟩
      ·have e0:(xk<1∧decide (xk<1)=true)∨(¬xk<1∧decide (xk<1)=false∧4<xk∧decide (xk > 4)=true∧decide (4<xk)=true)∨(¬xk<1∧decide (xk<1)=false∧¬4<xk∧decide (xk > 4)=false∧decide (4<xk)=false∧decide ((xp.length:Int) > 20)=true∧decide (20<(xp.length:Int))=true):=by
        rcases CQ with h |⟨h1,h2⟩ |⟨h1,h2,h3⟩
        ·exact .inl ⟨h,decide_eq_true h⟩
        ·exact .inr (.inl ⟨h1,decide_eq_false h1,h2,decide_eq_true h2,decide_eq_true h2⟩)
        ·exact .inr (.inr ⟨h1,decide_eq_false h1,h2,decide_eq_false h2,decide_eq_false h2,decide_eq_true (by omega),decide_eq_true (by omega)⟩)
       clear CQ
       rcases e0 with ⟨_,q1⟩ |⟨_,q1,_,q2,q3⟩ |⟨_,q1,_,q2,q3,q4,q5⟩
       all_goals
        go_wp2_with fail
        go_roundg (gk-1)
        case measure=>have:=xB.out;omega
        case rel=>exact⟨i+1,S,R,r0,by have:=xB.out;omega,by go_num,QX.out⟩
      ·have e1:decide (xk<1)=false:=decide_eq_false hk1
       have e2:decide (xk > 4)=false:=decide_eq_false hk2
       have e3:decide (4<xk)=false:=decide_eq_false hk2
       have e4:decide ((xp.length:Int) > 20)=false:=decide_eq_false (by omega)
       have e5:decide (20<(xp.length:Int))=false:=decide_eq_false (by omega)
       have QV:¬9223372036854775807<2+xp.length:=by omega
       have x9:=H8 (i+2) (by omega)
       have hdv:(val.length+dJ (l.take i)) / 232≤130:=by have:=QW.out;omega
       have oX:=(Only.refl (fun _=>False) wr).alloc (.cells #[.int .i64 xk,str (mE xp),str EK,str xv] 55)
       have DX:=HD.out.still oX
       have yc:=Lib.hid DX
       have mY:=Lib.hid (Ox _ b 38 (i+2) (val.length+dJ (l.take i)) S R r0 xk xp EK xv (HM.out.still (Pb.out _ DX.st)) DX.pages DX.goes (by omega) ⟨by omega,x9.2⟩ (by omega) hkl)
       clear x9 hdv oX DX HX QX hk1 hk2 hk3
       unfold JQ at mY
       unfold aF aY at mY
       rw [Nat.add_assoc val.length (dJ (l.take i)) xv.length,←Pg.out] at mY
       generalize hV1:dJ (l.take (i+1))=V1 at *
       have EM:=Lib.hid hV1
       clear hV1 Pg QW
       have hcases:(xp=[]∧xp.isEmpty=true)∨(xp.isEmpty=false∧((⟨xp.toArray⟩:ByteArray)=⟨#[]⟩)=False∧mE xp=120 :: 47 :: xp):=by
        cases hxp:xp with
        | nil=>exact .inl ⟨rfl,rfl⟩
        | cons y ys=>exact .inr ⟨rfl,eq_false (fun q=>by
         have:=congrArg (fun b:ByteArray=>b.data.toList) q
         simp at this),by unfold mE;rw [if_neg (by simp)];rfl⟩
       have Ua:w6.heap.size<wr.heap.size:=hgw
       rcases hcases with ⟨rfl,q1⟩ |⟨q1,q2,q3⟩
       focus
        have q4:mE []=[120]:=rfl
        rw [q4] at mY yc
       rotate_left
       focus
        rw [q3] at mY yc
        have hba:=O8 xp
        clear q3
       rotate_left
       all_goals
        simp only [str] at mY yc
        go_wp2_with fail
        (with_reducible refine mY.out.mono ?_)
        rintro e w7 ⟨er,root,seq,S',R',r',rfl,hq,hv,pO,tY⟩
        have D7:bG w7 b w6.heap.size (.cells #[.int .i64 r0.root,.int .i64 r0.seq] 23 (0,0)):=yc.out.t4.step tY
        have CS:=yc.out.st.trans tY
        have o8:=(Only.refl (fun _=>False) w7).alloc (.cells #[.int .i64 root,.int .i64 seq] 23)
        have D8:=D7.still pO o8
        have mZ:=pO.still o8
        have yg:=CS.trans (aB.still pO.lt o8)
        have N8:=bG.new pO (.cells #[.int .i64 root,.int .i64 seq] 23)
        have c0:=aj D8.at_ 0
        have c1:=aj D8.at_ 1
        have y0:=aC D8.at_ 0
        have y1:=aC D8.at_ 1
        have n0:=aj N8.at_ 0
        have n1:=aj N8.at_ 1
        simp only [List.getElem?_toArray,List.getElem?_cons_zero,List.getElem?_cons_succ] at c0 c1 n0 n1
        have hts:=oJ mZ yg D8 yc.out.new hlt3 (.int .i64 root) (.int .i64 seq)
        have hox:KX S'.L R' (107 :: key) val:=hv.trans yc.out.kx
        have rE:=Lib.hid (And.intro hox (And.intro mZ (And.intro yg (And.intro D8 (And.intro hts yc.out.new)))))
        clear D7 CS o8 D8 mZ yg N8 hts hox hv pO tY mY
        rcases hq with ⟨hne,hgo,rfl⟩ |⟨rfl,hgo,hr1,hr2⟩
        focus
         have hz1:(er == 0)=false:=by simpa using hne
         have Bn:=Lib.hid hgo
         clear hne hgo
         have Ct:Hid (wW w3 b (i+1) V1 S' R' r' w6.heap.size (107 :: key) val (w7.alloc (.cells #[.int .i64 root,.int .i64 seq] 23))):=Lib.hid ⟨Bn.out,rE.out.1,rE.out.2.1,rE.out.2.2.1,rE.out.2.2.2.1,rE.out.2.2.2.2.2⟩
         clear Bn rE
         go_upto_region 24 with fail
         generalize w7.alloc (.cells #[.int .i64 root,.int .i64 seq] 23)=w9 at *
        rotate_left
        focus
         have Bn:=Lib.hid (And.intro hgo (And.intro hr1 hr2))
         clear hgo hr1 hr2
         have Ct:Hid (wW w3 b (i+1) V1 S' R' r' w6.heap.size (107 :: key) val (((w7.alloc (.cells #[.int .i64 root,.int .i64 seq] 23)).setCell ⟨w6.heap.size,0,none⟩ (.int .i64 root)).setCell ⟨w6.heap.size,1,none⟩ (.int .i64 seq))):=Lib.hid ⟨Bn.out.1,rE.out.1,rE.out.2.2.2.2.1.1,rE.out.2.2.2.2.1.2.1,by rw [←Bn.out.2.1,←Bn.out.2.2];exact rE.out.2.2.2.2.1.2.2.1,rE.out.2.2.2.2.2⟩
         clear Bn rE
         go_upto_region 24 with fail
         generalize ((w7.alloc (.cells #[.int .i64 root,.int .i64 seq] 23)).setCell ⟨w6.heap.size,0,none⟩ (.int .i64 root)).setCell ⟨w6.heap.size,1,none⟩ (.int .i64 seq)=w9 at *
        rotate_left
        all_goals
         clear n0 n1 y0 y1 c0 c1
         have c0:=aj Ct.out.t4.at_ 0
         have c1:=aj Ct.out.t4.at_ 1
         simp only [List.getElem?_toArray,List.getElem?_cons_zero,List.getElem?_cons_succ] at c0 c1
         have gy:r'.l.length<2 ^ 11:=by
          have:=(Ct.out.goes.few _ _ Ct.out.goes.at_).1
          omega
         have Mw:=Lib.hid (Ph w9 b S' R' r' (107 :: key) val Ct.out.pages Ct.out.goes.held Ct.out.goes.at_ gy Ct.out.kx (JM QU))
         have Ub:=Lib.hid (fun W hW=>JR W b S' R' r' (107 :: key) val hW Ct.out.goes.held Ct.out.goes.at_ gy Ct.out.kx)
         unfold aF aY at Mw Ub
         simp only [str] at Mw
         clear gy
         go_wp2_with fail
         (with_reducible refine Mw.out.mono ?_)
         rintro e Xh ⟨rfl,Pj,JU⟩
         have Tq:=Ct.out.step JU Pj
         have c0:=aj Tq.t4.at_ 0
         have c1:=aj Tq.t4.at_ 1
         simp only [List.getElem?_toArray,List.getElem?_cons_zero,List.getElem?_cons_succ] at c0 c1
         have QY:=Lib.hid (Ub.out Xh Pj)
         have QZ:=Lib.hid Tq
         clear Tq Pj JU Mw Ub Ct
         go_wp2_with fail
         (with_reducible refine QY.out.mono ?_)
         rintro e Pk ⟨aN,cN,rfl,VE,JV,JW⟩
         have VF:=QZ.out.step JW JV
         have Qz:=(Only.refl (fun _=>False) Pk).alloc (.cells #[str [120]] 9)
         have hnm:=zT Pk b S' JV [120] 9
         have Pm:=Lib.hid (VF.still Qz)
         have Tt:=Lib.hid (bk.JX _ _ _ [[120]] (aU VE Qz (fun _ _ q=>q)) hnm.2.2.row (by simp))
         unfold bk.zU at Tt
         simp only [str] at Tt Pm
         clear VF Qz hnm VE JV JW QY QZ c0 c1
         go_wp2_with fail
         (with_reducible refine Tt.out.mono ?_)
         rintro e Yw ⟨rfl,VG⟩
         have Uc:=Lib.hid (Pm.out.still VG)
         clear VG Tt Pm
         go_wp2_with fail
         go_roundg (gk-1)
         case measure=>have:=xB.out;omega
         case rel=>exact⟨i+1,S',R',r',by have:=xB.out;omega,by go_num,by rw [EM.out];exact Uc.out⟩
     ·obtain rfl:i=l.length:=by omega
      have hi1:¬(l.length:Int)<(l.length:Int):=by omega
      have HF:=Lib.hid (Pb.out wr HD.out.st)
      obtain⟨vL,vG,hI⟩:=HD.out.pages
      have b3:=aj hI.heap 3
      have b4:=aj hI.heap 4
      simp only [List.getElem?_toArray,List.getElem?_cons_zero,List.getElem?_cons_succ] at b3 b4
      rw [HD.out.goes.held.bad] at b3
      rw [HD.out.goes.held.twice] at b4
      clear hI
      go_wp2_with fail
      go_ret
      exact⟨rfl,HF.out⟩
 ·have HF:Hid (∀W,Only (fun _=>False) w1 W→Only (fun _=>False) w W):=Lib.hid (fun W hW=>mX.out.trans hW (fun _ _ q=>q))
  go_wp2_with fail
  (with_reducible refine(Mv.out _ mX.out).mono ?_)
  rintro e w2 ⟨rfl,o2⟩
  have Jw:=Lib.hid (HF.out _ o2)
  clear o2
  go_wp2_with fail
  go_ret
  exact⟨rfl,Jw.out⟩
 ·have HF:Hid (∀W,Only (fun _=>False) w1 W→Only (fun _=>False) w W):=Lib.hid (fun W hW=>mX.out.trans hW (fun _ _ q=>q))
  have d1:decide ((key.length:Int)<1)=true:=decide_eq_true (by omega)
  clear hbl q1
  go_wp2_with fail
  (with_reducible refine(Mv.out _ mX.out).mono ?_)
  rintro e w2 ⟨rfl,o2⟩
  have Jw:=Lib.hid (HF.out _ o2)
  clear o2
  go_wp2_with fail
  go_ret
  exact⟨rfl,Jw.out⟩
 ·have HF:Hid (∀W,Only (fun _=>False) w1 W→Only (fun _=>False) w W):=Lib.hid (fun W hW=>mX.out.trans hW (fun _ _ q=>q))
  have d1:decide ((key.length:Int)<1)=false:=decide_eq_false (by omega)
  have d2:decide ((key.length:Int) > 20)=true:=decide_eq_true (by omega)
  have d3:decide (20<(key.length:Int))=true:=decide_eq_true (by omega)
  clear hbl q1 q2
  go_wp2_with fail
  (with_reducible refine(Mv.out _ mX.out).mono ?_)
  rintro e w2 ⟨rfl,o2⟩
  have Jw:=Lib.hid (HF.out _ o2)
  clear o2
  go_wp2_with fail
  go_ret
  exact⟨rfl,Jw.out⟩
 ·have HF:Hid (∀W,Only (fun _=>False) w1 W→Only (fun _=>False) w W):=Lib.hid (fun W hW=>mX.out.trans hW (fun _ _ q=>q))
  have d1:decide ((key.length:Int)<1)=false:=decide_eq_false (by omega)
  have d2:decide ((key.length:Int) > 20)=false:=decide_eq_false (by omega)
  have d3:decide (20<(key.length:Int))=false:=decide_eq_false (by omega)
  have d4:decide ((val.length:Int) > 300)=true:=decide_eq_true (by omega)
  have d5:decide (300<(val.length:Int))=true:=decide_eq_true (by omega)
  clear hbl q1 q2 q3
  go_wp2_with fail
  (with_reducible refine(Mv.out _ mX.out).mono ?_)
  rintro e w2 ⟨rfl,o2⟩
  have Jw:=Lib.hid (HF.out _ o2)
  clear o2
  go_wp2_with fail
  go_ret
  exact⟨rfl,Jw.out⟩
end Go.Proofs.YtbhiamcmiopnoaaGreatDoor
namespace Go.Proofs.YtbhiamcmiopnoaaGreatDoor.bucketOthers
open Go.RowKit
theorem walk (a:Option Addr) (len cap:Nat) (z:List EB) (key val:ByteArray) (w:World) (hm:kT w) (hz:Cy w (.slice a len cap) z) (_:key.size≤maxLen) (_:val.size≤maxLen) :
 Calls Tryz.prog 6 #[.slice a len cap,.string key,.string val] w fun e w'=>e=.returned (.bool true)∧Below w.heap.size w w':=by
 have main:=EI w hm _ z key.data.toList val.data.toList hz.1 hz.2.1 hz.2.2
 have e1:str key.data.toList=.string key:=by simp [str]
 have e2:str val.data.toList=.string val:=by simp [str]
 rw [e1,e2] at main
 exact main.mono fun e w' hq=>⟨hq.1,hq.2.below (Nat.le_refl _) fun _ _ q=>q⟩
end Go.Proofs.YtbhiamcmiopnoaaGreatDoor.bucketOthers
