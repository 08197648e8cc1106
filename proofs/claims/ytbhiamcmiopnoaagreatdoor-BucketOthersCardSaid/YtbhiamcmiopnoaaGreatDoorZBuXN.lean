/- Package bucket over the law's pages: the names of the buckets within one. Conditions: one goroutine; the pages hold the buckets. -/
import Derived.Test.YtbhiamcmiopnoaaGreatDoorZBuH
import Derived.Test.YtbhiamcmiopnoaaGreatDoorZBkS
import Derived.Test.YtbhiamcmiopnoaaGreatDoorZBuX
import Derived.Test.YtbhiamcmiopnoaaGreatDoorZBuF
set_option maxHeartbeats 16000000
set_option maxRecDepth 100000
namespace Go.Proofs.YtbhiamcmiopnoaaGreatDoor
section
open Go.RowKit Go.MuLone
structure Told {α:Type} (enc:α→List Value) (k:Nat) (T:TypeId) (w wr:World) (b:Nat) (S:aW) (l:List Item) (vI ov:Value) (P:List α):Prop where
 own:wr.ownsRow 0 T k ov P.length (P.flatMap enc)
 new:∀j,ov.ownBlock=some j→w.heap.size≤j∧¬bn wr b j∧bI vI≠some j
 pages:aA wr b S
 st:aB b w wr
 items:gN aJ 3 wr vI l
 away:Apart wr b vI
section
variable {α : Type} {enc : α → List Value} {k : Nat} {T : TypeId} {w wr wx : World} {b : Nat} {S : aW} {l : List Item} {vI ov EF : Value} {P : List α}
theorem Told.step (h:Told enc k T w wr b S l vI ov P) (st:aB b wr wx) (hp:aA wx b S):Told enc k T w wx b S l vI ov P:=
 ⟨aP h.own st.only (fun j q=>(h.new j q).2.1),fun j q=>⟨(h.new j q).1,fun z=>(st.own j z).elim (h.new j q).2.1 (fun z=>by have:=(h.own.lt j q).2;omega),(h.new j q).2.2⟩,hp,h.st.trans st,h.items.step h.away st,h.away.step st⟩
theorem Told.still (h:Told enc k T w wr b S l vI ov P) (ho:Only (fun _=>False) wr wx):Told enc k T w wx b S l vI ov P:=
 h.step (aB.still h.pages.lt ho) (h.pages.still ho)
theorem Told.next {x:α} (h:Told enc k T w wr b S l vI ov P) (own:wx.ownsRow 0 T k EF (P.length+1) (P.flatMap enc++enc x)) (gr:wr.grownBy wx ov.ownBlock) (mv:Moved wr ov EF):Told enc k T w wx b S l vI EF (P++[x]):=by
 have ho:Only (fun k=>ov.ownBlock=some k) wr wx:=(Only.refl _ wr).grown gr fun k _ e=>e
 have hb:=ho.block b h.pages.lt fun e=>(h.new b e).2.1 (.inl rfl)
 have hpo:=fun k=>aD hb k
 refine⟨?_,fun j hj=>?_,fT h.pages ho fun k q e=>(h.new k e).2.1 q,jH h.st hb ho fun k e=>(h.new k e).1,h.items.only ho fun j q e=>(h.new j e).2.2 q,h.away.later ho.size hb⟩
 ·rw [List.length_append,List.flatMap_append]
  simpa using own
 ·rcases mv j hj with e | e
  ·exact⟨(h.new j e).1,fun q=>(h.new j e).2.1 ((hpo j).1 q),(h.new j e).2.2⟩
  ·refine⟨Nat.le_trans h.st.only.size e,fun q=>?_,fun q=>?_⟩
   ·have:=bM h.pages ((hpo j).1 q)
    omega
   ·have:=(h.away j q).2
    omega
end
def iq (l:List Item):List Bytes:=(l.filter fun x=>x.kind == 2).map Item.key
theorem Em (l:List Item):(iq l).length≤l.length:=by
 unfold iq
 rw [List.length_map]
 exact List.length_filter_le _ _
theorem Ck {l:List Item} {i:Nat} {x:Item} (h:l[i]? = some x):iq (l.take (i+1))=iq (l.take i)++(if x.kind=2 then [x.key] else []):=by
 unfold iq
 rw [List.take_add_one,h,List.filter_append,List.map_append]
 by_cases h2:x.kind=2
 ·simp [h2]
 ·simp [h2]
def FX (w:World) (b:Nat) (S:aW) (l:List Item):Ending→World→Prop:=fun e w'=>∃v,e=.returned (.tuple #[v,.int .i64 0])∧w'.ownsRow 0 9 1 v (iq l).length ((iq l).flatMap bk.qd)∧(∀j,v.ownBlock=some j→w.heap.size≤j∧¬bn w' b j)∧aA w' b S∧aB b w w'
theorem I9 (w:World) (b:Nat) (S:aW) (root seq:Int) (l:List Item) (ids:List Int) (h:aA w b S) (R:bq S.L root l ids) (hs:S.stop<0) (hl:l.length<2 ^ 11) :
 Calls Tryz.prog 28 #[aF b,aY root seq] w (FX w b S l):=by
 obtain⟨i0,zz,hi,hz0,hz1,hz2,hz3⟩:=bk.FV bk.Sw
 have o1:=(Only.refl (fun _=>False) w).alloc (.cells #[.int .i64 root,.int .i64 seq] 23)
 have h1:=h.still o1
 have n1:=dw w (.cells #[.int .i64 root,.int .i64 seq] 23)
 have st1:=aB.still h.lt o1
 have HT:=Lib.hid (Ay _ b S root l ids [] 1073741824 h1 R (by omega) hl (by omega))
 have HS:=Lib.hid st1
 have c0:=aj n1 0
 simp only [List.getElem?_toArray,List.getElem?_cons_zero] at c0
 clear o1 h1 n1 st1 h R
 unfold nW at HT
 simp only [sK] at HT
 unfold aF aY at *
 go_enter Tryz.func28,Tryz.ntmps28
 go_wp2_with fail
 generalize (w.alloc (.cells #[.int .i64 root,.int .i64 seq] 23))=W1 at *
 (with_reducible refine HT.out.mono ?_)
 rintro e w3 ⟨vI,rfl,MK,Sy,hp3,jR,OO⟩
 rw [List.take_of_length_le (by show l.length≤1073741824;omega)] at MK
 have T0:Told bk.qd 1 9 w w3 b S l vI (.slice none 0 0) []:=⟨⟨rfl,.inl ⟨rfl,rfl⟩⟩,(fun j q=>by cases q),hp3,HS.out.trans jR,MK,Sy⟩
 obtain⟨aI,nI,cI,rfl⟩:=bK MK.cap
 obtain⟨rfl,_⟩:=sj MK.row
 have HT0:=Lib.hid T0
 clear T0 MK Sy hp3 jR OO HT
 go_wp2_with fail
 go_loopg [8,23] l.length (fun gh ov kv wr=>∃(i:Nat),gh+i=l.length∧kv=.int .i64 (i:Int)∧Told bk.qd 1 9 w wr b S l (.slice aI l.length cI) ov (iq (l.take i)))
 case atStart=>exact⟨0,by omega,rfl,HT0.out⟩
 case round=>
  obtain⟨i,u6,rfl,hT⟩:=hrel
  obtain⟨aO,cO,rfl⟩:=ownsRow_form hT.own
  have HG:=Lib.hid hT
  clear hT HT0
  by_cases hi2:i<l.length
  ·obtain⟨x,hx⟩:∃x,l[i]? = some x:=⟨_,List.getElem?_eq_getElem hi2⟩
   obtain⟨gI,off,rfl,k0,k1,k2⟩:=jL HG.out.items.row hx
   have hi1:(i:Int)<(l.length:Int):=by omega
   have hi0:(0:Int)≤(i:Int):=by omega
   have hwi:IntKind.i64.wrap ((i:Int)+1)=(i:Int)+1:=by exact IntWalk.i64_in _ (by omega)
   have hgx:=HG.out.still ((Only.refl (fun _=>False) wr).alloc (.cells #[str x.key,str x.val,.int .i64 x.kind] 131))
   have nx:=dw wr (.cells #[str x.key,str x.val,.int .i64 x.kind] 131)
   have e0:=aj nx 0
   have e1:=aj nx 1
   have e2:=aj nx 2
   simp only [List.getElem?_toArray,List.getElem?_cons_zero,List.getElem?_cons_succ] at e0 e1 e2
   have NR:=Lib.hid hgx
   have xB:=Lib.hid u6
   have JA:=Lib.hid (Ck hx)
   have hnl:=Em (l.take i)
   rw [List.length_take] at hnl
   obtain⟨xk,xv,xd⟩:=x
   dsimp only at *
   clear hgx nx hx u6
   by_cases h2:xd=2
   ·subst h2
    simp only [if_true] at JA
    generalize hP:iq (l.take i)=P at *
    have HP:=Lib.hid hP
    clear hP
    have Wz:=Lib.hid (NR.out.still ((Only.refl (fun _=>False) _).alloc (.cells #[str xk] 9)))
    have p9:=Lib.hid (bH (wr.alloc (.cells #[str xk,str xv,.int .i64 2] 131)) (bk.qd xk) 9 (0,0))
    have hsz:(wr.alloc (.cells #[str xk,str xv,.int .i64 2] 131)).heap.size=wr.heap.size+1:=Array.size_push _
    rw [hsz] at p9
    clear hsz
    have hmax:P.length+1≤maxLen:=by unfold maxLen;omega
    have HOWN:=Lib.hid Wz.out.own
    generalize hN:P.length=N at *
    have HN:=Lib.hid hN
    clear hN
    go_wp2_with (at_builtin;refine aM _ rfl _ _ 37 rfl 9 i0 _ 1 16 Tryz.underlying37 hi hz0 hz1 hz2 hz3 (by decide) _ _ _ rfl HOWN.out ⟨wr.heap.size+1,0,none⟩ 1 1 (bk.qd xk) rfl rfl p9.out (fun u hu=>bk.Vg [xk] u (by simpa using hu)) hmax (by omega) ?_;intro a' c' wx hown2 hgr hmv;have HQ:=Lib.hid (And.intro hown2 (And.intro hgr hmv));clear hown2 hgr hmv)
    all_goals
     go_roundg (l.length-(i+1))
     case measure=>have:=xB.out;omega
     case rel=>exact⟨i+1,by omega,by go_num,by rw [JA.out];exact Wz.out.next (by rw [HN.out];exact HQ.out.1) HQ.out.2.1 HQ.out.2.2⟩
   ·have YD:(xd == 2)=false:=by simpa using h2
    have X5:Hid (iq (l.take (i+1))=iq (l.take i)):=Lib.hid (by rw [JA.out,if_neg h2,List.append_nil])
    clear JA h2
    go_wp2_with fail
    go_roundg (l.length-(i+1))
    case measure=>have:=xB.out;omega
    case rel=>exact⟨i+1,by omega,by go_num,by rw [X5.out];exact NR.out⟩
  ·obtain rfl:i=l.length:=by omega
   have hi1:¬(l.length:Int)<(l.length:Int):=by omega
   have HF:Hid (Told bk.qd 1 9 w wr b S l (.slice aI l.length cI) (.slice aO (iq l).length cO) (iq l)):=Lib.hid (by
    have:=HG.out
    rwa [List.take_length] at this)
   go_wp2_with fail
   go_ret2
   exact⟨_,rfl,HF.out.own,fun j q=>⟨(HF.out.new j q).1,(HF.out.new j q).2.1⟩,HF.out.pages,HF.out.st⟩
end
section
open Go.RowKit Go.MuLone
def KX (L:List Node) (R:Path→Option Rec) (kk v:Bytes):Prop:=View L R []=some (0,[(kk,some v),([120],none)])
theorem KX.item {L:List Node} {R:Path→Option Rec} {r:Rec} {kk v:Bytes} (h:KX L R kk v) (hr:R []=some r):∃y z,r.l=[y,z]∧y.key=kk∧y.kind≠2∧valOf L y=v∧z.key=[120]∧z.kind=2:=by
 unfold KX View at h
 rw [hr] at h
 simp only [Option.map_some,Option.some.injEq,Prod.mk.injEq] at h
 obtain⟨_,h2⟩:=h
 match hl:r.l with
 | []=>rw [hl] at h2;cases h2
 | [y]=>rw [hl] at h2;simp at h2
 | [y,z]=>
  rw [hl] at h2
  simp only [List.map_cons,List.map_nil,List.cons.injEq,and_true,vw,Prod.mk.injEq] at h2
  obtain⟨⟨h3,h4⟩,h5,h6⟩:=h2
  refine⟨y,z,rfl,h3,?_,?_,h5,?_⟩
  ·intro q
   rw [if_pos q] at h4
   cases h4
  ·by_cases q:y.kind=2
   ·rw [if_pos q] at h4
    cases h4
   ·rw [if_neg q] at h4
    exact Option.some.inj h4
  ·by_cases q:z.kind=2
   ·exact q
   ·rw [if_neg q] at h6
    cases h6
 | x :: y :: z :: l=>rw [hl] at h2;simp at h2
theorem KX.get {L:List Node} {R:Path→Option Rec} {r:Rec} {kk v:Bytes} (h:KX L R kk v) (hr:R []=some r) (hw:cu kk=true) {u:Bytes} {ok:Bool} {er:Int} (g:Ie L r.l kk u ok er):u=v∧ok=true∧er=0:=by
 obtain⟨y,z,hl,h1,h2,h3,h4,h5⟩:=h.item hr
 have hf:aS r.l kk=some y:=by
  subst h1
  have h:decide (Keyed.key y<y.key)=false:=decide_eq_false (List.lt_irrefl _)
  rw [hl]
  unfold aS behind
  simp [List.dropWhile,h]
 cases g with
 | bad q=>rw [hw] at q;cases q
 | none _ q=>rw [hf] at q;cases q
 | kind x _ q hk=>
  rw [hf] at q
  cases q
  exact absurd hk h2
 | some x v2 _ q hv=>
  rw [hf] at q
  cases q
  exact⟨hv.val.symm.trans h3,rfl,rfl⟩
theorem KX.names {L:List Node} {R:Path→Option Rec} {r:Rec} {kk v:Bytes} (h:KX L R kk v) (hr:R []=some r):iq r.l=[[120]]:=by
 obtain⟨y,z,hl,h1,h2,h3,h4,h5⟩:=h.item hr
 rw [hl]
 unfold iq
 simp [h2,h4,h5]
theorem O9 (w:World) (b:Nat) (h:aA w b dA) (kk v:Bytes) (hw:cu kk=true) (hv:v.length≤300):Calls Tryz.prog 26 #[aF b,aY 0 0,str kk,str v] w fun e w'=>∃S1 R1 r1,e=.returned (.tuple #[aY r1.root r1.seq,.int .i64 0])∧kC 1 dA Cm [] fH 1 kk v S1 R1 r1∧aA w' b S1∧aB b w w':=by
 have G:=Goes.start
 have hl:=su hw
 have A:y8 b 1 dA Cm [] fH kk:=⟨G.held,G.at_,fun p r hp=>by have:=(G.few p r hp).1;omega,by omega,by omega,by simp [dA],by simp [dA],by decide⟩
 refine(LA w b 1 dA Cm [] fH kk v h A).mono fun e w' q=>?_
 rcases q with ⟨er,q1,q2,_⟩ |⟨S1,R1,r1,q1,q2,q3,q4,q5⟩
 ·refine absurd (q2.trans ?_) q1
  unfold kS
  rw [if_pos rfl,if_neg (by simp [hw]),if_neg (by omega)]
  rfl
 ·exact⟨S1,R1,r1,q2,q3,q4,q5⟩
theorem NS {l:List Item} (h:aS l [120]=none):kS 3 l [120] []=0:=by
 unfold kS
 rw [if_neg (by decide),if_neg (by decide),if_pos rfl,if_neg (by decide +kernel),h]
theorem MR (w:World) (b:Nat) (S1:aW) (R1:Path→Option Rec) (r1:Rec) (kk v:Bytes) (h:aA w b S1) (P:kC 1 dA Cm [] fH 1 kk v S1 R1 r1) (hlt:kk < [120]) (hv:v.length≤300) :
 Calls Tryz.prog 23 #[aF b,aY r1.root r1.seq,str [120]] w fun e w'=>∃S2 R2 r2,e=.returned (.tuple #[aY r2.root r2.seq,.int .i64 0])∧Goes 38 2 v.length S2 R2 r2∧KX S2.L R2 kk v∧aA w' b S2∧aB b w w':=by
 have G:=Goes.start
 have hm:=y9 v
 have hdv:v.length / 232≤1:=by omega
 have hlen:S1.L.length≤v.length / 232+1+4:=by
  have:=P.len
  rw [if_pos rfl] at this
  have h0:dA.L.length=0:=rfl
  omega
 have R8:S1.given.length≤60:=by
  have:=P.given
  have h0:dA.L.length=0:=rfl
  have h1:dA.given.length=0:=rfl
  omega
 have gy:=P.NT (i:=0) G.at_ G.few
 obtain⟨hl1,CU⟩:=P.put rfl
 have hl2:r1.l=[dG dA kk v]:=by rw [hl1];rfl
 have hseq:r1.seq=0:=by rw [P.seq,if_pos (.inl rfl)];rfl
 have hk:=(nX dA kk v).1
 have hk2:=(nX dA kk v).2
 have hnf:aS r1.l [120]=none:=by
  rw [hl2]
  unfold aS behind
  simp [Keyed.key,hk,hlt]
 have A:y8 b 2 S1 R1 [] r1 [120]:=⟨P.held,P.at_,fun p r hp=>by have:=(gy p r hp).1;omega,by omega,by simp,by omega,by omega,by rw [hseq];decide⟩
 refine(xM w b 2 S1 R1 [] r1 [120] [] h A (by simp)).mono fun e w' q=>?_
 rcases q with ⟨er,q1,q2,_⟩ |⟨S2,R2,r2,q1,q2,q3,q4,q5⟩
 ·exact absurd (q2.trans (NS hnf)) q1
 ·have hx:dG dA kk v∈r1.l:=by rw [hl2];simp
  have hvw:vw S2.L (dG dA kk v)=(kk,some v):=by
   rw [P.held.Az P.at_ hx q3.other]
   unfold vw
   rw [if_neg hk2,CU.val,hk]
  have hl3:r2.l=[dG dA kk v,gT [120] fH]:=by
   rw [(q3.made rfl).1,hl2]
   unfold dS ahead behind
   simp [Keyed.key,hk,hlt,gT]
  have Sz:r2.seq=0:=by rw [q3.seq,if_pos (.inr (.inr (.inl rfl))),hseq]
  refine⟨S2,R2,r2,q2,⟨q3.held,q3.at_,q3.full (P.full G.full),?_,?_,fun p r hp=>?_⟩,?_,q4,q5⟩
  ·have h1:=q3.len
   rw [if_neg (by decide)] at h1
   have h2:pU 2=50:=by decide +kernel
   omega
  ·have:=q3.given
   omega
  ·have:=q3.NT (i:=1) P.at_ (fun p r hp=>by have:=gy p r hp;omega) p r hp
   omega
  ·unfold KX View
   rw [q3.at_]
   simp only [Option.map_some,hl3,Sz,List.map_cons,List.map_nil,hvw]
   unfold vw gT
   simp
theorem Ph (w:World) (b:Nat) (S:aW) (R:Path→Option Rec) (r:Rec) (kk v:Bytes) (h:aA w b S) (H:Held S R [] []) (hr:R []=some r) (hf:r.l.length<2 ^ 11) (K:KX S.L R kk v) (hw:cu kk=true) :
 Calls Tryz.prog 27 #[aF b,aY r.root r.seq,str kk] w fun e w'=>e=.returned (.tuple #[str v,.bool true,.int .i64 0])∧aA w' b S∧aB b w w':=by
 have hl:=su hw
 refine(MV w b S r.root r.seq r.l r.ids kk h (by omega) (H.dh.tree [] r hr).1 (by have:=H.stop;omega) hf (H.NU hr)).mono fun e w' q=>?_
 obtain⟨u,ok,er,rfl,hg,h2⟩:=q
 obtain⟨rfl,rfl,rfl⟩:=K.get hr hw hg
 exact⟨rfl,h2⟩
theorem JR (w:World) (b:Nat) (S:aW) (R:Path→Option Rec) (r:Rec) (kk v:Bytes) (h:aA w b S) (H:Held S R [] []) (hr:R []=some r) (hf:r.l.length<2 ^ 11) (K:KX S.L R kk v) :
 Calls Tryz.prog 28 #[aF b,aY r.root r.seq] w fun e w'=>∃a c,e=.returned (.tuple #[.slice a 1 c,.int .i64 0])∧bL bk.qd 1 w' (.slice a 1 c) [[120]]∧aA w' b S∧aB b w w':=by
 refine(I9 w b S r.root r.seq r.l r.ids h (H.dh.tree [] r hr).1 (by have:=H.stop;omega) hf).mono fun e w' q=>?_
 obtain⟨vN,rfl,ho,_,h2⟩:=q
 rw [K.names hr] at ho
 have hrow:=bk.bS (enc:=bk.qd) (k:=1) (fun _=>rfl) ho
 obtain⟨a,c,rfl⟩:=bk.lH hrow
 exact⟨a,c,rfl,hrow,h2⟩
end
end Go.Proofs.YtbhiamcmiopnoaaGreatDoor
