/- Package tree over the law's pages: a key is deleted below a twig. Conditions: one goroutine; below the page is a tree; there is room for the pages. -/
import Derived.Test.YtbhiamcmiopnoaaGreatDoorZTreeD
import Derived.BigRegion
import Derived.Deep.RegionWith
set_option maxHeartbeats 20000000
set_option maxRecDepth 100000
namespace Go.Proofs.YtbhiamcmiopnoaaGreatDoor
open Go.RowKit
def yj (w:World) (b B:Nat) (o:Obj):Prop:=w.heap[B]? = some o∧¬bn w b B
theorem yj.lt {w:World} {b B:Nat} {o:Obj} (h:yj w b B o):B<w.heap.size:=(Array.getElem?_eq_some_iff.1 h.1).1
theorem yj.only {w w':World} {b B:Nat} {o:Obj} {T:Nat→Prop} (h:yj w b B o) (hb:b<w.heap.size) (ho:Only T w w') (hB:¬T B) (hT:¬T b):yj w' b B o:=⟨(ho.block B h.lt hB).trans h.1,fun q=>h.2 ((aD (ho.block b hb hT) B).1 q)⟩
theorem yj.still {w w':World} {b B:Nat} {o:Obj} (h:yj w b B o) (hb:b<w.heap.size) (ho:Only (fun _=>False) w w'):yj w' b B o:=h.only hb ho id id
theorem yj.step {w w':World} {b B:Nat} {o:Obj} (h:yj w b B o) (st:aB b w w'):yj w' b B o:=⟨(st.only.block B h.lt h.2).trans h.1,fun q=>(st.own B q).elim h.2 (by have:=h.lt;omega)⟩
theorem yj.new {w:World} {b:Nat} {S:aW} (h:aA w b S) (cs:Array Value) (t:TypeId):yj (w.alloc (.cells cs t)) b w.heap.size (.cells cs t):=⟨heap_alloc_new w _,fun q=>by
 have:=bM h ((aD (((Only.refl (fun _=>False) w).alloc (.cells cs t)).block b h.lt id) _).1 q)
 omega⟩
theorem Io (key:Bytes) (f:Nat) (IH:Gq key f) (n:Nat) (S S2:aW) (id:Int) (b0:Bytes) (l:List Item) (ids:List Int) (depth:Int) (r:Rest) (w:World) (b:Nat) (T:Tree S.L (n+1) id b0 l ids) (hf:n<f) (hd0:1≤depth) (hd:depth+(n+1:Nat)≤12) (hs:S.stop<0) (hL:S.L.length+3+2 * (n+1)≤3998)
 (hg:S.given.length+2 * (f+1)<1000000) (h:aA w b S) (hk:qy (f+1) S id key depth=(.ok r,S2)) :
 Calls Tryz.prog 176 #[aF b,.int .i64 id,str key,.int .i64 depth] w (uz w b r S2):=by
 obtain⟨kids,k,rk,p1,hn,hne,ok,h2k,hkk,⟨b',l',bE,hT⟩,hpp,Ue,Uf,Ug,Uh,hcase⟩:=yt key n f S S2 id b0 l ids depth r T hf hd hs hL hk
 have hid:=cB hn
 have iT:=(aH _).1 ok.1
 have hkl:kids.length≤255:=ok.2.2
 have Xi:aT kids≤232:=ok.2.1
 have hfl:=(List.getElem?_eq_some_iff.1 hkk).1
 have Po:fF k=true:=iT.1 k (List.mem_of_getElem? hkk)
 simp only [fF,decide_eq_true_eq] at Po
 have oW:=(Only.refl (fun _=>False) w).alloc (.cells #[.slice none 0 0,.bool false,.bool false] 248)
 have mh:=Lib.hid (oN (w.alloc (.cells #[.slice none 0 0,.bool false,.bool false] 248)) b S id depth kids (h.still oW) hs hn (by omega) (by omega))
 have hpw:=h.lt
 have VJ:=Lib.hid (yj.new h #[.slice none 0 0,.bool false,.bool false] 248)
 have HW0:=Lib.hid (aB.still h.lt oW)
 have QA:=Lib.hid (fun W hW=>IH n S p1 k.page b' l' bE (depth+1) rk W b hT hf (by omega) (by omega) hs (by omega) (by omega) hW hpp)
 have Gs:=Lib.hid hcase
 have Xj:=fun n=>Br n ⟨b,0,none⟩
 clear h hk IH hpp hcase hT T oW
 unfold aF at mh ⊢
 go_enter Tryz.func176,Tryz.ntmps176
 go_wp2_with fail
 refine mh.out.mono ?_
 rintro e w1 ⟨v1,rfl,hrow,hap,hp1,st1⟩
 obtain⟨a1,n1,c1,rfl⟩:=bK hrow.cap
 obtain rfl:n1=kids.length:=by
  cases hrow.row with
  | none=>rfl
  | some=>rfl
 have o2:=(Only.refl (fun _=>False) w1).alloc (.cells #[.int .i64 id,.bool false,.slice none 0 0,.slice a1 kids.length c1] 207)
 have Tw:=Lib.hid (yj.new hp1 #[.int .i64 id,.bool false,.slice none 0 0,.slice a1 kids.length c1] 207)
 have Q9:=Lib.hid (uy _ kids key _ (aU hrow.row o2 (fun _ _=>fun q=>q)) hne iT.2 (by omega))
 have Ra:=Lib.hid (VJ.out.step st1)
 have HRW:=Lib.hid (And.intro hrow hap)
 have jY:=Lib.hid hp1
 have kV:=Lib.hid (HW0.out.trans st1)
 have sO:=Lib.hid o2
 clear hrow hap hp1 st1 o2 mh HW0 VJ
 go_wp2_with fail
 refine Q9.out.mono ?_
 rintro e w3 ⟨rfl,o3⟩
 have kU:=Lib.hid (sO.out.trans o3 (fun _ _ q=>q))
 have CY:(w1.alloc (.cells #[.int .i64 id,.bool false,.slice none 0 0,.slice a1 kids.length c1] 207)).heap.size=w1.heap.size+1:=by simp
 have M5:=Lib.hid (Tw.out.still (by have:=jY.out.lt;omega) o3)
 have Pp:=Lib.hid (Ra.out.still jY.out.lt kU.out)
 have n3:=ay M5.out.1 3
 have hrow3:=aU HRW.out.1.row kU.out (fun _ _=>fun q=>q)
 obtain⟨g,off,rfl,k0,k1⟩:=fE hrow3 hkk
 simp only [List.getElem?_toArray,List.getElem?_cons_zero,List.getElem?_cons_succ] at n3
 have HR3:=Lib.hid (And.intro (HRW.out.1.only kU.out (fun _ _=>fun q=>q)) (HRW.out.2.later kU.out.size (kU.out.block b jY.out.lt (fun q=>q))))
 have Bt:=Lib.hid (kV.out.trans (aB.still jY.out.lt kU.out))
 have ET:=Lib.hid (jY.out.still kU.out)
 clear o3 hrow3 Q9 Tw Ra
 generalize J9:eH kids key=at_ at *
 have Ui:(at_:Int)<(kids.length:Int):=by omega
 have Uj:IntKind.i64.wrap (depth+1)=depth+1:=by exact IntWalk.i64_in _ (by omega)
 have hih:=QA.out w3 ET.out
 unfold uz at hih
 have Pq:=Lib.hid hih
 clear hih QA J9
 unfold aF at Pq
 go_wp2_with fail
 refine Pq.out.mono ?_
 rintro e w4 ⟨V,rfl,hkr,iD,fP⟩
 clear Pq
 obtain⟨aV,cV,rfl⟩:=ownsRow_form hkr.own
 generalize zu:rk.kids.length=nV at *
 have Rb:=Lib.hid zu
 clear zu
 have o5:Only (fun _=>False) w4 (w4.alloc (.cells #[.slice aV nV cV,.bool rk.thin,.bool rk.found] 248)):=(Only.refl _ w4).alloc _
 have Jz:=Lib.hid (yj.new iD #[.slice aV nV cV,.bool rk.thin,.bool rk.found] 248)
 have Ip:=Lib.hid (And.intro ((Pp.out.step fP).still iD.lt o5) ((M5.out.step fP).still iD.lt o5))
 have hs4:=fP.only.size
 have hs3:=kU.out.size
 have hs1:=kV.out.only.size
 rw [CY] at *
 have Ka:=Lib.hid hkr
 have Cu:=Lib.hid iD
 have xE:=Lib.hid (Bt.out.trans fP)
 have HR4:=Lib.hid (And.intro (HR3.out.1.step HR3.out.2 fP) (HR3.out.2.step fP))
 have mO:=Lib.hid o5
 have Xk:=Pp.out.lt
 have Xl:=M5.out.lt
 clear hkr iD fP o5 Pp M5 n3 k0 k1 HR3
 rcases Gs.out with ⟨rfl,rfl,rfl,rfl⟩ |⟨Mx,hc⟩
 ·clear Gs
  have f2:=ay Jz.out.1 2
  simp only [List.getElem?_toArray,List.getElem?_cons_zero,List.getElem?_cons_succ] at f2
  have HE:=Lib.hid (kX (r:=⟨[],false,false⟩) (V:=.slice none 0 0) hpw Ip.out.1.1 (Nat.le_refl _) Ip.out.1.2 ⟨⟨rfl,.inl ⟨rfl,rfl⟩⟩,fun j hj=>by cases hj⟩ (fun q=>by cases q) (Cu.out.still mO.out) (xE.out.trans (aB.still Cu.out.lt mO.out)))
  have jZ:=Ip.out.1.1
  have c0:=ay jZ 0
  have c1':=ay jZ 1
  have c2:=ay jZ 2
  have z0:=aQ jZ 0
  have z1:=aQ jZ 1
  have z2:=aQ jZ 2
  simp only [List.getElem?_toArray,List.getElem?_cons_zero,List.getElem?_cons_succ] at c0 c1' c2
  clear jZ
  go_wp2_with fail
  obtain⟨hkr,hp,st,hh⟩:=HE.out
  unfold three at hkr hp st hh
  have q0:=ay hh 0
  have q1:=ay hh 1
  have q2:=ay hh 2
  simp only [List.getElem?_toArray,List.getElem?_cons_zero,List.getElem?_cons_succ] at q0 q1 q2
  exact bodyPost_ret (v:=.tuple #[.agg #[.slice none 0 0,.bool false,.bool false],.int .i64 0]) (by simp [results,Tryz.results176,go_sem,q0,q1,q2]) rfl ⟨.slice none 0 0,rfl,hkr,hp,st⟩
 ·obtain⟨Kc,th,fo⟩:=rk
  simp only at Mx hc Rb Ka Jz Ip mO
  subst Mx
  rcases hc with ⟨hth,hr2,Rf,hD⟩ |⟨hth,one,l2,p2,Rf,hone,hj,hj1,hj2,hj3,Yx,Yy,hD⟩
  ·subst hth
   have f0:=ay Jz.out.1 0
   have f1:=ay Jz.out.1 1
   have f2:=ay Jz.out.1 2
   have n3:=ay Ip.out.2.1 3
   simp only [List.getElem?_toArray,List.getElem?_cons_zero,List.getElem?_cons_succ] at f0 f1 f2 n3
   have hr3:Kc.length≤2:=by rw [Rb.out];exact hr2
   have Rh:bJ Kc=true:=Rf
   have hsz:aT (fO kids at_ (setHead k.key Kc))≤392:=by
    have e1:=yu kids (setHead k.key Kc) at_
    have e3:aT (setHead k.key Kc)≤1+36 * Kc.length+36:=by
     have e4:=gW Kc fun y hy=>(dY (((aH _).1 Rh).1 y hy)).2
     have e5:=uD (k:=k.key) (by omega) Kc
     omega
    omega
   have HQ:Hid (aT (fO kids at_ (setHead k.key Kc))≤392∧p1.L.length+2≤3998∧id<(p1.L.length+2:Nat)∧p1.given.length<1000000):=Lib.hid ⟨hsz,by omega,by omega,by omega⟩
   have HD:=Lib.hid hD
   cases Kc with
   | nil=>
    obtain rfl:nV=0:=Rb.out.symm
    have Gt:=Lib.hid (EU (.slice (some ⟨g,off,none⟩) kids.length c1) (.slice aV 0 cV) kids at_ _ (aU HR4.out.1.row mO.out (fun _ _=>fun q=>q)) hfl (aP Ka.out.own mO.out (fun _ _=>fun q=>q)) (by omega))
    clear hsz hD hr2 Rf hr3 Rh Gs
    go_wp2_with fail
    (with_reducible refine Gt.out.mono ?_)
    rintro e w6 ⟨v6,rfl,pY,o6,Na⟩
    have hb5:b<(w4.alloc (.cells #[.slice aV 0 cV,.bool false,.bool true] 248)).heap.size:=Nat.lt_of_lt_of_le Cu.out.lt mO.out.size
    have g1:=ay (Jz.out.still hb5 o6).1 1
    simp only [List.getElem?_toArray,List.getElem?_cons_zero,List.getElem?_cons_succ] at g1
    have mM:=(Cu.out.still mO.out).still o6
    have hsz5:=xE.out.only.size
    have Uk:=mO.out.size
    have Nb:=Ip.out.1.lt
    have HL:=Lib.hid (And.intro pY (And.intro (fun j (hj:v6.ownBlock=some j)=>(⟨by have:=Na j hj;omega,fun q=>by have:=Na j hj;have:=bM (Cu.out.still mO.out) ((aD (o6.block b hb5 (fun q=>q)) j).1 q);omega,by have:=Na j hj;omega⟩:w.heap.size≤j∧¬bn w6 b j∧j≠w.heap.size)) (And.intro mM (And.intro (xE.out.trans ((aB.still Cu.out.lt mO.out).trans (aB.still hb5 o6))) (Ip.out.1.still hb5 o6)))))
    clear hsz5 Uk Nb pY o6 Na hb5 mM f0 f1 f2 n3 Gt Jz Ip Ka
    change Hid (_∧_) at HL
    have e0:setHead k.key []=[]:=rfl
    rw [e0] at HQ HD
    generalize fO kids at_ []=LL at *
    clear e0
    obtain⟨aL,cL,rfl⟩:=ownsRow_form HL.out.1
    generalize zZ:LL.length=nL at *
    rcases HD.out with ⟨h1,rfl,rfl⟩ |⟨h2,wk,vB,rfl⟩
    ·obtain rfl:nL=1:=by rw [←zZ];exact h1
     have oI:Only (fun _=>False) w6 (w6.alloc (.cells #[.int .i64 id] 3)):=(Only.refl _ w6).alloc _
     have hnw:=yj.new HL.out.2.2.1 #[.int .i64 id] 3
     have HF:=Lib.hid (uE (w6.alloc (.cells #[.int .i64 id] 3)) b p1 id (.slice (some ⟨w6.heap.size,0,none⟩) 1 1) (HL.out.2.2.1.still oI) HQ.out.2.2.2 ⟨_,_,_,rfl,ay hnw.1 0,hnw.2⟩)
     have Ri:=Lib.hid zZ
     have jK:=Lib.hid oI
     clear hnw zZ h1 oI
     go_wp2_with fail
     refine HF.out.mono ?_
     rintro e wf ⟨rfl,hpf,CZ⟩
     obtain⟨own,far,hp,st,br⟩:=HL.out
     have hbW:=hp.lt
     have jM:=(br.still hbW jK.out).step CZ
     have yw:∀j,bn (w6.alloc (.cells #[.int .i64 id] 3)) b j→bn w6 b j:=fun j q=>(aD (jK.out.block b hbW (fun q=>q)) j).1 q
     have HE:=Lib.hid (kX (r:=⟨LL,true,true⟩) (V:=.slice aL 1 cL) hpw jM.1 (Nat.le_refl _) jM.2 ⟨(by have e:LL.length=1:=Ri.out;show World.ownsRow _ 0 _ 2 _ LL.length _;rw [e];exact aP (aP own jK.out (fun _ _=>fun q=>q)) CZ.only (fun j hj q=>(far j hj).2.1 (yw j q))),fun j hj=>⟨(far j hj).1,fun q=>(CZ.own j q).elim (fun q=>(far j hj).2.1 (yw j q)) (fun q=>by have:=(own.lt j hj).2;have:=jK.out.size;omega)⟩⟩ (fun q=>(far _ q).2.2 rfl) hpf (st.trans ((aB.still hbW jK.out).trans CZ)))
     have c0:=ay jM.1 0
     have c1':=ay jM.1 1
     have c2:=ay jM.1 2
     have z0:=aQ jM.1 0
     have z1:=aQ jM.1 1
     have z2:=aQ jM.1 2
     simp only [List.getElem?_toArray,List.getElem?_cons_zero,List.getElem?_cons_succ] at c0 c1' c2
     clear jM
     clear own far hp st br hbW yw hpf CZ HF
     go_wp2_with fail
     obtain⟨hkr,hp,st,hh⟩:=HE.out
     unfold three at hkr hp st hh
     have q0:=ay hh 0
     have q1:=ay hh 1
     have q2:=ay hh 2
     simp only [List.getElem?_toArray,List.getElem?_cons_zero,List.getElem?_cons_succ] at q0 q1 q2
     exact bodyPost_ret (v:=.tuple #[.agg #[.slice aL 1 cL,.bool true,.bool true],.int .i64 0]) (by simp [results,Tryz.results176,go_sem,q0,q1,q2]) rfl ⟨_,rfl,hkr,hp,st⟩
    ·have hrr:=iU vB
     have hne1:¬(nL:Int)=1:=by omega
     have hcf:=ni hrr HQ.out.1
     have hq:=HQ.out
     have own:=HL.out.1
     rw [←zZ] at own
     have HT:=Lib.hid (j3 w6 b p1 S2 id LL wk (.slice aL nL cL) HL.out.2.2.1 ⟨bS (enc:=aR) (k:=2) (fun _=>rfl) (by rw [zZ] at own ⊢;exact own),dQ HL.out.1⟩ hrr (by omega) (by omega) (by omega) (by omega) (by omega) (by omega) vB)
     clear hrr hcf hq own vB h2 zZ
     unfold aF at HT
     go_wp2_with fail
     refine HT.out.mono ?_
     rintro e wt ⟨V9,rfl,nu,Cv,Gu⟩
     obtain⟨a9,c9,rfl⟩:=ownsRow_form nu.own
     obtain⟨own,far,hp,st,br⟩:=HL.out
     have jM:=br.step Gu
     have Rj:=st.only.size
     have Ke:=br.lt
     have HE:=Lib.hid (kX (r:=⟨wk,false,true⟩) hpw jM.1 (Nat.le_refl _) jM.2 ⟨nu.own,fun j hj=>⟨by have:=(nu.far j hj).1;omega,(nu.far j hj).2⟩⟩ (fun q=>by have:=(nu.far _ q).1;omega) Cv (st.trans Gu))
     have c0:=ay jM.1 0
     have c1':=ay jM.1 1
     have c2:=ay jM.1 2
     have z0:=aQ jM.1 0
     have z1:=aQ jM.1 1
     have z2:=aQ jM.1 2
     simp only [List.getElem?_toArray,List.getElem?_cons_zero,List.getElem?_cons_succ] at c0 c1' c2
     clear jM
     clear own far hp st br Rj Ke nu Cv Gu HT
     go_wp2_with fail
     obtain⟨hkr,hp,st,hh⟩:=HE.out
     unfold three at hkr hp st hh
     have q0:=ay hh 0
     have q1:=ay hh 1
     have q2:=ay hh 2
     simp only [List.getElem?_toArray,List.getElem?_cons_zero,List.getElem?_cons_succ] at q0 q1 q2
     exact bodyPost_ret (v:=.tuple #[.agg #[.slice a9 wk.length c9,.bool false,.bool true],.int .i64 0]) (by simp [results,Tryz.results176,go_sem,q0,q1,q2]) rfl ⟨_,rfl,hkr,hp,st⟩
   | cons x xs=>
    obtain⟨gv,rfl⟩:∃gv,aV=some ⟨gv,0,none⟩:=by
     rcases Ka.out.own.2 with ⟨q,h0⟩ |⟨gv,cap,cur,q,_⟩
     ·simp at h0
     ·injection q with q1 q2 q3;exact⟨gv,q1⟩
    have zu:nV=(x :: xs).length:=Rb.out.symm
    have eG:=Ka.out.own
    rw [zu] at eG
    have Bu:=aP eG mO.out (fun _ _=>fun q=>q)
    have v0:=aZ Bu 0 (str x.key) rfl
    have vz:=eF Bu 0
    have Kg:=aU HR4.out.1.row mO.out (fun _ _=>fun q=>q)
    obtain⟨_,_,he,k0,_⟩:=fE Kg hkk
    cases he
    have hset:=iR Bu 0 (str k.key)
    rw [←jg] at hset
    have hpos:(0:Int)<(nV:Int):=by rw [zu];simp only [List.length_cons];omega
    have yx:=Lib.hid hset
    have Pt:=Lib.hid zu
    clear hset Bu eG Kg zu
    go_wp2_with fail
    go_region
    all_goals
     obtain⟨Kh,vC⟩:=Ka.out.far gv rfl
     have Rk:=(Ka.out.own.lt gv rfl).2
     have oS:Only (fun j=>j=gv) (w4.alloc (.cells #[.slice (some ⟨gv,0,none⟩) nV cV,.bool false,.bool true] 248)) (((w4.alloc (.cells #[.slice (some ⟨gv,0,none⟩) nV cV,.bool false,.bool true] 248)).setCell ⟨gv,0,none⟩ (str k.key)).drew):=((Only.refl (fun j=>j=gv) _).put gv 0 rfl _).drew
     have hbv:¬b=gv:=fun e=>vC (.inl e.symm)
     have oh:=Cu.out.still mO.out
     have Ki:∀j,bn (w4.alloc (.cells #[.slice (some ⟨gv,0,none⟩) nV cV,.bool false,.bool true] 248)) b j→bn w4 b j:=fun j q=>(aD (mO.out.block b Cu.out.lt (fun q=>q)) j).1 q
     have mM:aA (((w4.alloc (.cells #[.slice (some ⟨gv,0,none⟩) nV cV,.bool false,.bool true] 248)).setCell ⟨gv,0,none⟩ (str k.key)).drew) b p1:=by
      obtain⟨vL,vG,hI⟩:=oh
      exact⟨vL,vG,hI.beside oS (fun j q e=>vC (by have e3:j=gv:=e;exact e3▸Ki j q))⟩
     have Iq:=Ip.out.1.only oh.lt oS (fun e=>by have e2:w.heap.size=gv:=e;omega) hbv
     have EC:=Ip.out.2.only oh.lt oS (fun e=>by have e2:w1.heap.size=gv:=e;omega) hbv
     have C8:=Jz.out.only oh.lt oS (fun e=>by have e2:w4.heap.size=gv:=e;omega) hbv
     have Ul:=(HR4.out.2 g rfl).2
     have Pv:=(HRW.out.2 g rfl).2
     have wY:=(HR4.out.1.only mO.out (fun _ _=>fun q=>q)).only oS (fun j hj e=>by have e2:g=j:=Option.some.inj hj;have e3:j=gv:=e;omega)
     have zw:=(HR4.out.2.later mO.out.size (mO.out.block b Cu.out.lt (fun q=>q))).later oS.size (oS.block b oh.lt hbv)
     have Ir:=(xE.out.trans (aB.still Cu.out.lt mO.out)).fresh hpw oS (fun j e=>by have e3:j=gv:=e;omega)
     have pY:(((w4.alloc (.cells #[.slice (some ⟨gv,0,none⟩) nV cV,.bool false,.bool true] 248)).setCell ⟨gv,0,none⟩ (str k.key)).drew).ownsRow 0 185 2 (.slice (some ⟨gv,0,none⟩) (x :: xs).length cV) (setHead k.key (x :: xs)).length ((setHead k.key (x :: xs)).flatMap aR):=yx.out.drew
     have hsw:=z8 _ _ kids (setHead k.key (x :: xs)) at_ _ wY.row hfl (by simp [setHead]) pY (by omega) (by rw [fG];have:=hr3;simp only [List.length_cons] at this ⊢;omega)
     rw [←Pt.out] at hsw
     have Gt:=Lib.hid hsw
     clear hsw
     have f0:=ay C8.1 0
     have f1:=ay C8.1 1
     have n3:=ay EC.1 3
     simp only [List.getElem?_toArray,List.getElem?_cons_zero,List.getElem?_cons_succ] at f0 f1 n3
     have H6:=Lib.hid (And.intro mM (And.intro Iq (And.intro EC (And.intro C8 (And.intro wY (And.intro zw (And.intro Ir pY)))))))
     clear oS hbv oh Ki mM Iq EC C8 Ul Pv wY zw Ir pY
     generalize (((w4.alloc (.cells #[.slice (some ⟨gv,0,none⟩) nV cV,.bool false,.bool true] 248)).setCell ⟨gv,0,none⟩ (str k.key)).drew)=w6 at *
     go_wp2_with fail
     (with_reducible refine Gt.out.mono ?_)
     rintro e w7 ⟨v7,rfl,Nc,o7,Iu⟩
     obtain⟨mM,Iq,EC,C8,wY,zw,Ir,pY⟩:=H6.out
     have hb6:=mM.lt
     have f0:=ay (C8.still hb6 o7).1 0
     have f1:=ay (C8.still hb6 o7).1 1
     have n3:=ay (EC.still hb6 o7).1 3
     simp only [List.getElem?_toArray,List.getElem?_cons_zero,List.getElem?_cons_succ] at f0 f1 n3
     have Nb:=Iq.lt
     have VK:=Ir.only.size
     have HL:=Lib.hid (And.intro Nc (And.intro (fun j (hj:v7.ownBlock=some j)=>(⟨by have:=Iu j hj;omega,fun q=>by have:=Iu j hj;have:=bM mM ((aD (o7.block b hb6 (fun q=>q)) j).1 q);omega,by have:=Iu j hj;omega⟩:w.heap.size≤j∧¬bn w7 b j∧j≠w.heap.size)) (And.intro (mM.still o7) (And.intro (Ir.trans (aB.still hb6 o7)) (Iq.still hb6 o7)))))
     clear Nc o7 Iu mM Iq EC C8 wY zw Ir pY hb6 Nb VK H6 Gt
     generalize fO kids at_ (setHead k.key (x :: xs))=LL at *
     obtain⟨aL,cL,rfl⟩:=ownsRow_form HL.out.1
     generalize zZ:LL.length=nL at *
     rcases HD.out with ⟨h1,rfl,rfl⟩ |⟨h2,wk,vB,rfl⟩
     ·obtain rfl:nL=1:=by rw [←zZ];exact h1
      have oI:Only (fun _=>False) w7 (w7.alloc (.cells #[.int .i64 id] 3)):=(Only.refl _ w7).alloc _
      have hnw:=yj.new HL.out.2.2.1 #[.int .i64 id] 3
      have HF:=Lib.hid (uE (w7.alloc (.cells #[.int .i64 id] 3)) b p1 id (.slice (some ⟨w7.heap.size,0,none⟩) 1 1) (HL.out.2.2.1.still oI) HQ.out.2.2.2 ⟨_,_,_,rfl,ay hnw.1 0,hnw.2⟩)
      have Ri:=Lib.hid zZ
      have jK:=Lib.hid oI
      clear hnw zZ h1 oI
      go_wp2_with fail
      refine HF.out.mono ?_
      rintro e wf ⟨rfl,hpf,CZ⟩
      obtain⟨own,far,hp,st,br⟩:=HL.out
      have hbW:=hp.lt
      have jM:=(br.still hbW jK.out).step CZ
      have yw:∀j,bn (w7.alloc (.cells #[.int .i64 id] 3)) b j→bn w7 b j:=fun j q=>(aD (jK.out.block b hbW (fun q=>q)) j).1 q
      have HE:=Lib.hid (kX (r:=⟨LL,true,true⟩) (V:=.slice aL 1 cL) hpw jM.1 (Nat.le_refl _) jM.2 ⟨(by have e:LL.length=1:=Ri.out;show World.ownsRow _ 0 _ 2 _ LL.length _;rw [e];exact aP (aP own jK.out (fun _ _=>fun q=>q)) CZ.only (fun j hj q=>(far j hj).2.1 (yw j q))),fun j hj=>⟨(far j hj).1,fun q=>(CZ.own j q).elim (fun q=>(far j hj).2.1 (yw j q)) (fun q=>by have:=(own.lt j hj).2;have:=jK.out.size;omega)⟩⟩ (fun q=>(far _ q).2.2 rfl) hpf (st.trans ((aB.still hbW jK.out).trans CZ)))
      have c0:=ay jM.1 0
      have c1':=ay jM.1 1
      have c2:=ay jM.1 2
      have z0:=aQ jM.1 0
      have z1:=aQ jM.1 1
      have z2:=aQ jM.1 2
      simp only [List.getElem?_toArray,List.getElem?_cons_zero,List.getElem?_cons_succ] at c0 c1' c2
      clear jM
      clear own far hp st br hbW yw hpf CZ HF
      go_wp2_with fail
      obtain⟨hkr,hp,st,hh⟩:=HE.out
      unfold three at hkr hp st hh
      have q0:=ay hh 0
      have q1:=ay hh 1
      have q2:=ay hh 2
      simp only [List.getElem?_toArray,List.getElem?_cons_zero,List.getElem?_cons_succ] at q0 q1 q2
      exact bodyPost_ret (v:=.tuple #[.agg #[.slice aL 1 cL,.bool true,.bool true],.int .i64 0]) (by simp [results,Tryz.results176,go_sem,q0,q1,q2]) rfl ⟨_,rfl,hkr,hp,st⟩
     ·have hrr:=iU vB
      have hne1:¬(nL:Int)=1:=by omega
      have hcf:=ni hrr HQ.out.1
      have hq:=HQ.out
      have own:=HL.out.1
      rw [←zZ] at own
      have HT:=Lib.hid (j3 w7 b p1 S2 id LL wk (.slice aL nL cL) HL.out.2.2.1 ⟨bS (enc:=aR) (k:=2) (fun _=>rfl) (by rw [zZ] at own ⊢;exact own),dQ HL.out.1⟩ hrr (by omega) (by omega) (by omega) (by omega) (by omega) (by omega) vB)
      clear hrr hcf hq own vB h2 zZ
      unfold aF at HT
      go_wp2_with fail
      refine HT.out.mono ?_
      rintro e wt ⟨V9,rfl,nu,Cv,Gu⟩
      obtain⟨a9,c9,rfl⟩:=ownsRow_form nu.own
      obtain⟨own,far,hp,st,br⟩:=HL.out
      have jM:=br.step Gu
      have Rj:=st.only.size
      have Ke:=br.lt
      have HE:=Lib.hid (kX (r:=⟨wk,false,true⟩) hpw jM.1 (Nat.le_refl _) jM.2 ⟨nu.own,fun j hj=>⟨by have:=(nu.far j hj).1;omega,(nu.far j hj).2⟩⟩ (fun q=>by have:=(nu.far _ q).1;omega) Cv (st.trans Gu))
      have c0:=ay jM.1 0
      have c1':=ay jM.1 1
      have c2:=ay jM.1 2
      have z0:=aQ jM.1 0
      have z1:=aQ jM.1 1
      have z2:=aQ jM.1 2
      simp only [List.getElem?_toArray,List.getElem?_cons_zero,List.getElem?_cons_succ] at c0 c1' c2
      clear jM
      clear own far hp st br Rj Ke nu Cv Gu HT
      go_wp2_with fail
      obtain⟨hkr,hp,st,hh⟩:=HE.out
      unfold three at hkr hp st hh
      have q0:=ay hh 0
      have q1:=ay hh 1
      have q2:=ay hh 2
      simp only [List.getElem?_toArray,List.getElem?_cons_zero,List.getElem?_cons_succ] at q0 q1 q2
      exact bodyPost_ret (v:=.tuple #[.agg #[.slice a9 wk.length c9,.bool false,.bool true],.int .i64 0]) (by simp [results,Tryz.results176,go_sem,q0,q1,q2]) rfl ⟨_,rfl,hkr,hp,st⟩
  ·subst hth
   have f0:=ay Jz.out.1 0
   have f1:=ay Jz.out.1 1
   have f2:=ay Jz.out.1 2
   have n3:=ay Ip.out.2.1 3
   simp only [List.getElem?_toArray,List.getElem?_cons_zero,List.getElem?_cons_succ] at f0 f1 f2 n3
   obtain⟨x,xs,VL⟩:∃x xs,[one]=x :: xs:=⟨one,[],rfl⟩
   have Um:Kc=x :: xs:=Rf.trans VL
   injection VL with hxo hxs
   clear Rf
   subst Um
   subst hxo
   have hr3:(one :: xs).length≤2:=by rw [←hxs];simp
   clear hxs
   obtain⟨gv,rfl⟩:∃gv,aV=some ⟨gv,0,none⟩:=by
    rcases Ka.out.own.2 with ⟨q,h0⟩ |⟨gv,cap,cur,q,_⟩
    ·simp at h0
    ·injection q with q1 q2 q3;exact⟨gv,q1⟩
   have zu:nV=(one :: xs).length:=Rb.out.symm
   have eG:=Ka.out.own
   rw [zu] at eG
   have Bu:=aP eG mO.out (fun _ _=>fun q=>q)
   have v0:=aZ Bu 0 (str one.key) rfl
   have vz:=eF Bu 0
   have Kg:=aU HR4.out.1.row mO.out (fun _ _=>fun q=>q)
   obtain⟨_,_,he,k0,_⟩:=fE Kg hkk
   cases he
   have hset:=iR Bu 0 (str k.key)
   rw [←jg] at hset
   have hpos:(0:Int)<(nV:Int):=by rw [zu];simp only [List.length_cons];omega
   have yx:=Lib.hid hset
   have Pt:=Lib.hid zu
   clear hset Bu eG Kg zu
   go_wp2_with fail
   go_region
   all_goals
    obtain⟨Kh,vC⟩:=Ka.out.far gv rfl
    have Rk:=(Ka.out.own.lt gv rfl).2
    have oS:Only (fun j=>j=gv) (w4.alloc (.cells #[.slice (some ⟨gv,0,none⟩) nV cV,.bool true,.bool true] 248)) (((w4.alloc (.cells #[.slice (some ⟨gv,0,none⟩) nV cV,.bool true,.bool true] 248)).setCell ⟨gv,0,none⟩ (str k.key)).drew):=((Only.refl (fun j=>j=gv) _).put gv 0 rfl _).drew
    have hbv:¬b=gv:=fun e=>vC (.inl e.symm)
    have oh:=Cu.out.still mO.out
    have Ki:∀j,bn (w4.alloc (.cells #[.slice (some ⟨gv,0,none⟩) nV cV,.bool true,.bool true] 248)) b j→bn w4 b j:=fun j q=>(aD (mO.out.block b Cu.out.lt (fun q=>q)) j).1 q
    have mM:aA (((w4.alloc (.cells #[.slice (some ⟨gv,0,none⟩) nV cV,.bool true,.bool true] 248)).setCell ⟨gv,0,none⟩ (str k.key)).drew) b p1:=by
     obtain⟨vL,vG,hI⟩:=oh
     exact⟨vL,vG,hI.beside oS (fun j q e=>vC (by have e3:j=gv:=e;exact e3▸Ki j q))⟩
    have Iq:=Ip.out.1.only oh.lt oS (fun e=>by have e2:w.heap.size=gv:=e;omega) hbv
    have EC:=Ip.out.2.only oh.lt oS (fun e=>by have e2:w1.heap.size=gv:=e;omega) hbv
    have C8:=Jz.out.only oh.lt oS (fun e=>by have e2:w4.heap.size=gv:=e;omega) hbv
    have Ul:=(HR4.out.2 g rfl).2
    have Pv:=(HRW.out.2 g rfl).2
    have wY:=(HR4.out.1.only mO.out (fun _ _=>fun q=>q)).only oS (fun j hj e=>by have e2:g=j:=Option.some.inj hj;have e3:j=gv:=e;omega)
    have zw:=(HR4.out.2.later mO.out.size (mO.out.block b Cu.out.lt (fun q=>q))).later oS.size (oS.block b oh.lt hbv)
    have Ir:=(xE.out.trans (aB.still Cu.out.lt mO.out)).fresh hpw oS (fun j e=>by have e3:j=gv:=e;omega)
    have pY:(((w4.alloc (.cells #[.slice (some ⟨gv,0,none⟩) nV cV,.bool true,.bool true] 248)).setCell ⟨gv,0,none⟩ (str k.key)).drew).ownsRow 0 185 2 (.slice (some ⟨gv,0,none⟩) (one :: xs).length cV) (setHead k.key (one :: xs)).length ((setHead k.key (one :: xs)).flatMap aR):=yx.out.drew
    have hsw:=z8 _ _ kids (setHead k.key (one :: xs)) at_ _ wY.row hfl (by simp [setHead]) pY (by omega) (by rw [fG];have:=hr3;simp only [List.length_cons] at this ⊢;omega)
    rw [←Pt.out] at hsw
    have Gt:=Lib.hid hsw
    clear hsw
    have f0:=ay C8.1 0
    have f1:=ay C8.1 1
    have n3:=ay EC.1 3
    simp only [List.getElem?_toArray,List.getElem?_cons_zero,List.getElem?_cons_succ] at f0 f1 n3
    have H6:=Lib.hid (And.intro mM (And.intro Iq (And.intro EC (And.intro C8 (And.intro wY (And.intro zw (And.intro Ir pY)))))))
    clear oS hbv oh Ki mM Iq EC C8 Ul Pv wY zw Ir pY
    generalize (((w4.alloc (.cells #[.slice (some ⟨gv,0,none⟩) nV cV,.bool true,.bool true] 248)).setCell ⟨gv,0,none⟩ (str k.key)).drew)=w6 at *
    go_wp2_with fail
    (with_reducible refine Gt.out.mono ?_)
    rintro e w7 ⟨v7,rfl,Nc,o7,Iu⟩
    obtain⟨mM,Iq,EC,C8,wY,zw,Ir,pY⟩:=H6.out
    have hb6:=mM.lt
    have f0:=ay (C8.still hb6 o7).1 0
    have f1:=ay (C8.still hb6 o7).1 1
    have n3:=ay (EC.still hb6 o7).1 3
    simp only [List.getElem?_toArray,List.getElem?_cons_zero,List.getElem?_cons_succ] at f0 f1 n3
    have Nb:=Iq.lt
    have VK:=Ir.only.size
    have C9:=zw.later o7.size (o7.block b hb6 (fun q=>q))
    have Rl:=wY.only o7 (fun _ _=>fun q=>q)
    have Kj:=aP pY o7 (fun _ _=>fun q=>q)
    have x0:=aZ Kj 0 (str k.key) rfl
    have x1:=aZ Kj 1 (.int .i64 one.page) rfl
    have hdr:Only (fun _=>False) w7 w7.drew:=(Only.refl _ w7).drew
    have pO:=mM.still o7
    have Rm:=C9.later hdr.size (hdr.block b pO.lt (fun q=>q))
    have HJ:=Lib.hid (Kk w7.drew b p1 p2 kids l2 at_ ⟨k.key,one.page⟩ (depth+1) (.slice (some ⟨g,off,none⟩) kids.length c1) (pO.still hdr) (Rl.only hdr (fun _ _=>fun q=>q)) Rm ok.1 hkl (by
     have h1:=hone
     simp only [fF,decide_eq_true_eq] at h1 ⊢
     omega) hfl (by omega) (by omega) (by omega) (by omega) hj)
    have HT:=Lib.hid (And.intro (Iq.still hb6 o7) (And.intro (Ir.trans (aB.still hb6 o7)) (And.intro pO hdr)))
    have Xm:IntKind.i64.wrap (depth+1)=depth+1:=by exact IntWalk.i64_in _ (by omega)
    have Xn:=o7.size
    have HQ:Hid (aT l2≤392∧p2.L.length+2≤3998∧id<(p2.L.length+2:Nat)∧p2.given.length<1000000):=Lib.hid ⟨hj1,by omega,by omega,by omega⟩
    have HD:=Lib.hid hD
    clear Nc o7 Iu mM Iq EC C8 wY zw Ir pY hb6 H6 Gt C9 Rl Kj hdr pO Rm hj hj1 hD hone Gs
    unfold aF at HJ
    go_wp2_with fail
    go_region_with (go_at_call 200;refine HJ.out.mono ?_;rintro e w8 ⟨V8,rfl,Kl,mZ,qz⟩)
    all_goals
     obtain⟨Un,VN,pO,hdr⟩:=HT.out
     have VO:=(Un.still pO.lt hdr).step qz
     have hsd:=hdr.size
     have Uo:=Un.lt
     have HL:=Lib.hid (And.intro Kl.own (And.intro (fun j (hj:V8.ownBlock=some j)=>(⟨by have:=(Kl.far j hj).1;omega,(Kl.far j hj).2,by have:=(Kl.far j hj).1;omega⟩:w.heap.size≤j∧¬bn w8 b j∧j≠w.heap.size)) (And.intro mZ (And.intro ((VN.trans (aB.still pO.lt hdr)).trans qz) VO))))
     clear Un VN pO hdr VO hsd Uo Kl mZ qz HJ HT x0 x1 f0 f1 n3
     generalize l2=LL at *
     obtain⟨aL,cL,rfl⟩:=ownsRow_form HL.out.1
     generalize zZ:LL.length=nL at *
     rcases HD.out with ⟨h1,rfl,rfl⟩ |⟨h2,wk,vB,rfl⟩
     ·obtain rfl:nL=1:=by rw [←zZ];exact h1
      have oI:Only (fun _=>False) w8 (w8.alloc (.cells #[.int .i64 id] 3)):=(Only.refl _ w8).alloc _
      have hnw:=yj.new HL.out.2.2.1 #[.int .i64 id] 3
      have HF:=Lib.hid (uE (w8.alloc (.cells #[.int .i64 id] 3)) b p2 id (.slice (some ⟨w8.heap.size,0,none⟩) 1 1) (HL.out.2.2.1.still oI) HQ.out.2.2.2 ⟨_,_,_,rfl,ay hnw.1 0,hnw.2⟩)
      have Ri:=Lib.hid zZ
      have jK:=Lib.hid oI
      clear hnw zZ h1 oI
      go_wp2_with fail
      refine HF.out.mono ?_
      rintro e wf ⟨rfl,hpf,CZ⟩
      obtain⟨own,far,hp,st,br⟩:=HL.out
      have hbW:=hp.lt
      have jM:=(br.still hbW jK.out).step CZ
      have yw:∀j,bn (w8.alloc (.cells #[.int .i64 id] 3)) b j→bn w8 b j:=fun j q=>(aD (jK.out.block b hbW (fun q=>q)) j).1 q
      have HE:=Lib.hid (kX (r:=⟨LL,true,true⟩) (V:=.slice aL 1 cL) hpw jM.1 (Nat.le_refl _) jM.2 ⟨(by have e:LL.length=1:=Ri.out;show World.ownsRow _ 0 _ 2 _ LL.length _;rw [e];exact aP (aP own jK.out (fun _ _=>fun q=>q)) CZ.only (fun j hj q=>(far j hj).2.1 (yw j q))),fun j hj=>⟨(far j hj).1,fun q=>(CZ.own j q).elim (fun q=>(far j hj).2.1 (yw j q)) (fun q=>by have:=(own.lt j hj).2;have:=jK.out.size;omega)⟩⟩ (fun q=>(far _ q).2.2 rfl) hpf (st.trans ((aB.still hbW jK.out).trans CZ)))
      have c0:=ay jM.1 0
      have c1':=ay jM.1 1
      have c2:=ay jM.1 2
      have z0:=aQ jM.1 0
      have z1:=aQ jM.1 1
      have z2:=aQ jM.1 2
      simp only [List.getElem?_toArray,List.getElem?_cons_zero,List.getElem?_cons_succ] at c0 c1' c2
      clear jM
      clear own far hp st br hbW yw hpf CZ HF
      go_wp2_with fail
      obtain⟨hkr,hp,st,hh⟩:=HE.out
      unfold three at hkr hp st hh
      have q0:=ay hh 0
      have q1:=ay hh 1
      have q2:=ay hh 2
      simp only [List.getElem?_toArray,List.getElem?_cons_zero,List.getElem?_cons_succ] at q0 q1 q2
      exact bodyPost_ret (v:=.tuple #[.agg #[.slice aL 1 cL,.bool true,.bool true],.int .i64 0]) (by simp [results,Tryz.results176,go_sem,q0,q1,q2]) rfl ⟨_,rfl,hkr,hp,st⟩
     ·have hrr:=iU vB
      have hne1:¬(nL:Int)=1:=by omega
      have hcf:=ni hrr HQ.out.1
      have hq:=HQ.out
      have own:=HL.out.1
      rw [←zZ] at own
      have HT:=Lib.hid (j3 w8 b p2 S2 id LL wk (.slice aL nL cL) HL.out.2.2.1 ⟨bS (enc:=aR) (k:=2) (fun _=>rfl) (by rw [zZ] at own ⊢;exact own),dQ HL.out.1⟩ hrr (by omega) (by omega) (by omega) (by omega) (by omega) (by omega) vB)
      clear hrr hcf hq own vB h2 zZ
      unfold aF at HT
      go_wp2_with fail
      refine HT.out.mono ?_
      rintro e wt ⟨V9,rfl,nu,Cv,Gu⟩
      obtain⟨a9,c9,rfl⟩:=ownsRow_form nu.own
      obtain⟨own,far,hp,st,br⟩:=HL.out
      have jM:=br.step Gu
      have Rj:=st.only.size
      have Ke:=br.lt
      have HE:=Lib.hid (kX (r:=⟨wk,false,true⟩) hpw jM.1 (Nat.le_refl _) jM.2 ⟨nu.own,fun j hj=>⟨by have:=(nu.far j hj).1;omega,(nu.far j hj).2⟩⟩ (fun q=>by have:=(nu.far _ q).1;omega) Cv (st.trans Gu))
      have c0:=ay jM.1 0
      have c1':=ay jM.1 1
      have c2:=ay jM.1 2
      have z0:=aQ jM.1 0
      have z1:=aQ jM.1 1
      have z2:=aQ jM.1 2
      simp only [List.getElem?_toArray,List.getElem?_cons_zero,List.getElem?_cons_succ] at c0 c1' c2
      clear jM
      clear own far hp st br Rj Ke nu Cv Gu HT
      go_wp2_with fail
      obtain⟨hkr,hp,st,hh⟩:=HE.out
      unfold three at hkr hp st hh
      have q0:=ay hh 0
      have q1:=ay hh 1
      have q2:=ay hh 2
      simp only [List.getElem?_toArray,List.getElem?_cons_zero,List.getElem?_cons_succ] at q0 q1 q2
      exact bodyPost_ret (v:=.tuple #[.agg #[.slice a9 wk.length c9,.bool false,.bool true],.int .i64 0]) (by simp [results,Tryz.results176,go_sem,q0,q1,q2]) rfl ⟨_,rfl,hkr,hp,st⟩
end Go.Proofs.YtbhiamcmiopnoaaGreatDoor
