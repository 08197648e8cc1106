/- Package tree over the law's pages: a key is deleted in a leaf. Conditions: one goroutine; the page is there; there is room for the pages. -/
import Derived.Test.YtbhiamcmiopnoaaGreatDoorZTreeC
import Derived.Test.YtbhiamcmiopnoaaGreatDoorZPlainC
import Derived.Test.YtbhiamcmiopnoaaGreatDoorZLeaf7
import Derived.Test.YtbhiamcmiopnoaaGreatDoorZRepS
set_option maxHeartbeats 8000000
set_option maxRecDepth 100000
namespace Go.Proofs.YtbhiamcmiopnoaaGreatDoor
section
open Go.RowKit
def uz (w:World) (b:Nat) (r:Rest) (S2:aW):Ending→World→Prop:=fun e w'=>∃V,e=.returned (.tuple #[.agg #[V,.bool r.thin,.bool r.found],.int .i64 0])∧j4 w w' b V r.kids∧aA w' b S2∧aB b w w'
def Gq (key:Bytes) (f:Nat):Prop:=∀(n:Nat) (S S2:aW) (id:Int) (b0:Bytes) (l:List Item) (ids:List Int) (depth:Int) (r:Rest) (w:World) (b:Nat),Tree S.L n id b0 l ids→n<f→1≤depth→depth+n≤12→S.stop<0→S.L.length+3+2 * n≤3998→S.given.length+2 * f<1000000→aA w b S→qy f S id key depth=(.ok r,S2)→
 Calls Tryz.prog 176 #[aF b,.int .i64 id,str key,.int .i64 depth] w (uz w b r S2)
def three (w:World) (B:Nat) (a b c:Value):World:=((w.setCell ⟨B,0,none⟩ a).setCell ⟨B,1,none⟩ b).setCell ⟨B,2,none⟩ c
theorem oL (w:World) (B:Nat) (a b c:Value):Only (fun k=>k=B) w (three w B a b c):=(((Only.refl (fun k=>k=B) w).put B 0 rfl a).put B 1 rfl b).put B 2 rfl c
theorem oM {w:World} {B:Nat} {x0 x1 x2:Value} {t:TypeId} {f:Nat×Nat} (h:w.heap[B]? = some (.cells #[x0,x1,x2] t f)) (a b c:Value):(three w B a b c).heap[B]? = some (.cells #[a,b,c] t f):=heap_setCell (heap_setCell (heap_setCell h 0 a) 1 b) 2 c
theorem kX {w w4:World} {b R:Nat} {r:Rest} {S2:aW} {V:Value} {x0 x1 x2:Value} {t:TypeId} (hb:b<w.heap.size) (hR:w4.heap[R]? = some (.cells #[x0,x1,x2] t (0,0))) (hw:w.heap.size≤R) (hn:¬bn w4 b R) (hk:j4 w w4 b V r.kids) (hV:V.ownBlock≠some R) (hp:aA w4 b S2) (st:aB b w w4) :
 j4 w (three w4 R V (.bool r.thin) (.bool r.found)) b V r.kids∧aA (three w4 R V (.bool r.thin) (.bool r.found)) b S2∧aB b w (three w4 R V (.bool r.thin) (.bool r.found))∧
  (three w4 R V (.bool r.thin) (.bool r.found)).heap[R]? = some (.cells #[V,.bool r.thin,.bool r.found] t (0,0)):=by
 have ho:=oL w4 R V (.bool r.thin) (.bool r.found)
 have hbR:¬b=R:=fun e=>hn (.inl e.symm)
 refine⟨⟨aP hk.own ho (fun k q e=>hV (e▸q)),fun j hj=>⟨(hk.far j hj).1,fun q=>(hk.far j hj).2 ((aD (ho.block b hp.lt hbR) j).1 q)⟩⟩,?_,st.fresh hb ho (fun k e=>by have e2:k=R:=e;omega),oM hR _ _ _⟩
 obtain⟨vL,vG,hI⟩:=hp
 exact⟨vL,vG,hI.beside ho (fun j q e=>hn (e▸q))⟩
theorem Im (key:Bytes) (f:Nat) (S S2:aW) (id:Int) (l:List Item) (depth:Int) (r:Rest) (w:World) (b:Nat) (hn:nodeAt S.L id=some (.leaf l)) (ok:mP (.leaf l)) (hd:depth≤12) (hs:S.stop<0) (hL:S.L.length+3≤3998) (hg:S.given.length+1<1000000) (h:aA w b S) (hk:qy (f+1) S id key depth=(.ok r,S2)) :
 Calls Tryz.prog 176 #[aF b,.int .i64 id,str key,.int .i64 depth] w (uz w b r S2):=by
 have hid:=cB hn
 rw [qy,iB hn (by omega) hs] at hk
 simp only at hk
 have iT:=(aH _).1 ok.1
 have hsub:=rG l key
 have hsz:=rH hsub
 have hpr:=iM ok.1 hsub
 have hok2:=ok.2
 have hcf:(gF (bU l key).1).length≤1:=by
  by_cases hne:(bU l key).1=[]
  ·rw [hne,gJ];simp
  ·rw [lg _ hne (by omega) (by have:=hsub.length_le;omega)];simp
 have hlen:=hsub.length_le
 have oW:=(Only.refl (fun _=>False) w).alloc (.cells #[.slice none 0 0,.bool false,.bool false] 248)
 have Gv:=lK (w.alloc (.cells #[.slice none 0 0,.bool false,.bool false] 248)) b S id depth l (h.still oW) hs hn hd (by omega)
 have mh:=Lib.hid Gv
 have hpw:=h.lt
 have hWs:(w.alloc (.cells #[.slice none 0 0,.bool false,.bool false] 248)).heap.size=w.heap.size+1:=by simp
 have zx:¬bn (w.alloc (.cells #[.slice none 0 0,.bool false,.bool false] 248)) b w.heap.size:=fun q=>by
  have:=bM h ((aD (oW.block b h.lt (fun q=>q)) _).1 q);omega
 have hR0:=heap_alloc_new w (.cells #[.slice none 0 0,.bool false,.bool false] 248)
 have HW0:=Lib.hid (aB.still h.lt oW)
 have HK:=Lib.hid hk
 have Uq:=Lib.hid hpr
 clear Gv h hk hpr hsub
 unfold aF at mh ⊢
 go_enter Tryz.func176,Tryz.ntmps176
 go_wp2_with fail
 refine mh.out.mono ?_
 rintro e w1 ⟨v1,rfl,hrow,hap,hp1,st1⟩
 obtain⟨a1,n1,c1,rfl⟩:=bK hrow.cap
 have xG:=(st1.only.block _ (by rw [hWs];omega) zx).trans hR0
 have Da:¬bn w1 b w.heap.size:=fun q=>(st1.own _ q).elim zx (by rw [hWs];omega)
 have hs1:=st1.only.size
 rw [hWs] at hs1
 have o2:=(Only.refl (fun _=>False) w1).alloc (.cells #[.int .i64 id,.bool true,.slice a1 n1 c1,.slice none 0 0] 207)
 have hrow2:=aU hrow.row o2 (fun _ _=>fun q=>q)
 have Ur:=Lib.hid (Nf _ l key _ hrow2 iT.2 (by omega))
 have jY:=Lib.hid hp1
 have kV:=Lib.hid (HW0.out.trans st1)
 have sO:=Lib.hid o2
 have HR1:=Lib.hid (And.intro xG Da)
 clear xG Da hR0 zx hWs oW hrow hap hp1 st1 o2 hrow2 mh HW0
 go_wp2_with fail
 refine Ur.out.mono ?_
 rintro e w3 ⟨v3,rfl,hrow3,o3,Gw⟩
 have kU:=Lib.hid (sO.out.trans o3 (fun _ _ q=>q))
 have jZ:=(kU.out.block w.heap.size (by omega) (fun q=>q)).trans HR1.out.1
 have Ng:¬bn w3 b w.heap.size:=fun q=>HR1.out.2 ((aD (kU.out.block b jY.out.lt (fun q=>q)) _).1 q)
 have hs3:=kU.out.size
 cases Mx:(bU l key).2 with
 | false=>
  have hkk:=HK.out
  rw [Mx] at hkk
  simp only [Bool.false_eq_true,if_false] at hkk
  cases hkk
  have HE:=Lib.hid (kX (r:=⟨[],false,false⟩) (V:=.slice none 0 0) hpw jZ (Nat.le_refl _) Ng ⟨⟨rfl,.inl ⟨rfl,rfl⟩⟩,fun j hj=>by cases hj⟩ (fun q=>by cases q) (jY.out.still kU.out) (kV.out.trans (aB.still jY.out.lt kU.out)))
  have c0:=ay jZ 0
  have c1':=ay jZ 1
  have c2:=ay jZ 2
  have z0:=aQ jZ 0
  have z1:=aQ jZ 1
  have z2:=aQ jZ 2
  simp only [List.getElem?_toArray,List.getElem?_cons_zero,List.getElem?_cons_succ] at c0 c1' c2
  have HR3:=Lib.hid jZ
  clear jZ Ng kU hrow3 o3 Gw Ur
  go_wp2_with fail
  obtain⟨hkr,hp,st,hh⟩:=HE.out
  unfold three at hkr hp st hh
  have q0:=ay hh 0
  have q1:=ay hh 1
  have q2:=ay hh 2
  simp only [List.getElem?_toArray,List.getElem?_cons_zero,List.getElem?_cons_succ] at q0 q1 q2
  exact bodyPost_ret (v:=.tuple #[.agg #[.slice none 0 0,.bool false,.bool false],.int .i64 0]) (by simp [results,Tryz.results176,go_sem,q0,q1,q2]) rfl ⟨.slice none 0 0,rfl,hkr,hp,st⟩
 | true=>
  have hkk:=HK.out
  rw [Mx] at hkk
  simp only [if_true] at hkk
  obtain⟨ks,hl,rfl⟩:∃ks,jl S id (bU l key).1=(.ok ks,S2)∧r=⟨ks,false,true⟩:=by
   cases hl:jl S id (bU l key).1 with
   | mk q p'=>
    rw [hl] at hkk
    cases q with
    | error e=>cases hkk
    | ok ks=>cases hkk;exact⟨ks,rfl,rfl⟩
  have QB:=Lib.hid (sU w3 b S S2 id (bU l key).1 ks v3 (jY.out.still kU.out) hrow3 Uq.out (by omega) (by omega) (by omega) hid.2 (by omega) hl)
  have HR3:=Lib.hid (And.intro jZ Ng)
  have Bt:=Lib.hid (kV.out.trans (aB.still jY.out.lt kU.out))
  clear jZ Ng kU hrow3 o3 Gw Ur hkk hl HK
  unfold aF at QB
  go_wp2_with fail
  refine QB.out.mono ?_
  rintro e w4 ⟨V,rfl,hkr,iD,fP⟩
  obtain⟨aV,cV,rfl⟩:=ownsRow_form hkr.own
  have Oz:=(fP.only.block w.heap.size (by omega) HR3.out.2).trans HR3.out.1
  have Rn:¬bn w4 b w.heap.size:=fun q=>(fP.own _ q).elim HR3.out.2 (by omega)
  have HE:=Lib.hid (kX (r:=⟨ks,false,true⟩) hpw Oz (Nat.le_refl _) Rn ⟨hkr.own,fun j hj=>⟨by have:=(hkr.far j hj).1;omega,(hkr.far j hj).2⟩⟩ (fun q=>by have:=(hkr.far _ q).1;omega) iD (Bt.out.trans fP))
  have c0:=ay Oz 0
  have c1':=ay Oz 1
  have c2:=ay Oz 2
  have z0:=aQ Oz 0
  have z1:=aQ Oz 1
  have z2:=aQ Oz 2
  simp only [List.getElem?_toArray,List.getElem?_cons_zero,List.getElem?_cons_succ] at c0 c1' c2
  clear Oz Rn hkr iD fP QB
  go_wp2_with fail
  obtain⟨hkr,hp,st,hh⟩:=HE.out
  unfold three at hkr hp st hh
  have q0:=ay hh 0
  have q1:=ay hh 1
  have q2:=ay hh 2
  simp only [List.getElem?_toArray,List.getElem?_cons_zero,List.getElem?_cons_succ] at q0 q1 q2
  exact bodyPost_ret (v:=.tuple #[.agg #[.slice aV ks.length cV,.bool false,.bool true],.int .i64 0]) (by simp [results,Tryz.results176,go_sem,q0,q1,q2]) rfl ⟨_,rfl,hkr,hp,st⟩
end
section
open Go.RowKit
theorem jg (k:Bytes) (x:Kid) (l:List Kid):(setHead k (x :: l)).flatMap aR=((x :: l).flatMap aR).set 0 (str k):=rfl
theorem fG (k:Bytes) (l:List Kid):(setHead k l).length=l.length:=by cases l<;>rfl
theorem uD {k:Bytes} (hk:k.length≤32) (l:List Kid):aT (setHead k l)≤aT l+36:=by
 cases l with
 | nil=>exact Nat.le_add_right _ _
 | cons x l=>
  show aT (⟨k,x.page⟩ :: l)≤_
  rw [bC,bC]
  show 4+k.length+aT l≤4+x.key.length+aT l+36
  omega
theorem Kk (w:World) (b:Nat) (S S2:aW) (kids l2:List Kid) (a:Nat) (one:Kid) (depth:Int) (v:Value) (h:aA w b S) (hv:gN aR 2 w v kids) (hap:Apart w b v) (hr:bJ kids=true) (hkl:kids.length≤255) (hone:fF one=true) (ha:a<kids.length) (hd:depth≤12) (hs:S.stop<0)
 (hL:S.L.length+2≤3998) (hg:S.given.length+1<1000000) (hk:sF S kids a one depth=(.ok l2,S2)) :
 Calls Tryz.prog 200 #[aF b,v,.int .i64 a,.agg #[str one.key,.int .i64 one.page],.int .i64 depth] w fun e w'=>∃V,e=.returned (.tuple #[V,.int .i64 0])∧j4 w w' b V l2∧aA w' b S2∧aB b w w':=by
 obtain⟨h2,kb,kl,ks,wk,hkb,ES,hn,vB,rfl⟩:=EW hs hd hk
 obtain⟨aV,nV,cV,rfl⟩:=bK hv.cap
 have hn1:nV=kids.length:=by
  cases hv.row with
  | none=>rfl
  | some=>rfl
 subst hn1
 have hid:=cB hn
 have iT:=(aH _).1 hr
 have Ro:fF kb=true:=iT.1 kb (List.mem_of_getElem? hkb)
 simp only [fF,decide_eq_true_eq] at Ro
 have sV:mQ (.cZ ks):=by
  obtain⟨vL,vG,hp⟩:=h
  exact hp.sound _ (oP hn)
 obtain⟨hks,hkne⟩:=sV
 have hk1:=hks.2.1
 have hk2:=hks.2.2
 have VP:=List.length_pos_iff.2 hkne
 obtain⟨i0,hi0,hz0,hz1,hz2⟩:=info_parts kF
 have VQ:=iU vB
 have Rp:=hone
 simp only [fF,decide_eq_true_eq] at Rp
 have o0:=(Only.refl (fun _=>False) w).alloc (.cells #[str one.key,.int .i64 one.page] 185)
 have hb0:=heap_alloc_new w (.cells #[str one.key,.int .i64 one.page] 185)
 have hWs:(w.alloc (.cells #[str one.key,.int .i64 one.page] 185)).heap.size=w.heap.size+1:=by simp
 have hbn:¬bn (w.alloc (.cells #[str one.key,.int .i64 one.page] 185)) b w.heap.size:=fun q=>by
  have:=bM h ((aD (o0.block b h.lt (fun q=>q)) _).1 q);omega
 have hpw:=h.lt
 have mh:=Lib.hid (oN (w.alloc (.cells #[str one.key,.int .i64 one.page] 185)) b S kb.page depth ks (h.still o0) hs hn hd (by omega))
 have Rq:Apart (w.alloc (.cells #[str one.key,.int .i64 one.page] 185)) b (.slice aV kids.length cV):=hap.later o0.size (o0.block b h.lt (fun q=>q))
 have wB:=hv.only o0 (fun _ _=>id)
 have HW0:=Lib.hid (aB.still h.lt o0)
 have MB:=Lib.hid vB
 have HB:=Lib.hid (And.intro hb0 hbn)
 have HV:=Lib.hid (And.intro wB Rq)
 have HR:=Lib.hid (And.intro VQ hks)
 clear h hk vB hb0 hbn hv hap wB Rq o0 hone VQ hks
 unfold aF at mh ⊢
 by_cases ha0:a=0
 ·subst ha0
  have hml:0+1<kids.length:=by omega
  have Us:(1:Int)<(kids.length:Int):=by omega
  have hmx:max (-1:Int) 0=0:=by decide
  have Xo:(0:Int)<(kids.length:Int):=by omega
  rw [if_pos rfl] at hkb MB HR
  simp only [Nat.zero_sub,Nat.zero_add] at ES ⊢
  have wB:=HV.out.1.row
  obtain⟨gK,Pw,rfl,k0,k1⟩:=fE wB hkb
  simp only [Nat.one_mul] at k0 k1
  have k1':(w.alloc (.cells #[str one.key,.int .i64 one.page] 185)).cell? ⟨gK,Pw+3,none⟩=some (.int .i64 kb.page):=k1
  have HK:=Lib.hid (And.intro hkb ES)
  clear wB hkb ES
  go_enter Tryz.func200,Tryz.ntmps200
  go_wp2_with fail
  refine mh.out.mono ?_
  rintro e w1 ⟨v1,rfl,uF,Px,hp1,st1⟩
  obtain⟨a1,n1,c1,rfl⟩:=bK uF.cap
  obtain rfl:n1=ks.length:=by
   cases uF.row with
   | none=>rfl
   | some=>rfl
  have hs1:=st1.only.size
  rw [hWs] at hs1
  have hB1:=(st1.only.block _ (by rw [hWs];omega) HB.out.2).trans HB.out.1
  have o2:=(Only.refl (fun _=>False) w1).alloc (.cells #[.int .i64 kb.page,.bool false,.slice none 0 0,.slice a1 ks.length c1] 207)
  have hrow2:=aU uF.row o2 (fun _ _=>id)
  have yA:=Lib.hid (iE _ ks _ hrow2 (by omega))
  have jY:=Lib.hid hp1
  have kV:=Lib.hid (HW0.out.trans st1)
  have sO:=Lib.hid o2
  have EM:=Lib.hid (And.intro (HV.out.1.step HV.out.2 st1) (HV.out.2.step st1))
  have HB1:=Lib.hid hB1
  clear hB1 o2 hrow2 hp1 st1 uF Px mh HV HW0 HB k0 k1
  go_wp2_with fail
  (with_reducible refine yA.out.mono ?_)
  rintro e w3 ⟨v3,rfl,jS,o3,uG⟩
  obtain⟨a3,c3,rfl⟩:=ownsRow_form jS
  have CY:(w1.alloc (.cells #[.int .i64 kb.page,.bool false,.slice none 0 0,.slice a1 ks.length c1] 207)).heap.size=w1.heap.size+1:=by simp
  rw [CY] at uG
  have kU:=Lib.hid (sO.out.trans o3 (fun _ _ q=>q))
  have hB3:=(kU.out.block w.heap.size (by omega) (fun q=>q)).trans HB1.out
  obtain⟨g3,rfl⟩:∃g3,a3=some ⟨g3,0,none⟩:=by
   rcases jS.2 with ⟨q,h0⟩ |⟨g3,cap,cur,q,_⟩
   ·omega
   ·injection q with q1 q2 q3;exact⟨g3,q1⟩
  obtain⟨x3,r3,rfl⟩:=List.exists_cons_of_ne_nil hkne
  have VR:=EM.out.1.only kU.out (fun _ _=>id)
  obtain⟨_,_,he,VT,_⟩:=fE VR.row HK.out.1
  cases he
  simp only [Nat.one_mul] at VT
  have e0:=aZ jS 0 (str x3.key) rfl
  have ez:=eF jS 0
  have Km:=iR jS 0 (str kb.key)
  rw [←jg] at Km
  have hg3:=uG g3 rfl
  have QC:Only (fun j=>j=g3) w3 (w3.setCell ⟨g3,0,none⟩ (str kb.key)):=(Only.refl (fun j=>j=g3) w3).put g3 0 rfl _
  have Py:=(jS.lt g3 rfl).2
  have hs3:=kU.out.size
  have hB4:=(QC.block w.heap.size (by omega) (fun e=>by have e2:w.heap.size=g3:=e;omega)).trans hB3
  have d0:=ay hB4 0
  have d1:=ay hB4 1
  simp only [List.getElem?_toArray,List.getElem?_cons_zero,List.getElem?_cons_succ] at d0 d1
  have Ut:(w3.setCell ⟨g3,0,none⟩ (str kb.key)).heap.size=w3.heap.size:=by simp [World.setCell]
  have oA:=(Only.refl (fun _=>False) (w3.setCell ⟨g3,0,none⟩ (str kb.key))).alloc (.cells (aR one).toArray 185)
  have OA:=aP Km oA (fun _ _=>id)
  have hins:=EX (.slice (some ⟨g3,0,none⟩) (x3 :: r3).length c3) (setHead kb.key (x3 :: r3)) one 0 w3.heap.size ((w3.setCell ⟨g3,0,none⟩ (str kb.key)).alloc (.cells (aR one).toArray 185)) (Nat.zero_le _) (by rw [fG];exact OA) (fun q=>by have:=Option.some.inj (show some g3=some w3.heap.size from q);omega) (by have:=heap_alloc_new (w3.setCell ⟨g3,0,none⟩ (str kb.key)) (.cells (aR one).toArray 185);rw [Ut] at this;exact this) (by rw [fG];omega)
  change Calls _ _ #[_,.int .i64 0,_] ((w3.setCell ⟨g3,0,none⟩ (str kb.key)).alloc (.cells #[str one.key,.int .i64 one.page] 185)) _ at hins
  have hlc:(setHead kb.key (x3 :: r3)).length=r3.length+1:=rfl
  simp only [List.length_cons] at hins
  have Pz:=Lib.hid hins
  have Tx:=Lib.hid (And.intro QC (And.intro uG Py))
  clear OA Km QC oA hins VR jS o3 uG hB3 hB4 yA
  go_wp2_with fail
  (with_reducible refine Pz.out.mono ?_)
  rintro e wx ⟨v4,rfl,hown2,ox,hmv⟩
  obtain⟨aI,cI,rfl⟩:=ownsRow_form hown2
  obtain⟨QC,uG,Py⟩:=Tx.out
  have hlj:(one :: setHead kb.key (x3 :: r3)).length=r3.length+1+1:=rfl
  simp only [List.take_zero,List.drop_zero,List.nil_append,hlc] at hown2
  have hO3:=kU.out
  have oX:Only (fun j=>j=g3) w1 wx:=(((hO3.mono fun _ _ q=>q.elim).trans QC (fun _ _ q=>q)).alloc _).trans ox (fun j _ e=>(Option.some.inj e).symm)
  have hbx:¬b=g3:=fun q=>by have:=uG g3 rfl;have:=jY.out.lt;omega
  have kx:=EM.out.1.only oX (fun j hj q=>by have:=(EM.out.2 j hj).2;have:=uG g3 rfl;have e:j=g3:=q;omega)
  have p8:=EM.out.2.later oX.size (oX.block b jY.out.lt hbx)
  obtain⟨_,_,he,k0,k1⟩:=fE kx.row HK.out.1
  cases he
  simp only [Nat.one_mul] at k0 k1
  have k1':wx.cell? ⟨gK,Pw+3,none⟩=some (.int .i64 kb.page):=k1
  have hPx:aA wx b S:=by
   obtain⟨vL,vG,hI⟩:=jY.out
   refine⟨vL,vG,hI.beside oX (fun j q e=>?_)⟩
   have:=bM jY.out q
   have:=uG g3 rfl
   have e2:j=g3:=e
   omega
  have Iw:=kV.out.fresh hpw oX (fun j e=>by have:=uG g3 rfl;have:=kV.out.only.size;have e2:j=g3:=e;omega)
  have hsz:aT (one :: setHead kb.key (x3 :: r3))≤392:=by
   have e1:=uD (k:=kb.key) (by omega) (x3 :: r3)
   rw [bC]
   show 4+one.key.length+_≤392
   omega
  have hcf:=ni HR.out.1 hsz
  have hwl:=Aa MB.out (by simp) (by omega) (by omega)
  have MC:=Lib.hid (j3 wx b S S2 kb.page (one :: setHead kb.key (x3 :: r3)) wk (.slice aI (r3.length+1+1) cI) hPx ⟨bS (enc:=aR) (k:=2) (fun _=>rfl) hown2,dQ hown2⟩ HR.out.1 (by omega) (by rw [hlj];omega) (by omega) (by omega) (by omega) (by omega) MB.out)
  have HY:=Lib.hid (And.intro hPx (And.intro Iw (And.intro p8 kx)))
  clear oX hbx kx p8 hown2 hmv hPx Iw hlj hsz MB ox QC uG Py hO3 hlc Pz
  unfold aF at MC
  go_wp2_with fail
  refine MC.out.mono ?_
  rintro e w7 ⟨V,rfl,hkr,pO,tY⟩
  obtain⟨hPx,Iw,p8,kx⟩:=HY.out
  have PD:=kx.step p8 tY
  have C9:=p8.step tY
  obtain⟨zo,wr,rfl⟩:=List.exists_cons_of_ne_nil hwl.1
  obtain⟨gv,cv,rfl⟩:∃gv cv,V=.slice (some ⟨gv,0,none⟩) (zo :: wr).length cv:=by
   rcases hkr.own.2 with ⟨q,h0⟩ |⟨gv,cv,cur,q,_⟩
   ·simp at h0
   ·exact⟨gv,cv,q⟩
  obtain⟨_,_,he,VU,_⟩:=fE PD.row HK.out.2
  cases he
  simp only [Nat.zero_mul,Nat.add_zero] at VU
  have v0:=aZ hkr.own 0 (str zo.key) rfl
  have vz:=eF hkr.own 0
  have hset:=iR hkr.own 0 (str kl.key)
  rw [←jg] at hset
  obtain⟨Kh,vC⟩:=hkr.far gv rfl
  have Uu:=(C9 gK rfl).2
  have Uv:=(p8 gK rfl).2
  have oS:Only (fun j=>j=gv) w7 (w7.setCell ⟨gv,0,none⟩ (str kl.key)):=(Only.refl (fun j=>j=gv) w7).put gv 0 rfl _
  have hbv:¬b=gv:=fun e=>vC (.inl e.symm)
  have Rs:=PD.only oS (fun j hj e=>by have e2:gK=j:=Option.some.inj hj;have e3:j=gv:=e;omega)
  have Db:aA (w7.setCell ⟨gv,0,none⟩ (str kl.key)) b S2:=by
   obtain⟨vL,vG,hI⟩:=pO
   exact⟨vL,vG,hI.beside oS (fun j q e=>vC (by have e3:j=gv:=e;exact e3▸q))⟩
  have hsx:=Iw.only.size
  have Iy:=(Iw.trans tY).fresh hpw oS (fun j e=>by have e3:j=gv:=e;omega)
  have Dc:=Lib.hid (iE _ kids _ Rs.row (by omega))
  have hs7:=tY.only.size
  have PE:(w7.setCell ⟨gv,0,none⟩ (str kl.key)).heap.size=w7.heap.size:=by simp [World.setCell]
  have Uw:=(hkr.own.lt gv rfl).2
  have HZ:=Lib.hid (And.intro hset (And.intro Db Iy))
  have Df:=hwl.2
  have Ux:=Lib.hid (And.intro Df hcf)
  clear hPx Iw p8 kx PD C9 hkr hset oS Rs Db Iy pO tY hwl Df hcf k0 k1 k1' MC
  go_wp2_with fail
  (with_reducible refine Dc.out.mono ?_)
  rintro e w9 ⟨v9,rfl,Bv,o9,oQ⟩
  rw [PE] at oQ
  obtain⟨hset,Db,Iy⟩:=HZ.out
  have hrl:=oU v9 (.slice (some ⟨gv,0,none⟩) (zo :: wr).length cv) kids (setHead kl.key (zo :: wr)) 0 2 w9 (by omega) (by omega) (by omega) (by have e1:=Ux.out;rw [fG];omega) (fun j hj e=>by have e2:gv=j:=Option.some.inj e;have:=oQ j hj;omega) Bv (by rw [fG];exact aP hset o9 (fun _ _=>id)) (by omega)
  rw [List.length_cons] at hrl
  change Calls _ _ #[_,.int .i64 0,.int .i64 2,_] _ _ at hrl
  simp only [List.take_zero,List.nil_append] at hrl
  have Rt:=Lib.hid hrl
  have Ct:=Lib.hid (And.intro o9 (And.intro oQ Bv))
  clear hset Db Iy hrl o9 oQ Bv Dc
  go_wp2_with fail
  (with_reducible refine Rt.out.mono ?_)
  rintro e wa ⟨va,rfl,Bw,oa,ba⟩
  have HA:=Lib.hid (And.intro Bw (And.intro oa ba))
  clear Bw oa ba Rt
  go_wp2_with fail
  go_ret2
  simp only [List.take_zero,List.nil_append]
  obtain⟨Bw,oa,ba⟩:=HA.out
  obtain⟨o9,oQ,Bv⟩:=Ct.out
  obtain⟨_,Db,Iy⟩:=HZ.out
  have PG:b<(w7.setCell ⟨gv,0,none⟩ (str kl.key)).heap.size:=Db.lt
  have Ru:=Db.still o9
  have Cv:∀j,bn w9 b j→j<w7.heap.size:=fun j q=>by
   have:=bM Db ((aD (o9.block b PG id) j).1 q)
   omega
  have hbn:¬v9.ownBlock=some b:=fun q=>by have:=oQ b q;omega
  have hPa:aA wa b S2:=by
   obtain⟨vL,vG,hI⟩:=Ru
   exact⟨vL,vG,hI.beside oa (fun j q e=>by have:=oQ j e;have:=Cv j q;omega)⟩
  refine⟨va,rfl,⟨Bw,fun j hj=>?_⟩,hPa,(Iy.trans (aB.still PG o9)).fresh hpw oa (fun j e=>by have:=oQ j e;omega)⟩
  rw [ba] at hj
  have h9:=oQ j hj
  refine⟨by omega,fun q=>?_⟩
  have:=Cv j ((aD (oa.block b Ru.lt hbn) j).1 q)
  omega
 ·obtain⟨m,hm⟩:∃m,a=m+1:=⟨a-1,by omega⟩
  have Rv:IntKind.i64.wrap ((a:Int)-1)=(m:Int):=by rw [IntWalk.i64_in _ (by omega)];omega
  have hne:¬(a:Int)=0:=by omega
  have hmx:max (m:Int) 0=(m:Int):=by omega
  have hml:m+1<kids.length:=by omega
  have Us:(m:Int)<(kids.length:Int):=by omega
  have hm0:(0:Int)≤(m:Int):=by omega
  rw [if_neg ha0,show a-1=m by omega] at hkb
  rw [show a-1=m by omega] at ES ⊢
  rw [if_neg ha0] at MB HR
  have wB:=HV.out.1.row
  obtain⟨gK,Pw,rfl,k0,k1⟩:=fE wB hkb
  have HK:=Lib.hid (And.intro hkb ES)
  clear wB hkb ES hm ha0
  go_enter Tryz.func200,Tryz.ntmps200
  go_wp2_with fail
  refine mh.out.mono ?_
  rintro e w1 ⟨v1,rfl,uF,Px,hp1,st1⟩
  obtain⟨a1,n1,c1,rfl⟩:=bK uF.cap
  obtain rfl:n1=ks.length:=by
   cases uF.row with
   | none=>rfl
   | some=>rfl
  have hs1:=st1.only.size
  rw [hWs] at hs1
  have hB1:=(st1.only.block _ (by rw [hWs];omega) HB.out.2).trans HB.out.1
  have o2:=(Only.refl (fun _=>False) w1).alloc (.cells #[.int .i64 kb.page,.bool false,.slice none 0 0,.slice a1 ks.length c1] 207)
  have hrow2:=aU uF.row o2 (fun _ _=>id)
  have yA:=Lib.hid (iE _ ks _ hrow2 (by omega))
  have jY:=Lib.hid hp1
  have kV:=Lib.hid (HW0.out.trans st1)
  have sO:=Lib.hid o2
  have EM:=Lib.hid (And.intro (HV.out.1.step HV.out.2 st1) (HV.out.2.step st1))
  have HB1:=Lib.hid hB1
  clear hB1 o2 hrow2 hp1 st1 uF Px mh HV HW0 HB k0 k1
  go_wp2_with fail
  (with_reducible refine yA.out.mono ?_)
  rintro e w3 ⟨v3,rfl,jS,o3,uG⟩
  obtain⟨a3,c3,rfl⟩:=ownsRow_form jS
  have CY:(w1.alloc (.cells #[.int .i64 kb.page,.bool false,.slice none 0 0,.slice a1 ks.length c1] 207)).heap.size=w1.heap.size+1:=by simp
  rw [CY] at uG
  have kU:=Lib.hid (sO.out.trans o3 (fun _ _ q=>q))
  have hB3:=(kU.out.block w.heap.size (by omega) (fun q=>q)).trans HB1.out
  have d0:=ay hB3 0
  have d1:=ay hB3 1
  simp only [List.getElem?_toArray,List.getElem?_cons_zero,List.getElem?_cons_succ] at d0 d1
  have HOWN:=Lib.hid jS
  have jo:=Lib.hid uG
  have hs3:=kU.out.size
  have hh:ks.length+1≤maxLen:=by unfold maxLen;omega
  clear jS o3 uG hB3 yA
  go_wp2_with (at_builtin;refine aM _ rfl _ _ 163 rfl 185 i0 _ 2 24 Tryz.underlying163 hi0 hz0 hz1 hz2 rfl (by decide) (.slice a3 ks.length c3) ks.length (ks.flatMap aR) rfl (aP HOWN.out ((Only.refl (fun _=>False) w3).alloc _) (fun _ _=>id)) ⟨w3.heap.size,0,none⟩ 1 1 [str one.key,.int .i64 one.page] rfl rfl (bH w3 [str one.key,.int .i64 one.page] 185 (0,0)) (by simp [Value.oneCell',str]) hh (by omega) ?_;intro a' c' wx hown2 hgr hmv;have oX:Only (fun j=>(Value.slice a3 ks.length c3).ownBlock=some j) w1 wx:=((kU.out.mono fun _ _ q=>q.elim).alloc _).grown hgr (fun k _ e=>e);have hbx:¬(Value.slice a3 ks.length c3).ownBlock=some b:=(fun q=>by have:=jo.out b q;have:=jY.out.lt;omega);have kx:=EM.out.1.only oX (fun j hj q=>by have:=(EM.out.2 j hj).2;have:=jo.out j q;omega);have p8:=EM.out.2.later oX.size (oX.block b jY.out.lt hbx);obtain⟨_,_,he,k0,k1⟩:=fE kx.row HK.out.1;cases he;have HX:=Lib.hid (And.intro oX (And.intro hbx (And.intro kx (And.intro p8 (And.intro hown2 hmv)))));clear oX hbx kx p8 hown2 hgr hmv)
  obtain⟨oX,hbx,kx,p8,hown2,hmv⟩:=HX.out
  have hPx:aA wx b S:=by
   obtain⟨vL,vG,hI⟩:=jY.out
   refine⟨vL,vG,hI.beside oX (fun j q e=>?_)⟩
   have:=bM jY.out q
   have:=jo.out j e
   omega
  have Iw:=kV.out.fresh hpw oX (fun j e=>by have:=jo.out j e;have:=kV.out.only.size;omega)
  have hl1:(ks++[one]).length=ks.length+1:=by simp
  have hfm:(ks++[one]).flatMap aR=ks.flatMap aR++[str one.key,.int .i64 one.page]:=by rw [List.flatMap_append];rfl
  rw [←hfm,←hl1] at hown2
  have hsz:aT (ks++[one])≤392:=by
   have e1:=dn ks [one]
   have e2:aT [one]=4+one.key.length+1:=rfl
   omega
  have hcf:=ni HR.out.1 hsz
  have hwl:=Aa MB.out (by simp) (by omega) (by omega)
  have MC:=Lib.hid (j3 wx b S S2 kb.page (ks++[one]) wk (.slice a' (ks.length+1) c') hPx ⟨bS (enc:=aR) (k:=2) (fun _=>rfl) (by rw [←hl1];exact hown2),by rw [←hl1];exact dQ hown2⟩ HR.out.1 (by omega) (by rw [hl1];omega) (by omega) (by omega) (by omega) (by omega) MB.out)
  have HY:=Lib.hid (And.intro hPx (And.intro Iw (And.intro p8 kx)))
  clear oX hbx kx p8 hown2 hmv hPx Iw hfm hl1 hsz HX MB
  unfold aF at MC
  go_wp2_with fail
  refine MC.out.mono ?_
  rintro e w7 ⟨V,rfl,hkr,pO,tY⟩
  obtain⟨hPx,Iw,p8,kx⟩:=HY.out
  have PD:=kx.step p8 tY
  have C9:=p8.step tY
  obtain⟨zo,wr,rfl⟩:=List.exists_cons_of_ne_nil hwl.1
  obtain⟨gv,cv,rfl⟩:∃gv cv,V=.slice (some ⟨gv,0,none⟩) (zo :: wr).length cv:=by
   rcases hkr.own.2 with ⟨q,h0⟩ |⟨gv,cv,cur,q,_⟩
   ·simp at h0
   ·exact⟨gv,cv,q⟩
  obtain⟨_,_,he,VU,_⟩:=fE PD.row HK.out.2
  cases he
  have v0:=aZ hkr.own 0 (str zo.key) rfl
  have vz:=eF hkr.own 0
  have hset:=iR hkr.own 0 (str kl.key)
  rw [←jg] at hset
  obtain⟨Kh,vC⟩:=hkr.far gv rfl
  have Uu:=(C9 gK rfl).2
  have Uv:=(p8 gK rfl).2
  have oS:Only (fun j=>j=gv) w7 (w7.setCell ⟨gv,0,none⟩ (str kl.key)):=(Only.refl (fun j=>j=gv) w7).put gv 0 rfl _
  have hbv:¬b=gv:=fun e=>vC (.inl e.symm)
  have Rs:=PD.only oS (fun j hj e=>by have e2:gK=j:=Option.some.inj hj;have e3:j=gv:=e;omega)
  have Db:aA (w7.setCell ⟨gv,0,none⟩ (str kl.key)) b S2:=by
   obtain⟨vL,vG,hI⟩:=pO
   exact⟨vL,vG,hI.beside oS (fun j q e=>vC (by have e3:j=gv:=e;exact e3▸q))⟩
  have hsx:=Iw.only.size
  have Iy:=(Iw.trans tY).fresh hpw oS (fun j e=>by have e3:j=gv:=e;omega)
  have Dc:=Lib.hid (iE _ kids _ Rs.row (by omega))
  have hs7:=tY.only.size
  have PE:(w7.setCell ⟨gv,0,none⟩ (str kl.key)).heap.size=w7.heap.size:=by simp [World.setCell]
  have Uw:=(hkr.own.lt gv rfl).2
  have HZ:=Lib.hid (And.intro hset (And.intro Db Iy))
  have hw2:IntKind.i64.wrap ((m:Int)+2)=(m:Int)+2:=by exact IntWalk.i64_in _ (by omega)
  have Df:=hwl.2
  have Ux:=Lib.hid (And.intro Df hcf)
  clear hPx Iw p8 kx PD C9 hkr hset oS Rs Db Iy pO tY hwl Df hcf k0 k1 MC
  go_wp2_with fail
  (with_reducible refine Dc.out.mono ?_)
  rintro e w9 ⟨v9,rfl,Bv,o9,oQ⟩
  rw [PE] at oQ
  obtain⟨hset,Db,Iy⟩:=HZ.out
  have hrl:=oU v9 (.slice (some ⟨gv,0,none⟩) (zo :: wr).length cv) kids (setHead kl.key (zo :: wr)) m (m+2) w9 (by omega) (by omega) (by omega) (by have e1:=Ux.out;rw [fG];omega) (fun j hj e=>by have e2:gv=j:=Option.some.inj e;have:=oQ j hj;omega) Bv (by rw [fG];exact aP hset o9 (fun _ _=>id)) (by omega)
  have ec:((m+2:Nat):Int)=(m:Int)+2:=by omega
  rw [ec,List.length_cons] at hrl
  have Rt:=Lib.hid hrl
  have Ct:=Lib.hid (And.intro o9 (And.intro oQ Bv))
  clear hset Db Iy hrl o9 oQ Bv Dc ec
  go_wp2_with fail
  (with_reducible refine Rt.out.mono ?_)
  rintro e wa ⟨va,rfl,Bw,oa,ba⟩
  have HA:=Lib.hid (And.intro Bw (And.intro oa ba))
  clear Bw oa ba Rt
  go_wp2_with fail
  go_ret2
  obtain⟨Bw,oa,ba⟩:=HA.out
  obtain⟨o9,oQ,Bv⟩:=Ct.out
  obtain⟨_,Db,Iy⟩:=HZ.out
  have PG:b<(w7.setCell ⟨gv,0,none⟩ (str kl.key)).heap.size:=Db.lt
  have Ru:=Db.still o9
  have Cv:∀j,bn w9 b j→j<w7.heap.size:=fun j q=>by
   have:=bM Db ((aD (o9.block b PG id) j).1 q)
   omega
  have hbn:¬v9.ownBlock=some b:=fun q=>by have:=oQ b q;omega
  have hPa:aA wa b S2:=by
   obtain⟨vL,vG,hI⟩:=Ru
   exact⟨vL,vG,hI.beside oa (fun j q e=>by have:=oQ j e;have:=Cv j q;omega)⟩
  refine⟨va,rfl,⟨Bw,fun j hj=>?_⟩,hPa,(Iy.trans (aB.still PG o9)).fresh hpw oa (fun j e=>by have:=oQ j e;omega)⟩
  rw [ba] at hj
  have h9:=oQ j hj
  refine⟨by omega,fun q=>?_⟩
  have:=Cv j ((aD (oa.block b Ru.lt hbn) j).1 q)
  omega
end
end Go.Proofs.YtbhiamcmiopnoaaGreatDoor
