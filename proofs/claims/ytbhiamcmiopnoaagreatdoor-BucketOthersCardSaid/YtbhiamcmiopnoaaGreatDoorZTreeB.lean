/- Package tree over the law's pages: items are kept as leaves. Conditions: one goroutine; the items may be laid, there is room for the pages. -/
import Derived.Test.YtbhiamcmiopnoaaGreatDoorZTree2
import Derived.Test.YtbhiamcmiopnoaaGreatDoorZPlainB
import Derived.Deep.RegionWith
import Derived.BigRegion
set_option maxHeartbeats 4000000
set_option maxRecDepth 100000
namespace Go.Proofs.YtbhiamcmiopnoaaGreatDoor
section
open Go.RowKit
structure j4 (w0 w:World) (b:Nat) (V:Value) (ks:List Kid):Prop where
 own:w.ownsRow 0 185 2 V ks.length (ks.flatMap aR)
 far:∀j,V.ownBlock=some j→w0.heap.size≤j∧¬bn w b j
theorem j4.row {w0 w:World} {b:Nat} {V:Value} {ks:List Kid} (h:j4 w0 w b V ks):gN aR 2 w V ks:=⟨bS (fun _=>rfl) h.own,dQ h.own⟩
theorem j4.apart {w0 w:World} {b:Nat} {V:Value} {ks:List Kid} (h:j4 w0 w b V ks):Apart w b V:=fun j hj=>by
 rw [bg h.own] at hj
 exact⟨(h.far j hj).2,(h.own.lt j hj).2⟩
theorem yX {α:Type} [Keyed α] {pp:List (List α)} {ids:List Int} {k:Nat} {p:List α} {i:Int} (hp:pp[k]? = some p) (hi:ids[k]? = some i):(jr pp ids)[k]? = some ⟨(p.head?.map Keyed.key).getD [],i⟩:=by
 unfold jr
 rw [List.getElem?_zipWith,hp,hi]
theorem mU {α:Type} [Keyed α] (pp:List (List α)) (ids:List Int) (h:ids.length=pp.length):(jr pp ids).length=ids.length:=by
 unfold jr
 rw [List.length_zipWith]
 omega
theorem xL {w:World} {a:Option Addr} {n c:Nat} {l:List Int} (h:bL qN 1 w (.slice a n c) l) {k:Nat} {i:Int} (hx:l[k]? = some i):∃g off,a=some ⟨g,off,none⟩∧w.cell? ⟨g,off+k,none⟩=some (.int .i64 i):=by
 cases h with
 | none=>simp at hx
 | some g off cap _ hc=>exact⟨g,off,rfl,by simpa using hc k i 0 _ hx rfl⟩
theorem rW {α β:Type} (f:α→List β) {l:List α} {k:Nat} {x:α} (h:l[k]? = some x):(l.take (k+1)).flatMap f=(l.take k).flatMap f++f x:=by
 rw [List.take_add_one,h,List.flatMap_append]
 simp
theorem sU (w:World) (b:Nat) (S S2:aW) (old:Int) (l:List Item) (ks:List Kid) (v:Value) (h:aA w b S) (hv:gN aJ 3 w v l) (hr:bJ l=true) (hs:aT l≤1000000) (hL:S.L.length+(gF l).length≤3998) (ho:0≤old∧old≤4000) (ho2:old<(S.L.length+2:Nat)) (hg:S.given.length<1000000)
 (hk:jl S old l=(.ok ks,S2)) :
 Calls Tryz.prog 173 #[aF b,.int .i64 old,v] w fun e w'=>∃V,e=.returned (.tuple #[V,.int .i64 0])∧j4 w w' b V ks∧aA w' b S2∧aB b w w':=by
 obtain⟨i0,hi,hz0,hz1,hz2⟩:=info_parts nM
 obtain⟨j0,hj,Fw,Fx,Fy⟩:=info_parts kF
 have hC:=Lib.hid (P7 v l w hv hr hs)
 unfold jl at hk
 rw [if_pos hr] at hk
 have hne:=xH l
 have hfit:=qC l fun x hx=>by have:=(jC (((aH _).1 hr).1 x hx)).2;omega
 have hright:∀p∈gF l,bJ p=true:=fun p hp=>iM hr (by have:=qE hp;rwa [fB] at this)
 generalize gF l=pp at *
 have sV:∀n∈pp.map Node.leaf,mQ n:=fun n hn=>by
  obtain⟨p,hp,rfl⟩:=List.mem_map.1 hn
  exact⟨⟨hright p hp,(hfit p hp).2,(hfit p hp).1⟩,hne p hp⟩
 obtain⟨ids,gP,hks⟩:∃ids,lT S old (pp.map Node.leaf)=(.ok ids,S2)∧ks=jr pp ids:=by
  cases hkp:lT S old (pp.map Node.leaf) with
  | mk r p'=>
   rw [hkp] at hk
   cases r with
   | error e=>simp at hk
   | ok ids=>simp at hk;exact⟨ids,by rw [hk.2],hk.1.symm⟩
 have KR:ids.length=pp.length:=by
  obtain⟨bE,p',h1,K⟩:=nE S old (pp.map Node.leaf) (by rw [List.length_map];exact hL) ho2
  rw [h1] at gP
  cases gP
  rw [K.len,List.length_map]
 have HP:=Lib.hid h
 have hpw:=h.lt
 have MI:=Lib.hid (And.intro hne (And.intro hfit hright))
 have zF:=Lib.hid sV
 have BR:=Lib.hid gP
 have jd:pp.length≤3998:=by omega
 clear hk hne hfit hright sV gP h hv
 unfold aF
 go_enter Tryz.func173,Tryz.ntmps173
 go_wp2_with fail
 refine hC.out.mono ?_
 rintro e w1 ⟨V0,vs,rfl,Fz,hparts,o1,KS,KT⟩
 obtain⟨a0,c0,rfl⟩:=ownsRow_form Fz
 have hvl:vs.length=pp.length:=hparts.len
 have HW1:=Lib.hid (And.intro Fz (And.intro hparts (And.intro KS KT)))
 have mX:=Lib.hid o1
 clear Fz hparts o1 KS KT hC
 go_wp2_with fail
 go_loopg [10,29] pp.length (fun gh pv ix wr=>∃(k:Nat),gh+k=pp.length∧ix=.int .i64 k∧wr.ownsRow 0 252 4 pv k (((pp.map Node.leaf).take k).flatMap newC)∧Only (fun _=>False) w1 wr∧∀j,pv.ownBlock=some j→w1.heap.size≤j)
 case atStart=>exact⟨0,by omega,rfl,⟨rfl,.inl ⟨rfl,rfl⟩⟩,Only.refl _ _,(fun j hj=>by simp [Value.ownBlock] at hj)⟩
 case round=>
  obtain⟨k,hgh,rfl,own,ho1,hnew⟩:=hrel
  have HOW:=Lib.hid own
  have HO:=Lib.hid ho1
  have zG:=Lib.hid hnew
  clear own ho1 hnew
  by_cases hk:k<pp.length
  ·have hk1:(k:Int)<(vs.length:Int):=by omega
   obtain⟨p,hp⟩:∃p,pp[k]? = some p:=⟨_,List.getElem?_eq_getElem hk⟩
   obtain⟨vk,hvk⟩:∃vk,vs[k]? = some vk:=⟨_,List.getElem?_eq_getElem (by omega)⟩
   have hpm:=List.mem_of_getElem? hp
   have hrow:=(HW1.out.2.1.each k vk p hvk hp).only HO.out (fun _ _=>id)
   obtain⟨ak,nk,ck,rfl⟩:=bK hrow.cap
   obtain⟨g0,rfl⟩:∃g0,a0=some ⟨g0,0,none⟩:=by
    rcases HW1.out.1.2 with ⟨q,h0⟩ |⟨g,cap,cur,q,_⟩
    ·omega
    ·injection q with q1 q2 q3;exact⟨g,q1⟩
   have e0:=aZ (aP HW1.out.1 HO.out (fun _ _=>id)) k _ hvk
   have KU:iC p=(jT p,0):=by
    unfold iC
    rw [if_pos (MI.out.2.2 p hpm),if_neg (by have:=MI.out.2.1 p hpm;omega)]
   have hL:=KD _ p wr hrow.row (by have:=MI.out.2.1 p hpm;omega)
   rw [KU] at hL
   have Qa:=Lib.hid hL
   have hw1:IntKind.i64.wrap ((k:Int)+1)=(k:Int)+1:=by exact IntWalk.i64_in _ (by omega)
   have HX:=Lib.hid (show (pp.map Node.leaf)[k]? = some (Node.leaf p) by rw [List.getElem?_map,hp];rfl)
   clear hL KU hrow hp hvk hpm
   go_wp2_with fail
   refine Qa.out.mono ?_
   rintro e w2 ⟨rfl,o2⟩
   have sO:=Lib.hid (HO.out.trans o2 (fun _ _ q=>q))
   have oV:=(Only.refl (fun _=>False) w2).alloc (.cells #[.int .i64 3,.int .i64 0,.int .i64 0,str (jT p)] 252)
   have HOWN:=Lib.hid (aP HOW.out (o2.trans oV (fun _ _ q=>q)) (fun _ _=>id))
   have HC:=Lib.hid (bH w2 [.int .i64 3,.int .i64 0,.int .i64 0,str (jT p)] 252 (0,0))
   have xg:=Lib.hid (sO.out.trans oV (fun _ _ q=>q))
   clear o2 oV
   go_wp2_with (at_builtin;refine aM _ rfl _ _ 60 rfl 252 i0 _ 4 40 Tryz.underlying60 hi hz0 hz1 hz2 rfl (by decide) _ _ _ rfl HOWN.out ⟨w2.heap.size,0,none⟩ 1 1 [.int .i64 3,.int .i64 0,.int .i64 0,str (jT p)] rfl rfl HC.out (by simp [Value.oneCell',str]) (by unfold maxLen;omega) (by omega) ?_;intro a' c' wx hown2 hgr hmv;have FB:=Lib.hid (And.intro hown2 (And.intro hgr hmv));clear hown2 hgr hmv)
   go_roundg (gk-1)
   case measure=>omega
   case rel=>
    obtain⟨hown2,hgr,hmv⟩:=FB.out
    refine⟨k+1,by omega,by go_num,?_,xg.out.grown hgr (fun j hj e=>by have:=zG.out j e;omega),fun j hj=>?_⟩
    ·rw [rW newC HX.out];exact hown2
    ·rcases hmv j hj with e | e
     ·exact zG.out j e
     ·have:=sO.out.size;simp at e;omega
  ·obtain rfl:k=pp.length:=by omega
   have hk1:¬(pp.length:Int)<(vs.length:Int):=by omega
   have hml:(pp.map Node.leaf).length=pp.length:=List.length_map ..
   have hown:=HOW.out
   rw [←hml,List.take_length] at hown
   have hb1:=HP.out.still mX.out
   have hb2:=hb1.still HO.out
   have hap:Apart wr b u10:=Apart.new hb1 HO.out (fun j hj=>by rw [bg hown] at hj;exact⟨zG.out j hj,(hown.lt j hj).2⟩)
   have hK:=DW wr b S S2 old (pp.map Node.leaf) ids u10 hb2 (bS (enc:=newC) (k:=4) (fun _=>rfl) hown) hap zF.out (by rw [hml];exact hL) ho hg BR.out
   have HK:=Lib.hid hK
   have HS2:=Lib.hid ((aB.still hpw mX.out).trans (aB.still hb1.lt HO.out))
   have uR:=HW1.out.2.1.only HO.out (fun _ _ _ _=>id)
   have hown0:=aP HW1.out.1 HO.out (fun _ _=>id)
   have KV:∀vk∈vs,Apart wr b vk:=fun vk hvk j hj=>by
    obtain⟨f1,f2,_⟩:=HW1.out.2.2.2 vk hvk j hj
    exact⟨fun q=>by have:=bM HP.out ((aD ((mX.out.trans HO.out (fun _ _ q=>q)).block b hpw id) j).1 q);omega,by have:=HO.out.size;omega⟩
   have KW:∀j,(Value.slice a0 vs.length c0).ownBlock=some j→¬bn wr b j:=fun j hj q=>by
    have:=HW1.out.2.2.1 j hj
    have:=bM HP.out ((aD ((mX.out.trans HO.out (fun _ _ q=>q)).block b hpw id) j).1 q);omega
   have HW2:=Lib.hid (And.intro hown0 (And.intro uR (And.intro KV KW)))
   clear hown hb1 hb2 hap hK uR hown0 KV KW HW1
   unfold aF at HK
   go_wp2_with fail
   (with_reducible refine HK.out.mono ?_)
   rintro e w3 ⟨V,rfl,hrow3,Fv,hp3,jR⟩
   obtain⟨aI,nI,cI,rfl⟩:=bK hrow3.cap
   have OO:nI=ids.length:=by
    cases hrow3.row with
    | none=>rfl
    | some=>rfl
   subst OO
   have hown0:=aP HW2.out.1 jR.only HW2.out.2.2.2
   have uS:Parts w3 vs pp:=HW2.out.2.1.only jR.only (fun vk hvk j hj=>(HW2.out.2.2.1 vk hvk j hj).1)
   have HI3:=Lib.hid hrow3
   have ET:=Lib.hid hp3
   have Bt:=Lib.hid (HS2.out.trans jR)
   have HW3:=Lib.hid (And.intro hown0 uS)
   clear hrow3 Fv hp3 jR hown0 uS HW2 HS2 HK zG
   have hkl:=mU pp ids KR
   go_wp2_with fail
   go_loopg [16,56] ids.length (fun gh ov ix wr=>∃(k:Nat),gh+k=ids.length∧ix=.int .i64 k∧wr.ownsRow 0 185 2 ov k (((jr pp ids).take k).flatMap aR)∧Only (fun _=>False) w3 wr∧∀j,ov.ownBlock=some j→w3.heap.size≤j)
   case atStart=>exact⟨0,by omega,rfl,⟨rfl,.inl ⟨rfl,rfl⟩⟩,Only.refl _ _,(fun j hj=>by simp [Value.ownBlock] at hj)⟩
   case round=>
    obtain⟨k,hgh,rfl,own,ho1,hnew⟩:=hrel
    have HOW:=Lib.hid own
    have HO:=Lib.hid ho1
    have zG:=Lib.hid hnew
    clear own ho1 hnew
    by_cases hk:k<ids.length
    ·have hk1:(k:Int)<(ids.length:Int):=by omega
     have hk2:(k:Int)<(vs.length:Int):=by omega
     obtain⟨p,hp⟩:∃p,pp[k]? = some p:=⟨_,List.getElem?_eq_getElem (by omega)⟩
     obtain⟨i,hi2⟩:∃i,ids[k]? = some i:=⟨_,List.getElem?_eq_getElem hk⟩
     obtain⟨vk,hvk⟩:∃vk,vs[k]? = some vk:=⟨_,List.getElem?_eq_getElem (by omega)⟩
     have hpm:=List.mem_of_getElem? hp
     obtain⟨x,p',rfl⟩:=List.exists_cons_of_ne_nil (MI.out.1 p hpm)
     have hrow:=(HW3.out.2.each k vk _ hvk hp).only HO.out (fun _ _=>id)
     obtain⟨ak,nk,ck,rfl⟩:=bK hrow.cap
     obtain⟨XH,UW,rfl,q0,_,_⟩:=jL hrow.row (k:=0) (x:=x) rfl
     have hnk:0<nk:=by
      cases hrow.row with
      | some=>simp
     obtain⟨g0,rfl⟩:∃g0,a0=some ⟨g0,0,none⟩:=by
      rcases HW3.out.1.2 with ⟨q,h0⟩ |⟨g,cap,cur,q,_⟩
      ·omega
      ·injection q with q1 q2 q3;exact⟨g,q1⟩
     have e0:=aZ (aP HW3.out.1 HO.out (fun _ _=>id)) k _ hvk
     obtain⟨gi,BS,rfl,e1⟩:=xL (aU HI3.out.row HO.out (fun _ _=>id)) hi2
     simp only [Nat.zero_mul,Nat.add_zero] at q0
     have hw1:IntKind.i64.wrap ((k:Int)+1)=(k:Int)+1:=by exact IntWalk.i64_in _ (by omega)
     have HX:=Lib.hid (yX hp hi2)
     have UY:(0:Int)<(nk:Int):=by omega
     have oV:=(Only.refl (fun _=>False) wr).alloc (.cells #[str x.key,.int .i64 i] 185)
     have HOWN:=Lib.hid (aP HOW.out oV (fun _ _=>id))
     have HC:=Lib.hid (bH wr [str x.key,.int .i64 i] 185 (0,0))
     have xg:=Lib.hid (HO.out.trans oV (fun _ _ q=>q))
     clear oV hrow hp hi2 hvk hpm
     go_wp2_with (at_builtin;refine aM _ rfl _ _ 163 rfl 185 j0 _ 2 24 Tryz.underlying163 hj Fw Fx Fy rfl (by decide) _ _ _ rfl HOWN.out ⟨wr.heap.size,0,none⟩ 1 1 [str x.key,.int .i64 i] rfl rfl HC.out (by simp [Value.oneCell',str]) (by unfold maxLen;omega) (by omega) ?_;intro a' c' wx hown2 hgr hmv;have FB:=Lib.hid (And.intro hown2 (And.intro hgr hmv));clear hown2 hgr hmv)
     go_roundg (gk-1)
     case measure=>omega
     case rel=>
      obtain⟨hown2,hgr,hmv⟩:=FB.out
      refine⟨k+1,by omega,by go_num,?_,xg.out.grown hgr (fun j hj e=>by have:=zG.out j e;omega),fun j hj=>?_⟩
      ·rw [rW aR HX.out];exact hown2
      ·rcases hmv j hj with e | e
       ·exact zG.out j e
       ·have:=HO.out.size;simp at e;omega
    ·obtain rfl:k=ids.length:=by omega
     have hk1:¬(ids.length:Int)<(ids.length:Int):=by omega
     go_wp2_with fail
     go_ret2
     have hown:=HOW.out
     rw [←hkl,List.take_length] at hown
     refine⟨u16,rfl,⟨by first | exact hown |(rw [hks];exact hown),fun j hj=>⟨?_,fun q=>?_⟩⟩,ET.out.still HO.out,Bt.out.trans (aB.still ET.out.lt HO.out)⟩
     ·have:=zG.out j hj;have:=Bt.out.only.size;omega
     ·have:=zG.out j hj;have:=bM ET.out ((aD (HO.out.block b ET.out.lt id) j).1 q);omega
end
section
open Go.RowKit
theorem j3 (w:World) (b:Nat) (S S2:aW) (old:Int) (l:List Kid) (ks:List Kid) (v:Value) (h:aA w b S) (hv:gN aR 2 w v l) (hr:bJ l=true) (hs:aT l≤1000000) (h2:2≤l.length) (hL:S.L.length+(bY l).length≤3998) (ho:0≤old∧old≤4000) (ho2:old<(S.L.length+2:Nat)) (hg:S.given.length<1000000)
 (hk:eP S old l=(.ok ks,S2)) :
 Calls Tryz.prog 197 #[aF b,.int .i64 old,v] w fun e w'=>∃V,e=.returned (.tuple #[V,.int .i64 0])∧j4 w w' b V ks∧aA w' b S2∧aB b w w':=by
 obtain⟨i0,hi,hz0,hz1,hz2⟩:=info_parts nM
 obtain⟨j0,hj,Fw,Fx,Fy⟩:=info_parts kF
 have hC:=Lib.hid (Nu v l w hv hr hs h2)
 unfold eP at hk
 rw [if_pos hr] at hk
 have iT:=(aH _).1 hr
 have mH:∀x∈l,Keyed.cost x≤36:=fun x hx=>(dY (iT.1 x hx)).2
 have FC:=uM (gF l) (yJ _ (fun x hx=>(dY (iT.1 x hx)).1) mH) (by rw [fB];exact h2) (by rw [fB];exact mH) (qC _ fun x hx=>by have:=mH x hx;omega)
 rw [fB] at FC
 change (bY l).flatten=_∧_∧(∀p∈bY l,_)∧∀p∈bY l,_ at FC
 have hne:∀p∈bY l,p≠[]:=fun p hp q=>by have:=FC.2.2.1 p hp;rw [q] at this;simp at this
 have hfit:=FC.2.2.2
 have hright:∀p∈bY l,bJ p=true:=fun p hp=>iM hr (by have:=qE hp;rwa [FC.1] at this)
 clear FC mH iT
 generalize bY l=pp at *
 have sV:∀n∈pp.map Node.cZ,mQ n:=fun n hn=>by
  obtain⟨p,hp,rfl⟩:=List.mem_map.1 hn
  exact⟨⟨hright p hp,(hfit p hp).2,(hfit p hp).1⟩,hne p hp⟩
 obtain⟨ids,gP,hks⟩:∃ids,lT S old (pp.map Node.cZ)=(.ok ids,S2)∧ks=jr pp ids:=by
  cases hkp:lT S old (pp.map Node.cZ) with
  | mk r p'=>
   rw [hkp] at hk
   cases r with
   | error e=>simp at hk
   | ok ids=>simp at hk;exact⟨ids,by rw [hk.2],hk.1.symm⟩
 have KR:ids.length=pp.length:=by
  obtain⟨bE,p',h1,K⟩:=nE S old (pp.map Node.cZ) (by rw [List.length_map];exact hL) ho2
  rw [h1] at gP
  cases gP
  rw [K.len,List.length_map]
 have HP:=Lib.hid h
 have hpw:=h.lt
 have MI:=Lib.hid (And.intro hne (And.intro hfit hright))
 have zF:=Lib.hid sV
 have BR:=Lib.hid gP
 have jd:pp.length≤3998:=by omega
 clear hk hne hfit hright sV gP h hv
 unfold aF
 go_enter Tryz.func197,Tryz.ntmps197
 go_wp2_with fail
 refine hC.out.mono ?_
 rintro e w1 ⟨V0,vs,rfl,Fz,hparts,o1,KS,KT⟩
 obtain⟨a0,c0,rfl⟩:=ownsRow_form Fz
 have hvl:vs.length=pp.length:=hparts.len
 have HW1:=Lib.hid (And.intro Fz (And.intro hparts (And.intro KS KT)))
 have mX:=Lib.hid o1
 clear Fz hparts o1 KS KT hC
 go_wp2_with fail
 go_loopg [10,28] pp.length (fun gh pv ix wr=>∃(k:Nat),gh+k=pp.length∧ix=.int .i64 k∧wr.ownsRow 0 252 4 pv k (((pp.map Node.cZ).take k).flatMap newC)∧Only (fun _=>False) w1 wr∧∀j,pv.ownBlock=some j→w1.heap.size≤j)
 case atStart=>exact⟨0,by omega,rfl,⟨rfl,.inl ⟨rfl,rfl⟩⟩,Only.refl _ _,(fun j hj=>by simp [Value.ownBlock] at hj)⟩
 case round=>
  obtain⟨k,hgh,rfl,own,ho1,hnew⟩:=hrel
  have HOW:=Lib.hid own
  have HO:=Lib.hid ho1
  have zG:=Lib.hid hnew
  clear own ho1 hnew
  by_cases hk:k<pp.length
  ·have hk1:(k:Int)<(vs.length:Int):=by omega
   obtain⟨p,hp⟩:∃p,pp[k]? = some p:=⟨_,List.getElem?_eq_getElem hk⟩
   obtain⟨vk,hvk⟩:∃vk,vs[k]? = some vk:=⟨_,List.getElem?_eq_getElem (by omega)⟩
   have hpm:=List.mem_of_getElem? hp
   have hrow:=(HW1.out.2.1.each k vk p hvk hp).only HO.out (fun _ _=>id)
   obtain⟨ak,nk,ck,rfl⟩:=bK hrow.cap
   obtain⟨g0,rfl⟩:∃g0,a0=some ⟨g0,0,none⟩:=by
    rcases HW1.out.1.2 with ⟨q,h0⟩ |⟨g,cap,cur,q,_⟩
    ·omega
    ·injection q with q1 q2 q3;exact⟨g,q1⟩
   have e0:=aZ (aP HW1.out.1 HO.out (fun _ _=>id)) k _ hvk
   have hL:=GJ _ p wr hrow.row (MI.out.1 p hpm) (MI.out.2.2 p hpm) (MI.out.2.1 p hpm).2 (MI.out.2.1 p hpm).1
   have Qa:=Lib.hid hL
   have hw1:IntKind.i64.wrap ((k:Int)+1)=(k:Int)+1:=by exact IntWalk.i64_in _ (by omega)
   have HX:=Lib.hid (show (pp.map Node.cZ)[k]? = some (Node.cZ p) by rw [List.getElem?_map,hp];rfl)
   clear hL hrow hp hvk hpm
   go_wp2_with fail
   refine Qa.out.mono ?_
   rintro e w2 ⟨rfl,o2⟩
   have sO:=Lib.hid (HO.out.trans o2 (fun _ _ q=>q))
   have oV:=(Only.refl (fun _=>False) w2).alloc (.cells #[.int .i64 4,.int .i64 0,.int .i64 0,str (jE p)] 252)
   have HOWN:=Lib.hid (aP HOW.out (o2.trans oV (fun _ _ q=>q)) (fun _ _=>id))
   have HC:=Lib.hid (bH w2 [.int .i64 4,.int .i64 0,.int .i64 0,str (jE p)] 252 (0,0))
   have xg:=Lib.hid (sO.out.trans oV (fun _ _ q=>q))
   clear o2 oV
   go_wp2_with (at_builtin;refine aM _ rfl _ _ 60 rfl 252 i0 _ 4 40 Tryz.underlying60 hi hz0 hz1 hz2 rfl (by decide) _ _ _ rfl HOWN.out ⟨w2.heap.size,0,none⟩ 1 1 [.int .i64 4,.int .i64 0,.int .i64 0,str (jE p)] rfl rfl HC.out (by simp [Value.oneCell',str]) (by unfold maxLen;omega) (by omega) ?_;intro a' c' wx hown2 hgr hmv;have FB:=Lib.hid (And.intro hown2 (And.intro hgr hmv));clear hown2 hgr hmv)
   go_roundg (gk-1)
   case measure=>omega
   case rel=>
    obtain⟨hown2,hgr,hmv⟩:=FB.out
    refine⟨k+1,by omega,by go_num,?_,xg.out.grown hgr (fun j hj e=>by have:=zG.out j e;omega),fun j hj=>?_⟩
    ·rw [rW newC HX.out];exact hown2
    ·rcases hmv j hj with e | e
     ·exact zG.out j e
     ·have:=sO.out.size;simp at e;omega
  ·obtain rfl:k=pp.length:=by omega
   have hk1:¬(pp.length:Int)<(vs.length:Int):=by omega
   have hml:(pp.map Node.cZ).length=pp.length:=List.length_map ..
   have hown:=HOW.out
   rw [←hml,List.take_length] at hown
   have hb1:=HP.out.still mX.out
   have hb2:=hb1.still HO.out
   have hap:Apart wr b u10:=Apart.new hb1 HO.out (fun j hj=>by rw [bg hown] at hj;exact⟨zG.out j hj,(hown.lt j hj).2⟩)
   have hK:=DW wr b S S2 old (pp.map Node.cZ) ids u10 hb2 (bS (enc:=newC) (k:=4) (fun _=>rfl) hown) hap zF.out (by rw [hml];exact hL) ho hg BR.out
   have HK:=Lib.hid hK
   have HS2:=Lib.hid ((aB.still hpw mX.out).trans (aB.still hb1.lt HO.out))
   have uR:=HW1.out.2.1.only HO.out (fun _ _ _ _=>id)
   have hown0:=aP HW1.out.1 HO.out (fun _ _=>id)
   have KV:∀vk∈vs,Apart wr b vk:=fun vk hvk j hj=>by
    obtain⟨f1,f2,_⟩:=HW1.out.2.2.2 vk hvk j hj
    exact⟨fun q=>by have:=bM HP.out ((aD ((mX.out.trans HO.out (fun _ _ q=>q)).block b hpw id) j).1 q);omega,by have:=HO.out.size;omega⟩
   have KW:∀j,(Value.slice a0 vs.length c0).ownBlock=some j→¬bn wr b j:=fun j hj q=>by
    have:=HW1.out.2.2.1 j hj
    have:=bM HP.out ((aD ((mX.out.trans HO.out (fun _ _ q=>q)).block b hpw id) j).1 q);omega
   have HW2:=Lib.hid (And.intro hown0 (And.intro uR (And.intro KV KW)))
   clear hown hb1 hb2 hap hK uR hown0 KV KW HW1
   unfold aF at HK
   go_wp2_with fail
   (with_reducible refine HK.out.mono ?_)
   rintro e w3 ⟨V,rfl,hrow3,Fv,hp3,jR⟩
   obtain⟨aI,nI,cI,rfl⟩:=bK hrow3.cap
   have OO:nI=ids.length:=by
    cases hrow3.row with
    | none=>rfl
    | some=>rfl
   subst OO
   have hown0:=aP HW2.out.1 jR.only HW2.out.2.2.2
   have uS:l7 w3 vs pp:=HW2.out.2.1.only jR.only (fun vk hvk j hj=>(HW2.out.2.2.1 vk hvk j hj).1)
   have HI3:=Lib.hid hrow3
   have ET:=Lib.hid hp3
   have Bt:=Lib.hid (HS2.out.trans jR)
   have HW3:=Lib.hid (And.intro hown0 uS)
   clear hrow3 Fv hp3 jR hown0 uS HW2 HS2 HK zG
   have hkl:=mU pp ids KR
   go_wp2_with fail
   go_loopg [16,55] ids.length (fun gh ov ix wr=>∃(k:Nat),gh+k=ids.length∧ix=.int .i64 k∧wr.ownsRow 0 185 2 ov k (((jr pp ids).take k).flatMap aR)∧Only (fun _=>False) w3 wr∧∀j,ov.ownBlock=some j→w3.heap.size≤j)
   case atStart=>exact⟨0,by omega,rfl,⟨rfl,.inl ⟨rfl,rfl⟩⟩,Only.refl _ _,(fun j hj=>by simp [Value.ownBlock] at hj)⟩
   case round=>
    obtain⟨k,hgh,rfl,own,ho1,hnew⟩:=hrel
    have HOW:=Lib.hid own
    have HO:=Lib.hid ho1
    have zG:=Lib.hid hnew
    clear own ho1 hnew
    by_cases hk:k<ids.length
    ·have hk1:(k:Int)<(ids.length:Int):=by omega
     have hk2:(k:Int)<(vs.length:Int):=by omega
     obtain⟨p,hp⟩:∃p,pp[k]? = some p:=⟨_,List.getElem?_eq_getElem (by omega)⟩
     obtain⟨i,hi2⟩:∃i,ids[k]? = some i:=⟨_,List.getElem?_eq_getElem hk⟩
     obtain⟨vk,hvk⟩:∃vk,vs[k]? = some vk:=⟨_,List.getElem?_eq_getElem (by omega)⟩
     have hpm:=List.mem_of_getElem? hp
     obtain⟨x,p',rfl⟩:=List.exists_cons_of_ne_nil (MI.out.1 p hpm)
     have hrow:=(HW3.out.2.each k vk _ hvk hp).only HO.out (fun _ _=>id)
     obtain⟨ak,nk,ck,rfl⟩:=bK hrow.cap
     obtain⟨XH,UW,rfl,q0,_⟩:=fE hrow.row (k:=0) (x:=x) rfl
     have hnk:0<nk:=by
      cases hrow.row with
      | some=>simp
     obtain⟨g0,rfl⟩:∃g0,a0=some ⟨g0,0,none⟩:=by
      rcases HW3.out.1.2 with ⟨q,h0⟩ |⟨g,cap,cur,q,_⟩
      ·omega
      ·injection q with q1 q2 q3;exact⟨g,q1⟩
     have e0:=aZ (aP HW3.out.1 HO.out (fun _ _=>id)) k _ hvk
     obtain⟨gi,BS,rfl,e1⟩:=xL (aU HI3.out.row HO.out (fun _ _=>id)) hi2
     simp only [Nat.zero_mul,Nat.add_zero] at q0
     have hw1:IntKind.i64.wrap ((k:Int)+1)=(k:Int)+1:=by exact IntWalk.i64_in _ (by omega)
     have HX:=Lib.hid (yX hp hi2)
     have UY:(0:Int)<(nk:Int):=by omega
     have oV:=(Only.refl (fun _=>False) wr).alloc (.cells #[str x.key,.int .i64 i] 185)
     have HOWN:=Lib.hid (aP HOW.out oV (fun _ _=>id))
     have HC:=Lib.hid (bH wr [str x.key,.int .i64 i] 185 (0,0))
     have xg:=Lib.hid (HO.out.trans oV (fun _ _ q=>q))
     clear oV hrow hp hi2 hvk hpm
     go_wp2_with (at_builtin;refine aM _ rfl _ _ 163 rfl 185 j0 _ 2 24 Tryz.underlying163 hj Fw Fx Fy rfl (by decide) _ _ _ rfl HOWN.out ⟨wr.heap.size,0,none⟩ 1 1 [str x.key,.int .i64 i] rfl rfl HC.out (by simp [Value.oneCell',str]) (by unfold maxLen;omega) (by omega) ?_;intro a' c' wx hown2 hgr hmv;have FB:=Lib.hid (And.intro hown2 (And.intro hgr hmv));clear hown2 hgr hmv)
     go_roundg (gk-1)
     case measure=>omega
     case rel=>
      obtain⟨hown2,hgr,hmv⟩:=FB.out
      refine⟨k+1,by omega,by go_num,?_,xg.out.grown hgr (fun j hj e=>by have:=zG.out j e;omega),fun j hj=>?_⟩
      ·rw [rW aR HX.out];exact hown2
      ·rcases hmv j hj with e | e
       ·exact zG.out j e
       ·have:=HO.out.size;simp at e;omega
    ·obtain rfl:k=ids.length:=by omega
     have hk1:¬(ids.length:Int)<(ids.length:Int):=by omega
     go_wp2_with fail
     go_ret2
     have hown:=HOW.out
     rw [←hkl,List.take_length] at hown
     refine⟨u16,rfl,⟨by first | exact hown |(rw [hks];exact hown),fun j hj=>⟨?_,fun q=>?_⟩⟩,ET.out.still HO.out,Bt.out.trans (aB.still ET.out.lt HO.out)⟩
     ·have:=zG.out j hj;have:=Bt.out.only.size;omega
     ·have:=zG.out j hj;have:=bM ET.out ((aD (HO.out.block b ET.out.lt id) j).1 q);omega
end
section
open Go.RowKit
def GL (i:Item) (f:Nat):Prop:=∀(n:Nat) (S S2:aW) (id:Int) (b0:Bytes) (l:List Item) (ids:List Int) (depth:Int) (ks:List Kid) (w:World) (b:Nat),Tree S.L n id b0 l ids→n<f→1≤depth→depth+n≤12→S.stop<0→S.L.length+3+2 * n≤3998→S.given.length+f<1000000→aA w b S→tC f S id i depth=(.ok ks,S2)→
 Calls Tryz.prog 174 #[aF b,.int .i64 id,iA i,.int .i64 depth] w fun e w'=>∃V,e=.returned (.tuple #[V,.int .i64 0])∧j4 w w' b V ks∧aA w' b S2∧aB b w w'
theorem IV (i:Item) (hi:dK i=true) (f:Nat) (S S2:aW) (id:Int) (l:List Item) (depth:Int) (ks:List Kid) (w:World) (b:Nat) (hn:nodeAt S.L id=some (.leaf l)) (ok:mP (.leaf l)) (hd:depth≤12) (hs:S.stop<0) (hL:S.L.length+3≤3998) (hg:S.given.length+1<1000000) (h:aA w b S) (hk:tC (f+1) S id i depth=(.ok ks,S2)) :
 Calls Tryz.prog 174 #[aF b,.int .i64 id,iA i,.int .i64 depth] w fun e w'=>∃V,e=.returned (.tuple #[V,.int .i64 0])∧j4 w w' b V ks∧aA w' b S2∧aB b w w':=by
 have hid:=cB hn
 rw [tC,iB hn (by omega) hs] at hk
 simp only at hk
 have iT:=(aH _).1 ok.1
 have hc:=(jC hi).2
 have hsz:=Ag l i
 have hpr:=jw ok.1 hi
 have hcf:=Af (dS l i) (fun x hx=>(jC (((aH _).1 hpr).1 x hx)).1) (by have:=ok.2.1;omega)
 have hsl:=ok.2.1
 have oW:=(Only.refl (fun _=>False) w).alloc (.cells #[str i.key,str i.val,.int .i64 i.kind] 131)
 have Gv:=lK (w.alloc (.cells #[str i.key,str i.val,.int .i64 i.kind] 131)) b S id depth l (h.still oW) hs hn hd (by omega)
 have mh:=Lib.hid Gv
 have hpw:=h.lt
 have hWs:(w.alloc (.cells #[str i.key,str i.val,.int .i64 i.kind] 131)).heap.size=w.heap.size+1:=by simp
 have zx:¬bn (w.alloc (.cells #[str i.key,str i.val,.int .i64 i.kind] 131)) b w.heap.size:=fun q=>by
  have:=bM h ((aD (oW.block b h.lt (fun q=>q)) _).1 q);omega
 have hR0:=heap_alloc_new w (.cells #[str i.key,str i.val,.int .i64 i.kind] 131)
 have HW0:=Lib.hid (aB.still h.lt oW)
 have HP:=Lib.hid h
 have HK:=Lib.hid hk
 have Uq:=Lib.hid hpr
 clear Gv h hk hpr
 unfold iA aJ
 unfold aF at mh ⊢
 go_enter Tryz.func174,Tryz.ntmps174
 go_wp2_with fail
 refine mh.out.mono ?_
 rintro e w1 ⟨v1,rfl,hrow,hap,hp1,st1⟩
 obtain⟨a1,n1,c1,rfl⟩:=bK hrow.cap
 have xG:=(st1.only.block _ (by rw [hWs];omega) zx).trans hR0
 have hs1:=st1.only.size
 rw [hWs] at hs1
 have o2:=(Only.refl (fun _=>False) w1).alloc (.cells #[.int .i64 id,.bool true,.slice a1 n1 c1,.slice none 0 0] 207)
 have hR2:=(o2.block _ (by omega) (fun q=>q)).trans xG
 have r0:=ay hR2 0
 have r1:=ay hR2 1
 have r2:=ay hR2 2
 have hrow2:=aU hrow.row o2 (fun _ _=>fun q=>q)
 have UZ:=Lib.hid (PL _ l i _ hrow2 iT.2 (by have:=jN l;omega))
 have jY:=Lib.hid hp1
 have kV:=Lib.hid (HW0.out.trans st1)
 have sO:=Lib.hid o2
 simp only [List.getElem?_toArray,List.getElem?_cons_zero,List.getElem?_cons_succ] at r0 r1 r2
 clear xG hR2 hR0 zx hWs oW hrow hap hp1 st1 o2 hrow2 mh HW0
 unfold iA aJ at UZ
 go_wp2_with fail
 refine UZ.out.mono ?_
 rintro e w3 ⟨v3,rfl,hrow3,o3,Gw⟩
 have HB:=jY.out.still (sO.out.trans o3 (fun _ _ q=>q))
 have Wp:=sU w3 b S S2 id (dS l i) ks v3 HB hrow3 Uq.out (by omega) (by omega) (by omega) hid.2 (by omega) HK.out
 have QB:=Lib.hid Wp
 have Bt:=Lib.hid (kV.out.trans (aB.still jY.out.lt (sO.out.trans o3 (fun _ _ q=>q))))
 clear Wp HB hrow3 o3 Gw UZ
 unfold aF at QB
 go_wp2_with fail
 refine QB.out.mono ?_
 rintro e w4 ⟨V,rfl,hkr,iD,fP⟩
 have MH:=Lib.hid hkr
 have Cu:=Lib.hid iD
 have xE:=Lib.hid (Bt.out.trans fP)
 have hs3:=Bt.out.only.size
 clear hkr iD fP
 go_wp2_with fail
 go_ret2
 exact⟨V,rfl,⟨MH.out.own,fun j hj=>⟨by have:=(MH.out.far j hj).1;omega,(MH.out.far j hj).2⟩⟩,Cu.out,xE.out⟩
end
end Go.Proofs.YtbhiamcmiopnoaaGreatDoor
