/- Package leaf: items are cut into parts. Conditions: fewer than 2^30 bytes; each item may be. -/
import Derived.Test.YtbhiamcmiopnoaaGreatDoorZLeaf5
set_option maxHeartbeats 4000000
set_option maxRecDepth 100000
namespace Go.Proofs.YtbhiamcmiopnoaaGreatDoor
open Go.RowKit
theorem uO {w:World} {g off c N:Nat} {l:List Item} (h:bL aJ 3 w (.slice (some ⟨g,off,none⟩) N c) l) (a n c':Nat) (hn:a+n≤l.length):bL aJ 3 w (.slice (some ⟨g,off+a * 3,none⟩) n c') ((l.drop a).take n):=by
 have hl:((l.drop a).take n).length=n:=by rw [List.length_take,List.length_drop];omega
 have hc:∀(i:Nat) (x:Item) (j:Nat) (u:Value),l[i]? = some x→(aJ x)[j]? = some u→w.cell? ⟨g,off+(i * 3+j),none⟩=some u:=by
  cases h with
  | some _ _ _ _ hc=>exact hc
 have:=bL.some (enc:=aJ) (k:=3) (w:=w) g (off+a * 3) c' ((l.drop a).take n) (fun i x j u hx hu=>by
  rw [List.getElem?_take] at hx
  split at hx
  ·rw [List.getElem?_drop] at hx
   have:=hc _ _ _ _ hx hu
   rwa [show off+((a+i) * 3+j)=off+a * 3+(i * 3+j) by omega] at this
  ·cases hx)
 rwa [hl] at this
structure Parts (w:World) (vs:List Value) (pp:List (List Item)):Prop where
 len:vs.length=pp.length
 each:∀(k:Nat) (v:Value) (p:List Item),vs[k]? = some v→pp[k]? = some p→gN aJ 3 w v p
theorem Parts.only {w w':World} {vs:List Value} {pp:List (List Item)} {S:Nat→Prop} (h:Parts w vs pp) (ho:Only S w w') (hs:∀v∈vs,∀b,bI v=some b→¬S b):Parts w' vs pp:=
 ⟨h.len,fun k v p hv hp=>(h.each k v p hv hp).only ho (hs v (List.mem_of_getElem? hv))⟩
theorem Parts.snoc {w:World} {vs:List Value} {pp:List (List Item)} {v:Value} {p:List Item} (h:Parts w vs pp) (hv:gN aJ 3 w v p):Parts w (vs++[v]) (pp++[p]):=by
 refine⟨by simp [h.len],fun k u q hu hq=>?_⟩
 rw [List.getElem?_append] at hu hq
 rw [h.len] at hu
 split at hu
 ·rename_i hk;rw [if_pos hk] at hq;exact h.each k u q hu hq
 ·rename_i hk
  rw [if_neg hk] at hq
  rw [List.getElem?_singleton] at hu hq
  split at hu
  ·rename_i h0
   rw [if_pos h0] at hq
   cases hu;cases hq;exact hv
  ·cases hu
theorem KM:(Tryz.prog.info? 140).map (fun i=>(i.zero,i.size,i.bytes))=some (some (.slice none 0 0),1,24):=by kernel_rfl
theorem uP {α:Type} [Keyed α] (l:List α):(gF l).length≤l.length:=by
 induction l using qB with
 | h0=>simp [gJ]
 | h1 d h ih=>
  rw [fK d h,List.length_cons]
  have:=mF d h
  rw [List.length_drop] at ih
  omega
def rV (w0 w:World) (ov:Value) (vs:List Value):Prop:=∀v∈vs,∀b,bI v=some b→w0.heap.size≤b∧b<w.heap.size∧ov.ownBlock≠some b
theorem P7 (v:Value) (l:List Item) (w:World) (h:gN aJ 3 w v l) (hr:bJ l=true) (hs:aT l≤1000000) :
 Calls Tryz.prog 193 #[v] w fun e w'=>∃V vs,e=.returned (.tuple #[V,.int .i64 0])∧w'.ownsRow 0 140 1 V vs.length vs∧Parts w' vs (gF l)∧Only (fun _=>False) w w'∧(∀b,V.ownBlock=some b→w.heap.size≤b)∧rV w w' V vs:=by
 obtain⟨i0,hi,hz0,hz1,hz2⟩:=info_parts KM
 have hll:=jN l
 have HR:=Lib.hid (DC v l w h.row (by omega))
 rw [hr] at HR
 obtain⟨hrow,hcap⟩:=h
 have hform:∃a c,v=.slice a l.length c:=by cases hrow with
  | none=>exact⟨_,_,rfl⟩
  | some g off cap=>exact⟨_,_,rfl⟩
 obtain⟨a,c,rfl⟩:=hform
 have hc1:l.length≤c:=hcap.1
 have hc2:c≤9223372036854775807:=by have:=hcap.2;unfold maxLen at this;omega
 have HA:=Lib.hid hrow
 have HS:=Lib.hid hs
 clear hrow hr hcap
 go_enter Tryz.func193,Tryz.ntmps193
 go_wp2_with fail
 (with_reducible refine HR.out.mono ?_)
 rintro e w1 ⟨rfl,o1⟩
 have O1:=Lib.hid o1
 clear o1 HR
 go_wp2_with fail
 go_loopg [4,5] l.length (fun gh ov fr wr=>∃(from_:Nat) (vs:List Value) (pp:List (List Item)),gh+from_=l.length∧fr=.int .i64 from_∧wr.ownsRow 0 140 1 ov vs.length vs∧Parts wr vs pp∧gF l=pp++gF (l.drop from_)∧Only (fun _=>False) w wr∧(∀b,ov.ownBlock=some b→w.heap.size≤b)∧rV w wr ov vs)
 case atStart=>exact⟨0,[],[],by omega,rfl,⟨rfl,.inl ⟨rfl,rfl⟩⟩,⟨rfl,fun k v p hv _=>by simp at hv⟩,rfl,O1.out,fun b hb=>by simp [Value.ownBlock] at hb,fun v hv=>by cases hv⟩
 case round=>
  obtain⟨fr,vs,pp,hgh,rfl,own,hparts,hcut,ho,hnew,iH⟩:=hrel
  have HP:=Lib.hid (And.intro own (And.intro hparts (And.intro hcut (And.intro hnew iH))))
  have HO:=Lib.hid ho
  clear own hparts hcut ho hnew iH
  by_cases hk:fr<l.length
  ·have hk1:(fr:Int)<(l.length:Int):=by omega
   have hw1:IntKind.i64.wrap ((fr:Int)+1)=(fr:Int)+1:=by exact IntWalk.i64_in _ (by omega)
   have hdl:(l.drop fr).length=l.length-fr:=List.length_drop
   obtain⟨g,off,rfl⟩:∃g off,a=some ⟨g,off,none⟩:=by
    have hx:l[fr]? = some l[fr]:=List.getElem?_eq_getElem hk
    obtain⟨g,off,e,_⟩:=jL HA.out hx
    exact⟨g,off,e⟩
   go_wp2_with fail
   generalize wr=wo at *
   go_loopg [6] (l.length-fr-1) (fun gh t wi=>∃t':Nat,t=.int .i64 t'∧fr<t'∧gh+t'=l.length∧dU (l.drop fr)=cutFrom (l.drop fr) ((l.drop fr).length-(t'-fr)) (t'-fr)∧Only (fun _=>False) wo wi)
   case atStart=>exact⟨fr+1,by simp,by omega,by omega,by rw [show fr+1-fr=1 by omega];rfl,Only.refl _ _⟩
   case round=>
    obtain⟨t,rfl,ht1,ht2,htc,hoi⟩:=hrel
    have HT:=Lib.hid htc
    have jK:=Lib.hid hoi
    clear htc hoi
    have ht0:(0:Int)≤(fr:Int):=by omega
    have hft:(fr:Int)≤(t:Int):=by omega
    have htc:(t:Int)≤(c:Int):=by omega
    by_cases hA1:t<l.length
    ·have hA2:(t:Int)<(l.length:Int):=by omega
     have hw2:IntKind.i64.wrap ((t:Int)-(fr:Int))=(t:Int)-(fr:Int):=by exact IntWalk.i64_in _ (by omega)
     by_cases hB1:t-fr<255
     ·have hB2:(t:Int)-(fr:Int)<255:=by omega
      have hw3:IntKind.i64.wrap ((t:Int)+1)=(t:Int)+1:=by exact IntWalk.i64_in _ (by omega)
      have UO:(fr:Int)≤(t:Int)+1:=by omega
      have UQ:(t:Int)+1≤(c:Int):=by omega
      have DL:=Lib.hid (uO (aU HA.out (HO.out.trans jK.out (fun _ _=>id)) (fun _ _=>id)) fr (t-fr+1) (c-fr) (by omega))
      have Ns:=Lib.hid (GH _ _ _ DL.out (by have:=lQ (l.drop fr) (t-fr+1);have:=oZ l fr;have:=HS.out;omega))
      have hsub:t+1-fr=t-fr+1:=by omega
      by_cases lN:aT ((l.drop fr).take (t-fr+1))≤232
      ·have hfit:Fits (l.drop fr) (t-fr):=⟨by omega,hB1,lN⟩
       have QI:=Lib.hid (uH hfit)
       have hC2:(aT ((l.drop fr).take (t-fr+1)):Int)≤232:=by omega
       generalize aT ((l.drop fr).take (t-fr+1))=z at *
       clear hfit
       go_wp2_with fail
       (with_reducible refine Ns.out.mono ?_)
       rintro e wz ⟨rfl,oz⟩
       have MG:=Lib.hid (jK.out.trans oz (fun _ _=>id))
       clear oz
       go_wp2_with fail
       go_roundg (gk-1)
       case measure=>omega
       case rel=>exact⟨t+1,by go_num,by omega,by omega,by rw [HT.out,QI.out,hsub],MG.out⟩
      ·have hfit:¬Fits (l.drop fr) (t-fr):=fun q=>lN q.2.2
       have hC2:¬(aT ((l.drop fr).take (t-fr+1)):Int)≤232:=by omega
       generalize aT ((l.drop fr).take (t-fr+1))=z at *
       go_wp2_with fail
       (with_reducible refine Ns.out.mono ?_)
       rintro e wz ⟨rfl,oz⟩
       have MG:=Lib.hid (jK.out.trans oz (fun _ _=>id))
       clear oz Ns DL
       have hce:dU (l.drop fr)=t-fr:=by rw [HT.out];exact iW _ hfit
       have p9:=Lib.hid hce
       clear hce hfit
       have iX:=Lib.hid (uO (aU HA.out (HO.out.trans MG.out (fun _ _=>id)) (fun _ _=>id)) fr (t-fr) (c-fr) (by omega))
       have yA:=Lib.hid (nC _ _ _ iX.out (by rw [List.length_take,hdl];omega))
       have KN:=Lib.hid (HO.out.trans MG.out (fun _ _=>id))
       have DN:=Lib.hid (MG.out)
       have jd:((l.drop fr).take (t-fr)).length=t-fr:=by rw [List.length_take,hdl];omega
       go_wp2_with fail
       (with_reducible refine yA.out.mono ?_)
       rintro e w4 ⟨v4,rfl,eG,o4,qJ⟩
       have qK:Hid (gN aJ 3 w4 v4 ((l.drop fr).take (t-fr))):=Lib.hid ⟨bS (enc:=aJ) (k:=3) (fun _=>rfl) eG,dQ eG⟩
       rw [jd] at eG
       have yS:=Lib.hid (bg eG)
       obtain⟨a4,c4,rfl⟩:=ownsRow_form eG
       have yT:=Lib.hid (fun q hq=>(eG.lt q hq).2)
       have qL:=Lib.hid qJ
       have hwr:wo.heap.size≤wz.heap.size:=DN.out.size
       have xE:=Lib.hid o4.size
       have wI:=Lib.hid (DN.out.trans o4 (fun _ _=>id))
       have oV:=(Only.refl (fun _=>False) w4).alloc (.cells #[(.slice a4 (t-fr) c4)] 140)
       have xg:=Lib.hid ((KN.out.trans o4 (fun _ _=>id)).trans oV (fun _ _=>id))
       have RS:=Lib.hid (wI.out.trans oV (fun _ _=>id))
       have HV:=Lib.hid oV
       have kL:=Lib.hid (aP HP.out.1 RS.out (fun _ _=>id))
       have DR:=Lib.hid (bH w4 [(.slice a4 (t-fr) c4)] 140 (0,0))
       have kM:∀u∈[(Value.slice a4 (t-fr) c4)],u.oneCell'=true:=by intro u hu;rw [List.mem_singleton.1 hu];rfl
       have hvl:vs.length≤1000000:=by
        have h1:=HP.out.2.1.len
        have h2:=congrArg List.length (fB l)
        have h3:=HP.out.2.2.1
        have h4:(gF l).length≤l.length:=uP l
        rw [h3,List.length_append] at h4
        have:=HS.out
        omega
       clear eG o4 qJ oV yA iX
       go_wp2_with (at_builtin;refine aM _ rfl _ _ 28 rfl 140 i0 _ 1 24 Tryz.underlying28 hi hz0 hz1 hz2 rfl (by decide) _ _ _ rfl kL.out ⟨w4.heap.size,0,none⟩ 1 1 [(.slice a4 (t-fr) c4)] rfl rfl DR.out kM (by unfold maxLen;omega) (by omega) ?_;intro a' c' wx hown2 hgr hmv;have HX:=Lib.hid (And.intro hown2 (And.intro hgr hmv));clear hown2 hgr hmv)
       go_roundg (l.length-t)
       case measure=>omega
       case rel=>
        obtain⟨hown2,hgr,hmv⟩:=HX.out
        obtain⟨_,hparts,hcut,hnew,iH⟩:=HP.out
        have DT:=HO.out.size
        have hs4:=xE.out
        have l6:(w4.alloc (.cells #[(.slice a4 (t-fr) c4)] 140)).heap.size=w4.heap.size+1:=by simp
        have hq:=HV.out.grown (row:=u4.ownBlock) hgr
        have iO:∀b,bI (Value.slice a4 (t-fr) c4)=some b→wz.heap.size≤b∧b<w4.heap.size:=fun b hb=>by rw [yS.out] at hb;exact⟨qL.out b hb,yT.out b hb⟩
        have jO:∀b,u4.ownBlock=some b→b<wo.heap.size:=fun b hb=>(HP.out.1.lt b hb).2
        have hgrow:∀S:Nat→Prop,(∀k,k<w4.heap.size→u4.ownBlock=some k→S k)→Only S w4 wx:=fun S hS=>(((Only.refl S w4).alloc _).grown hgr hS)
        have hgs:=(hgrow (fun k=>u4.ownBlock=some k) (fun k _ e=>e)).size
        refine⟨t,vs++[(.slice a4 (t-fr) c4)],pp++[(l.drop fr).take (t-fr)],by omega,rfl,by rw [List.length_append];exact hown2,?_,?_,xg.out.grown hgr (fun k hk e=>by have:=hnew k e;omega),fun b hb=>?_,fun v hv b hb=>?_⟩
        ·refine((hparts.only wI.out (fun v hv b hb=>id)).snoc qK.out).only (hgrow (fun k=>u4.ownBlock=some k) (fun k _ e=>e)) (fun v hv b hb e=>?_)
         rcases List.mem_append.1 hv with hv | hv
         ·exact(iH v hv b hb).2.2 e
         ·rw [List.mem_singleton.1 hv] at hb
          have:=(iO b hb).1
          have:=jO b e
          omega
        ·rw [hcut,fK (l.drop fr) (by intro q;have:=congrArg List.length q;rw [hdl] at this;simp at this;omega),p9.out,List.drop_drop,show fr+(t-fr)=t by omega]
         simp
        ·rcases hmv b hb with e | e
         ·exact hnew b e
         ·rw [l6] at e;omega
        ·have hne2:b<w4.heap.size→u4.ownBlock≠some b→(Value.slice a' (vs.length+1) c').ownBlock≠some b:=fun h1 h2 e=>by
          rcases hmv b e with e | e
          ·exact h2 e
          ·rw [l6] at e;omega
         rcases List.mem_append.1 hv with hv | hv
         ·obtain⟨f1,f2,f3⟩:=iH v hv b hb
          exact⟨f1,by omega,hne2 (by omega) f3⟩
         ·rw [List.mem_singleton.1 hv] at hb
          obtain⟨f1,f2⟩:=iO b hb
          exact⟨by omega,by omega,hne2 f2 (fun e=>by have:=jO b e;omega)⟩
     ·have hfit:¬Fits (l.drop fr) (t-fr):=fun q=>hB1 q.2.1
      have hB2:¬(t:Int)-(fr:Int)<255:=by omega
      have hce:dU (l.drop fr)=t-fr:=by rw [HT.out];exact iW _ hfit
      have p9:=Lib.hid hce
      clear hce hfit
      have iX:=Lib.hid (uO (aU HA.out (HO.out.trans jK.out (fun _ _=>id)) (fun _ _=>id)) fr (t-fr) (c-fr) (by omega))
      have yA:=Lib.hid (nC _ _ _ iX.out (by rw [List.length_take,hdl];omega))
      have KN:=Lib.hid (HO.out.trans jK.out (fun _ _=>id))
      have DN:=Lib.hid (jK.out)
      have jd:((l.drop fr).take (t-fr)).length=t-fr:=by rw [List.length_take,hdl];omega
      go_wp2_with fail
      (with_reducible refine yA.out.mono ?_)
      rintro e w4 ⟨v4,rfl,eG,o4,qJ⟩
      have qK:Hid (gN aJ 3 w4 v4 ((l.drop fr).take (t-fr))):=Lib.hid ⟨bS (enc:=aJ) (k:=3) (fun _=>rfl) eG,dQ eG⟩
      rw [jd] at eG
      have yS:=Lib.hid (bg eG)
      obtain⟨a4,c4,rfl⟩:=ownsRow_form eG
      have yT:=Lib.hid (fun q hq=>(eG.lt q hq).2)
      have qL:=Lib.hid qJ
      have hwr:wo.heap.size≤wr.heap.size:=DN.out.size
      have xE:=Lib.hid o4.size
      have wI:=Lib.hid (DN.out.trans o4 (fun _ _=>id))
      have oV:=(Only.refl (fun _=>False) w4).alloc (.cells #[(.slice a4 (t-fr) c4)] 140)
      have xg:=Lib.hid ((KN.out.trans o4 (fun _ _=>id)).trans oV (fun _ _=>id))
      have RS:=Lib.hid (wI.out.trans oV (fun _ _=>id))
      have HV:=Lib.hid oV
      have kL:=Lib.hid (aP HP.out.1 RS.out (fun _ _=>id))
      have DR:=Lib.hid (bH w4 [(.slice a4 (t-fr) c4)] 140 (0,0))
      have kM:∀u∈[(Value.slice a4 (t-fr) c4)],u.oneCell'=true:=by intro u hu;rw [List.mem_singleton.1 hu];rfl
      have hvl:vs.length≤1000000:=by
       have h1:=HP.out.2.1.len
       have h2:=congrArg List.length (fB l)
       have h3:=HP.out.2.2.1
       have h4:(gF l).length≤l.length:=uP l
       rw [h3,List.length_append] at h4
       have:=HS.out
       omega
      clear eG o4 qJ oV yA iX
      go_wp2_with (at_builtin;refine aM _ rfl _ _ 28 rfl 140 i0 _ 1 24 Tryz.underlying28 hi hz0 hz1 hz2 rfl (by decide) _ _ _ rfl kL.out ⟨w4.heap.size,0,none⟩ 1 1 [(.slice a4 (t-fr) c4)] rfl rfl DR.out kM (by unfold maxLen;omega) (by omega) ?_;intro a' c' wx hown2 hgr hmv;have HX:=Lib.hid (And.intro hown2 (And.intro hgr hmv));clear hown2 hgr hmv)
      go_roundg (l.length-t)
      case measure=>omega
      case rel=>
       obtain⟨hown2,hgr,hmv⟩:=HX.out
       obtain⟨_,hparts,hcut,hnew,iH⟩:=HP.out
       have DT:=HO.out.size
       have hs4:=xE.out
       have l6:(w4.alloc (.cells #[(.slice a4 (t-fr) c4)] 140)).heap.size=w4.heap.size+1:=by simp
       have hq:=HV.out.grown (row:=u4.ownBlock) hgr
       have iO:∀b,bI (Value.slice a4 (t-fr) c4)=some b→wr.heap.size≤b∧b<w4.heap.size:=fun b hb=>by rw [yS.out] at hb;exact⟨qL.out b hb,yT.out b hb⟩
       have jO:∀b,u4.ownBlock=some b→b<wo.heap.size:=fun b hb=>(HP.out.1.lt b hb).2
       have hgrow:∀S:Nat→Prop,(∀k,k<w4.heap.size→u4.ownBlock=some k→S k)→Only S w4 wx:=fun S hS=>(((Only.refl S w4).alloc _).grown hgr hS)
       have hgs:=(hgrow (fun k=>u4.ownBlock=some k) (fun k _ e=>e)).size
       refine⟨t,vs++[(.slice a4 (t-fr) c4)],pp++[(l.drop fr).take (t-fr)],by omega,rfl,by rw [List.length_append];exact hown2,?_,?_,xg.out.grown hgr (fun k hk e=>by have:=hnew k e;omega),fun b hb=>?_,fun v hv b hb=>?_⟩
       ·refine((hparts.only wI.out (fun v hv b hb=>id)).snoc qK.out).only (hgrow (fun k=>u4.ownBlock=some k) (fun k _ e=>e)) (fun v hv b hb e=>?_)
        rcases List.mem_append.1 hv with hv | hv
        ·exact(iH v hv b hb).2.2 e
        ·rw [List.mem_singleton.1 hv] at hb
         have:=(iO b hb).1
         have:=jO b e
         omega
       ·rw [hcut,fK (l.drop fr) (by intro q;have:=congrArg List.length q;rw [hdl] at this;simp at this;omega),p9.out,List.drop_drop,show fr+(t-fr)=t by omega]
        simp
       ·rcases hmv b hb with e | e
        ·exact hnew b e
        ·rw [l6] at e;omega
       ·have hne2:b<w4.heap.size→u4.ownBlock≠some b→(Value.slice a' (vs.length+1) c').ownBlock≠some b:=fun h1 h2 e=>by
         rcases hmv b e with e | e
         ·exact h2 e
         ·rw [l6] at e;omega
        rcases List.mem_append.1 hv with hv | hv
        ·obtain⟨f1,f2,f3⟩:=iH v hv b hb
         exact⟨f1,by omega,hne2 (by omega) f3⟩
        ·rw [List.mem_singleton.1 hv] at hb
         obtain⟨f1,f2⟩:=iO b hb
         exact⟨by omega,by omega,hne2 f2 (fun e=>by have:=jO b e;omega)⟩
    ·have hfit:¬Fits (l.drop fr) (t-fr):=fun q=>hA1 (by have:=q.1;omega)
     have hA2:¬(t:Int)<(l.length:Int):=by omega
     have hce:dU (l.drop fr)=t-fr:=by rw [HT.out];exact iW _ hfit
     have p9:=Lib.hid hce
     clear hce hfit
     have iX:=Lib.hid (uO (aU HA.out (HO.out.trans jK.out (fun _ _=>id)) (fun _ _=>id)) fr (t-fr) (c-fr) (by omega))
     have yA:=Lib.hid (nC _ _ _ iX.out (by rw [List.length_take,hdl];omega))
     have KN:=Lib.hid (HO.out.trans jK.out (fun _ _=>id))
     have DN:=Lib.hid (jK.out)
     have jd:((l.drop fr).take (t-fr)).length=t-fr:=by rw [List.length_take,hdl];omega
     go_wp2_with fail
     (with_reducible refine yA.out.mono ?_)
     rintro e w4 ⟨v4,rfl,eG,o4,qJ⟩
     have qK:Hid (gN aJ 3 w4 v4 ((l.drop fr).take (t-fr))):=Lib.hid ⟨bS (enc:=aJ) (k:=3) (fun _=>rfl) eG,dQ eG⟩
     rw [jd] at eG
     have yS:=Lib.hid (bg eG)
     obtain⟨a4,c4,rfl⟩:=ownsRow_form eG
     have yT:=Lib.hid (fun q hq=>(eG.lt q hq).2)
     have qL:=Lib.hid qJ
     have hwr:wo.heap.size≤wr.heap.size:=DN.out.size
     have xE:=Lib.hid o4.size
     have wI:=Lib.hid (DN.out.trans o4 (fun _ _=>id))
     have oV:=(Only.refl (fun _=>False) w4).alloc (.cells #[(.slice a4 (t-fr) c4)] 140)
     have xg:=Lib.hid ((KN.out.trans o4 (fun _ _=>id)).trans oV (fun _ _=>id))
     have RS:=Lib.hid (wI.out.trans oV (fun _ _=>id))
     have HV:=Lib.hid oV
     have kL:=Lib.hid (aP HP.out.1 RS.out (fun _ _=>id))
     have DR:=Lib.hid (bH w4 [(.slice a4 (t-fr) c4)] 140 (0,0))
     have kM:∀u∈[(Value.slice a4 (t-fr) c4)],u.oneCell'=true:=by intro u hu;rw [List.mem_singleton.1 hu];rfl
     have hvl:vs.length≤1000000:=by
      have h1:=HP.out.2.1.len
      have h2:=congrArg List.length (fB l)
      have h3:=HP.out.2.2.1
      have h4:(gF l).length≤l.length:=uP l
      rw [h3,List.length_append] at h4
      have:=HS.out
      omega
     clear eG o4 qJ oV yA iX
     go_wp2_with (at_builtin;refine aM _ rfl _ _ 28 rfl 140 i0 _ 1 24 Tryz.underlying28 hi hz0 hz1 hz2 rfl (by decide) _ _ _ rfl kL.out ⟨w4.heap.size,0,none⟩ 1 1 [(.slice a4 (t-fr) c4)] rfl rfl DR.out kM (by unfold maxLen;omega) (by omega) ?_;intro a' c' wx hown2 hgr hmv;have HX:=Lib.hid (And.intro hown2 (And.intro hgr hmv));clear hown2 hgr hmv)
     go_roundg (l.length-t)
     case measure=>omega
     case rel=>
      obtain⟨hown2,hgr,hmv⟩:=HX.out
      obtain⟨_,hparts,hcut,hnew,iH⟩:=HP.out
      have DT:=HO.out.size
      have hs4:=xE.out
      have l6:(w4.alloc (.cells #[(.slice a4 (t-fr) c4)] 140)).heap.size=w4.heap.size+1:=by simp
      have hq:=HV.out.grown (row:=u4.ownBlock) hgr
      have iO:∀b,bI (Value.slice a4 (t-fr) c4)=some b→wr.heap.size≤b∧b<w4.heap.size:=fun b hb=>by rw [yS.out] at hb;exact⟨qL.out b hb,yT.out b hb⟩
      have jO:∀b,u4.ownBlock=some b→b<wo.heap.size:=fun b hb=>(HP.out.1.lt b hb).2
      have hgrow:∀S:Nat→Prop,(∀k,k<w4.heap.size→u4.ownBlock=some k→S k)→Only S w4 wx:=fun S hS=>(((Only.refl S w4).alloc _).grown hgr hS)
      have hgs:=(hgrow (fun k=>u4.ownBlock=some k) (fun k _ e=>e)).size
      refine⟨t,vs++[(.slice a4 (t-fr) c4)],pp++[(l.drop fr).take (t-fr)],by omega,rfl,by rw [List.length_append];exact hown2,?_,?_,xg.out.grown hgr (fun k hk e=>by have:=hnew k e;omega),fun b hb=>?_,fun v hv b hb=>?_⟩
      ·refine((hparts.only wI.out (fun v hv b hb=>id)).snoc qK.out).only (hgrow (fun k=>u4.ownBlock=some k) (fun k _ e=>e)) (fun v hv b hb e=>?_)
       rcases List.mem_append.1 hv with hv | hv
       ·exact(iH v hv b hb).2.2 e
       ·rw [List.mem_singleton.1 hv] at hb
        have:=(iO b hb).1
        have:=jO b e
        omega
      ·rw [hcut,fK (l.drop fr) (by intro q;have:=congrArg List.length q;rw [hdl] at this;simp at this;omega),p9.out,List.drop_drop,show fr+(t-fr)=t by omega]
       simp
      ·rcases hmv b hb with e | e
       ·exact hnew b e
       ·rw [l6] at e;omega
      ·have hne2:b<w4.heap.size→u4.ownBlock≠some b→(Value.slice a' (vs.length+1) c').ownBlock≠some b:=fun h1 h2 e=>by
        rcases hmv b e with e | e
        ·exact h2 e
        ·rw [l6] at e;omega
       rcases List.mem_append.1 hv with hv | hv
       ·obtain⟨f1,f2,f3⟩:=iH v hv b hb
        exact⟨f1,by omega,hne2 (by omega) f3⟩
       ·rw [List.mem_singleton.1 hv] at hb
        obtain⟨f1,f2⟩:=iO b hb
        exact⟨by omega,by omega,hne2 f2 (fun e=>by have:=jO b e;omega)⟩
  ·obtain rfl:fr=l.length:=by omega
   have hk1:¬((l.length:Int)<(l.length:Int)):=by omega
   go_wp2_with fail
   go_ret2
   obtain⟨own,hparts,hcut,hnew,iH⟩:=HP.out
   rw [List.drop_length,gJ,List.append_nil] at hcut
   exact⟨u4,rfl,vs,own,by rw [hcut];exact hparts,HO.out,hnew,iH⟩
end Go.Proofs.YtbhiamcmiopnoaaGreatDoor
