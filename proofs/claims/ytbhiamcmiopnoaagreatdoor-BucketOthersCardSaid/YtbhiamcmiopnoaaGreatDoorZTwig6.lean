/- Package twig: children are cut into parts, none of just one. Conditions: fewer than 2^30 bytes; each child may be. -/
import Derived.Test.YtbhiamcmiopnoaaGreatDoorZTwig5
import Derived.Test.YtbhiamcmiopnoaaGreatDoorZPlain
set_option maxHeartbeats 4000000
set_option maxRecDepth 100000
namespace Go.Proofs.YtbhiamcmiopnoaaGreatDoor
open Go.RowKit
theorem rX {w:World} {g off c N:Nat} {l:List Kid} (h:bL aR 2 w (.slice (some ⟨g,off,none⟩) N c) l) (a n c':Nat) (hn:a+n≤l.length):bL aR 2 w (.slice (some ⟨g,off+a * 2,none⟩) n c') ((l.drop a).take n):=by
 have hl:((l.drop a).take n).length=n:=by rw [List.length_take,List.length_drop];omega
 have hc:∀(i:Nat) (x:Kid) (j:Nat) (u:Value),l[i]? = some x→(aR x)[j]? = some u→w.cell? ⟨g,off+(i * 2+j),none⟩=some u:=by
  cases h with
  | some _ _ _ _ hc=>exact hc
 have:=bL.some (enc:=aR) (k:=2) (w:=w) g (off+a * 2) c' ((l.drop a).take n) (fun i x j u hx hu=>by
  rw [List.getElem?_take] at hx
  split at hx
  ·rw [List.getElem?_drop] at hx
   have:=hc _ _ _ _ hx hu
   rwa [show off+((a+i) * 2+j)=off+a * 2+(i * 2+j) by omega] at this
  ·cases hx)
 rwa [hl] at this
structure l7 (w:World) (vs:List Value) (pp:List (List Kid)):Prop where
 len:vs.length=pp.length
 each:∀(k:Nat) (v:Value) (p:List Kid),vs[k]? = some v→pp[k]? = some p→gN aR 2 w v p
theorem l7.only {w w':World} {vs:List Value} {pp:List (List Kid)} {S:Nat→Prop} (h:l7 w vs pp) (ho:Only S w w') (hs:∀v∈vs,∀b,bI v=some b→¬S b):l7 w' vs pp:=
 ⟨h.len,fun k v p hv hp=>(h.each k v p hv hp).only ho (hs v (List.mem_of_getElem? hv))⟩
theorem l7.snoc {w:World} {vs:List Value} {pp:List (List Kid)} {v:Value} {p:List Kid} (h:l7 w vs pp) (hv:gN aR 2 w v p):l7 w (vs++[v]) (pp++[p]):=by
 refine⟨by simp [h.len],fun k u q hu hq=>?_⟩
 rw [List.getElem?_append] at hu hq
 rw [h.len] at hu
 split at hu
 ·rename_i hk;rw [if_pos hk] at hq;exact h.each k u q hu hq
 ·rename_i hk
  rw [if_neg hk] at hq
  rw [List.getElem?_singleton] at hu hq
  split at hu
  ·rename_i h0
   rw [if_pos h0] at hq
   cases hu;cases hq;exact hv
  ·cases hu
def fQ:List (List Kid)→Nat→List Nat
 | [],_=>[]
 | p :: pp,s=>(s+p.length) :: fQ pp (s+p.length)
theorem l9 (pp qq:List (List Kid)) (s:Nat):fQ (pp++qq) s=fQ pp s++fQ qq (s+pp.flatten.length):=by
 induction pp generalizing s with
 | nil=>rfl
 | cons p pp ih=>
  rw [List.cons_append,fQ,fQ,ih,List.flatten_cons,List.length_append,List.cons_append,Nat.add_assoc]
theorem zI (pp:List (List Kid)) (s:Nat):(fQ pp s).length=pp.length:=by
 induction pp generalizing s with
 | nil=>rfl
 | cons p pp ih=>rw [fQ,List.length_cons,ih,List.length_cons]
theorem tO (pp:List (List Kid)) (s k:Nat) (p:List Kid) (hp:pp[k]? = some p):(fQ pp s)[k]? = some (s+(pp.take k).flatten.length+p.length):=by
 induction pp generalizing s k with
 | nil=>simp at hp
 | cons q pp ih=>
  cases k with
  | zero=>
   simp only [List.getElem?_cons_zero,Option.some.injEq] at hp
   subst hp
   simp [fQ]
  | succ k=>
   rw [List.getElem?_cons_succ] at hp
   rw [fQ,List.getElem?_cons_succ,ih _ k hp,List.take_succ_cons,List.flatten_cons,List.length_append]
   congr 1
   omega
theorem zJ (qq:List (List Kid)) (a b:List Kid):eO (qq++[a,b])=qq++(if b.length=1 then [a.dropLast,a.getLast?.toList++b] else [a,b]):=by
 induction qq with
 | nil=>rfl
 | cons q qq ih=>
  cases qq with
  | nil=>rw [List.nil_append] at ih;show eO [q,a,b]=_;rw [eO,ih];rfl
  | cons r qq=>
   obtain⟨c,cs,e⟩:∃c cs,qq++[a,b]=c :: cs:=by cases qq with | nil=>exact⟨a,[b],rfl⟩ | cons c cs=>exact⟨c,cs++[a,b],rfl⟩
   show eO (q :: r :: (qq++[a,b]))=_
   rw [List.cons_append,e] at ih
   rw [e,eO,ih]
   rfl
theorem K6 (qq:List (List Kid)) (a b:List Kid) (ha:a≠[]) :
 fQ (qq ++ [a, b]) 0 = fQ qq 0 ++ [qq.flatten.length + a.length, qq.flatten.length + a.length + b.length] ∧
 fQ (eO (qq ++ [a, b])) 0 = fQ qq 0 ++ [if b.length = 1 then qq.flatten.length + a.length - 1 else qq.flatten.length + a.length, qq.flatten.length + a.length + b.length] := by
 have hl:=List.length_pos_iff.2 ha
 refine⟨by rw [l9,Nat.zero_add];rfl,?_⟩
 rw [zJ,l9,Nat.zero_add]
 split
 ·simp only [fQ,List.length_dropLast,List.getLast?_eq_some_getLast ha,Option.toList,List.length_append,List.length_cons,List.length_nil]
  congr 2
  ·omega
  ·congr 1;omega
 ·rfl
theorem NC:(Tryz.prog.info? 3).map (fun i=>(i.zero,i.size,i.bytes))=some (some (.int .i64 0),1,8):=by kernel_rfl
theorem K7:(Tryz.prog.info? 163).map (fun i=>(i.zero,i.size,i.bytes))=some (some (.slice none 0 0),1,24):=by kernel_rfl
def DY (l:List Nat):List Value:=l.map fun (n:Nat)=>.int .i64 (n:Int)
theorem Cc (pp:List (List Kid)) (l:List Kid) (h:pp.flatten=l) (k:Nat) (p:List Kid) (hp:pp[k]? = some p):(l.drop (pp.take k).flatten.length).take p.length=p∧(pp.take k).flatten.length+p.length≤l.length∧(pp.take (k+1)).flatten.length=(pp.take k).flatten.length+p.length:=by
 have hk:=(List.getElem?_eq_some_iff.1 hp).1
 have hx:pp[k]=p:=by rw [List.getElem?_eq_getElem hk] at hp;exact Option.some.inj hp
 have e:l=(pp.take k).flatten++(p++(pp.drop (k+1)).flatten):=by
  rw [←h]
  conv=>lhs;rw [←List.take_append_drop k pp]
  rw [List.flatten_append,List.drop_eq_getElem_cons hk,List.flatten_cons,hx]
 refine⟨?_,?_,?_⟩
 ·rw [e,List.drop_left,List.take_left]
 ·rw [e];simp only [List.length_append];omega
 ·rw [Fj pp k hk,List.length_append,hx]
theorem K8 (pp:List (List Kid)) (h:2≤pp.length):∃qq a b,pp=qq++[a,b]:=by
 refine⟨pp.take (pp.length-2),pp[pp.length-2],pp[pp.length-1],?_⟩
 conv=>lhs;rw [←List.take_append_drop (pp.length-2) pp]
 rw [List.drop_eq_getElem_cons (by omega),List.drop_eq_getElem_cons (by omega),List.drop_eq_nil_of_le (by omega)]
 congr 3
 congr 1
 omega
theorem FI {W W':World} {g4 N:Nat} {Q:List Nat} (hQ:Q.length=N) {A A' B:Nat} (h:∀(k e:Nat),(Q++[A,B])[k]? = some e→W.cell? ⟨g4,k,none⟩=some (.int .i64 e))
 (hN:W'.cell? ⟨g4,N,none⟩=some (.int .i64 (A':Nat))) (ho:∀k,k≠N→W'.cell? ⟨g4,k,none⟩=W.cell? ⟨g4,k,none⟩):∀(k e:Nat),(Q++[A',B])[k]? = some e→W'.cell? ⟨g4,k,none⟩=some (.int .i64 e):=by
 intro k e he
 by_cases hk:k=N
 ·subst hk
  rw [List.getElem?_append_right (by omega),hQ,Nat.sub_self] at he
  simp only [List.getElem?_cons_zero,Option.some.injEq] at he
  subst he
  exact hN
 ·rw [ho k hk]
  refine h k e ?_
  rw [List.getElem?_append] at he ⊢
  rw [hQ] at he ⊢
  split
  ·rename_i hlt;rw [if_pos hlt] at he;exact he
  ·rename_i hlt
   rw [if_neg hlt] at he
   obtain⟨j,hj⟩:∃j,k-N=j+1:=⟨k-N-1,by omega⟩
   rw [hj] at he ⊢
   exact he
theorem Nu (v:Value) (l:List Kid) (w:World) (h:gN aR 2 w v l) (hr:bJ l=true) (hs:aT l≤1000000) (h2:2≤l.length) :
 Calls Tryz.prog 217 #[v] w fun e w'=>∃V vs,e=.returned (.tuple #[V,.int .i64 0])∧w'.ownsRow 0 163 1 V vs.length vs∧l7 w' vs (bY l)∧Only (fun _=>False) w w'∧(∀b,V.ownBlock=some b→w.heap.size≤b)∧rV w w' V vs:=by
 obtain⟨i0,hi,hz0,hz1,hz2⟩:=info_parts NC
 obtain⟨j0,hj,Fw,Fx,Fy⟩:=info_parts K7
 have iT:=(aH _).1 hr
 have lX:∀x∈l,4≤Keyed.cost x:=fun x hx=>(dY (iT.1 x hx)).1
 have mH:∀x∈l,Keyed.cost x≤36:=fun x hx=>(dY (iT.1 x hx)).2
 have Gp:=Lib.hid (uM (gF l) (yJ _ lX mH) (by rw [fB];exact h2) (by rw [fB];exact mH) (qC _ fun x hx=>by have:=mH x hx;omega))
 have ED:=Lib.hid (xH l)
 have hll:=pQ l
 have HR:=Lib.hid (Ap v l w h.row (by omega))
 rw [hr] at HR
 obtain⟨hrow,hcap⟩:=h
 have hform:∃a c,v=.slice a l.length c:=by cases hrow with
  | none=>exact⟨_,_,rfl⟩
  | some g off cap=>exact⟨_,_,rfl⟩
 obtain⟨a,c,rfl⟩:=hform
 have hc1:l.length≤c:=hcap.1
 have hc2:c≤9223372036854775807:=by have:=hcap.2;unfold maxLen at this;omega
 have HA:=Lib.hid hrow
 have HS:=Lib.hid hs
 clear hrow hr hcap iT lX mH
 go_enter Tryz.func217,Tryz.ntmps217
 go_wp2_with fail
 (with_reducible refine HR.out.mono ?_)
 rintro e w1 ⟨rfl,o1⟩
 have O1:=Lib.hid o1
 clear o1 HR
 go_wp2_with fail
 go_loopg [4,5] l.length (fun gh ov fr wr=>∃(from_:Nat) (pp:List (List Kid)),gh+from_=l.length∧fr=.int .i64 from_∧wr.ownsRow 0 3 1 ov pp.length (DY (fQ pp 0))∧gF l=pp++gF (l.drop from_)∧pp.flatten.length=from_∧Only (fun _=>False) w wr∧∀b,ov.ownBlock=some b→w.heap.size≤b)
 case atStart=>exact⟨0,[],by omega,rfl,⟨rfl,.inl ⟨rfl,rfl⟩⟩,rfl,rfl,O1.out,fun b hb=>by simp [Value.ownBlock] at hb⟩
 case round=>
  obtain⟨fr,pp,hgh,rfl,own,hcut,jh,ho,hnew⟩:=hrel
  have hpl:pp.length≤1000000:=by
   have h3:=congrArg List.length hcut
   have h4:(gF l).length≤l.length:=uP l
   rw [List.length_append] at h3
   omega
  have HP:=Lib.hid (And.intro own (And.intro hcut (And.intro jh hnew)))
  have HO:=Lib.hid ho
  clear own hcut ho hnew jh
  by_cases hk:fr<l.length
  ·have hk1:(fr:Int)<(l.length:Int):=by omega
   have hw1:IntKind.i64.wrap ((fr:Int)+1)=(fr:Int)+1:=by exact IntWalk.i64_in _ (by omega)
   have hdl:(l.drop fr).length=l.length-fr:=List.length_drop
   obtain⟨g,off,rfl⟩:∃g off,a=some ⟨g,off,none⟩:=by
    have hx:l[fr]? = some l[fr]:=List.getElem?_eq_getElem hk
    obtain⟨g,off,e,_⟩:=fE HA.out hx
    exact⟨g,off,e⟩
   go_wp2_with fail
   generalize wr=wo at *
   go_loopg [6] (l.length-fr-1) (fun gh t wi=>∃t':Nat,t=.int .i64 t'∧fr<t'∧gh+t'=l.length∧dU (l.drop fr)=cutFrom (l.drop fr) ((l.drop fr).length-(t'-fr)) (t'-fr)∧Only (fun _=>False) wo wi)
   case atStart=>exact⟨fr+1,by simp,by omega,by omega,by rw [show fr+1-fr=1 by omega];rfl,Only.refl _ _⟩
   case round=>
    obtain⟨t,rfl,ht1,ht2,htc,hoi⟩:=hrel
    have HT:=Lib.hid htc
    have jK:=Lib.hid hoi
    clear htc hoi
    have ht0:(0:Int)≤(fr:Int):=by omega
    have hft:(fr:Int)≤(t:Int):=by omega
    have htc:(t:Int)≤(c:Int):=by omega
    by_cases hA1:t<l.length
    ·have hA2:(t:Int)<(l.length:Int):=by omega
     have hw2:IntKind.i64.wrap ((t:Int)-(fr:Int))=(t:Int)-(fr:Int):=by exact IntWalk.i64_in _ (by omega)
     by_cases hB1:t-fr<255
     ·have hB2:(t:Int)-(fr:Int)<255:=by omega
      have hw3:IntKind.i64.wrap ((t:Int)+1)=(t:Int)+1:=by exact IntWalk.i64_in _ (by omega)
      have UO:(fr:Int)≤(t:Int)+1:=by omega
      have UQ:(t:Int)+1≤(c:Int):=by omega
      have DL:=Lib.hid (rX (aU HA.out (HO.out.trans jK.out (fun _ _=>id)) (fun _ _=>id)) fr (t-fr+1) (c-fr) (by omega))
      have Ns:=Lib.hid (DJ _ _ _ DL.out (by have:=lQ (l.drop fr) (t-fr+1);have:=oZ l fr;have:=HS.out;omega))
      have hsub:t+1-fr=t-fr+1:=by omega
      by_cases lN:aT ((l.drop fr).take (t-fr+1))≤232
      ·have hfit:Fits (l.drop fr) (t-fr):=⟨by omega,hB1,lN⟩
       have QI:=Lib.hid (uH hfit)
       have hC2:(aT ((l.drop fr).take (t-fr+1)):Int)≤232:=by omega
       generalize aT ((l.drop fr).take (t-fr+1))=z at *
       clear hfit
       go_wp2_with fail
       (with_reducible refine Ns.out.mono ?_)
       rintro e wz ⟨rfl,oz⟩
       have MG:=Lib.hid (jK.out.trans oz (fun _ _=>id))
       clear oz
       go_wp2_with fail
       go_roundg (gk-1)
       case measure=>omega
       case rel=>exact⟨t+1,by go_num,by omega,by omega,by rw [HT.out,QI.out,hsub],MG.out⟩
      ·have hfit:¬Fits (l.drop fr) (t-fr):=fun q=>lN q.2.2
       have hC2:¬(aT ((l.drop fr).take (t-fr+1)):Int)≤232:=by omega
       generalize aT ((l.drop fr).take (t-fr+1))=z at *
       go_wp2_with fail
       (with_reducible refine Ns.out.mono ?_)
       rintro e wz ⟨rfl,oz⟩
       have MG:=Lib.hid (jK.out.trans oz (fun _ _=>id))
       clear oz Ns DL
       have hce:dU (l.drop fr)=t-fr:=by rw [HT.out];exact iW _ hfit
       have p9:=Lib.hid hce
       clear hce hfit
       have DN:=Lib.hid (HO.out.trans MG.out (fun _ _=>id))
       have DZ:=Lib.hid (aP HP.out.1 (MG.out) (fun _ _=>id))
       have oV:=(Only.refl (fun _=>False) wz).alloc (.cells #[.int .i64 (t:Int)] 3)
       have xg:=Lib.hid (DN.out.trans oV (fun _ _=>id))
       have kL:=Lib.hid (aP DZ.out oV (fun _ _=>id))
       have DR:=Lib.hid (bH wz [.int .i64 (t:Int)] 3 (0,0))
       have kM:∀u∈[Value.int .i64 (t:Int)],u.oneCell'=true:=by intro u hu;rw [List.mem_singleton.1 hu];rfl
       clear oV DZ
       go_wp2_with (at_builtin;refine aM _ rfl _ _ 57 rfl 3 i0 _ 1 8 Tryz.underlying57 hi hz0 hz1 hz2 rfl (by decide) _ _ _ rfl kL.out ⟨wz.heap.size,0,none⟩ 1 1 [.int .i64 (t:Int)] rfl rfl DR.out kM (by unfold maxLen;omega) (by omega) ?_;intro a' c' wx hown2 hgr hmv;have HX:=Lib.hid (And.intro hown2 (And.intro hgr hmv));clear hown2 hgr hmv)
       go_roundg (l.length-t)
       case measure=>omega
       case rel=>
        obtain⟨hown2,hgr,hmv⟩:=HX.out
        obtain⟨_,hcut,jh,hnew⟩:=HP.out
        have jd:((l.drop fr).take (t-fr)).length=t-fr:=by rw [List.length_take,hdl];omega
        have DT:=DN.out.size
        have l6:(wz.alloc (.cells #[.int .i64 (t:Int)] 3)).heap.size=wz.heap.size+1:=by simp
        refine⟨t,pp++[(l.drop fr).take (t-fr)],by omega,rfl,?_,?_,?_,xg.out.grown hgr (fun k hk e=>by have:=hnew k e;omega),fun b hb=>?_⟩
        ·rw [l9,Nat.zero_add,List.length_append]
         simp only [fQ,jh,jd,DY,List.map_append,List.map_cons,List.map_nil]
         rw [show fr+(t-fr)=t by omega]
         exact hown2
        ·rw [hcut,fK (l.drop fr) (by intro q;have:=congrArg List.length q;rw [hdl] at this;simp at this;omega),p9.out,List.drop_drop,show fr+(t-fr)=t by omega]
         simp
        ·rw [List.flatten_append,List.length_append,jh]
         simp only [List.flatten_cons,List.flatten_nil,List.append_nil,jd]
         omega
        ·rcases hmv b hb with e | e
         ·exact hnew b e
         ·rw [l6] at e;omega
     ·have hfit:¬Fits (l.drop fr) (t-fr):=fun q=>hB1 q.2.1
      have hB2:¬(t:Int)-(fr:Int)<255:=by omega
      have hce:dU (l.drop fr)=t-fr:=by rw [HT.out];exact iW _ hfit
      have p9:=Lib.hid hce
      clear hce hfit
      have DN:=Lib.hid (HO.out.trans jK.out (fun _ _=>id))
      have DZ:=Lib.hid (aP HP.out.1 (jK.out) (fun _ _=>id))
      have oV:=(Only.refl (fun _=>False) wr).alloc (.cells #[.int .i64 (t:Int)] 3)
      have xg:=Lib.hid (DN.out.trans oV (fun _ _=>id))
      have kL:=Lib.hid (aP DZ.out oV (fun _ _=>id))
      have DR:=Lib.hid (bH wr [.int .i64 (t:Int)] 3 (0,0))
      have kM:∀u∈[Value.int .i64 (t:Int)],u.oneCell'=true:=by intro u hu;rw [List.mem_singleton.1 hu];rfl
      clear oV DZ
      go_wp2_with (at_builtin;refine aM _ rfl _ _ 57 rfl 3 i0 _ 1 8 Tryz.underlying57 hi hz0 hz1 hz2 rfl (by decide) _ _ _ rfl kL.out ⟨wr.heap.size,0,none⟩ 1 1 [.int .i64 (t:Int)] rfl rfl DR.out kM (by unfold maxLen;omega) (by omega) ?_;intro a' c' wx hown2 hgr hmv;have HX:=Lib.hid (And.intro hown2 (And.intro hgr hmv));clear hown2 hgr hmv)
      go_roundg (l.length-t)
      case measure=>omega
      case rel=>
       obtain⟨hown2,hgr,hmv⟩:=HX.out
       obtain⟨_,hcut,jh,hnew⟩:=HP.out
       have jd:((l.drop fr).take (t-fr)).length=t-fr:=by rw [List.length_take,hdl];omega
       have DT:=DN.out.size
       have l6:(wr.alloc (.cells #[.int .i64 (t:Int)] 3)).heap.size=wr.heap.size+1:=by simp
       refine⟨t,pp++[(l.drop fr).take (t-fr)],by omega,rfl,?_,?_,?_,xg.out.grown hgr (fun k hk e=>by have:=hnew k e;omega),fun b hb=>?_⟩
       ·rw [l9,Nat.zero_add,List.length_append]
        simp only [fQ,jh,jd,DY,List.map_append,List.map_cons,List.map_nil]
        rw [show fr+(t-fr)=t by omega]
        exact hown2
       ·rw [hcut,fK (l.drop fr) (by intro q;have:=congrArg List.length q;rw [hdl] at this;simp at this;omega),p9.out,List.drop_drop,show fr+(t-fr)=t by omega]
        simp
       ·rw [List.flatten_append,List.length_append,jh]
        simp only [List.flatten_cons,List.flatten_nil,List.append_nil,jd]
        omega
       ·rcases hmv b hb with e | e
        ·exact hnew b e
        ·rw [l6] at e;omega
    ·have hfit:¬Fits (l.drop fr) (t-fr):=fun q=>hA1 (by have:=q.1;omega)
     have hA2:¬(t:Int)<(l.length:Int):=by omega
     have hce:dU (l.drop fr)=t-fr:=by rw [HT.out];exact iW _ hfit
     have p9:=Lib.hid hce
     clear hce hfit
     have DN:=Lib.hid (HO.out.trans jK.out (fun _ _=>id))
     have DZ:=Lib.hid (aP HP.out.1 (jK.out) (fun _ _=>id))
     have oV:=(Only.refl (fun _=>False) wr).alloc (.cells #[.int .i64 (t:Int)] 3)
     have xg:=Lib.hid (DN.out.trans oV (fun _ _=>id))
     have kL:=Lib.hid (aP DZ.out oV (fun _ _=>id))
     have DR:=Lib.hid (bH wr [.int .i64 (t:Int)] 3 (0,0))
     have kM:∀u∈[Value.int .i64 (t:Int)],u.oneCell'=true:=by intro u hu;rw [List.mem_singleton.1 hu];rfl
     clear oV DZ
     go_wp2_with (at_builtin;refine aM _ rfl _ _ 57 rfl 3 i0 _ 1 8 Tryz.underlying57 hi hz0 hz1 hz2 rfl (by decide) _ _ _ rfl kL.out ⟨wr.heap.size,0,none⟩ 1 1 [.int .i64 (t:Int)] rfl rfl DR.out kM (by unfold maxLen;omega) (by omega) ?_;intro a' c' wx hown2 hgr hmv;have HX:=Lib.hid (And.intro hown2 (And.intro hgr hmv));clear hown2 hgr hmv)
     go_roundg (l.length-t)
     case measure=>omega
     case rel=>
      obtain⟨hown2,hgr,hmv⟩:=HX.out
      obtain⟨_,hcut,jh,hnew⟩:=HP.out
      have jd:((l.drop fr).take (t-fr)).length=t-fr:=by rw [List.length_take,hdl];omega
      have DT:=DN.out.size
      have l6:(wr.alloc (.cells #[.int .i64 (t:Int)] 3)).heap.size=wr.heap.size+1:=by simp
      refine⟨t,pp++[(l.drop fr).take (t-fr)],by omega,rfl,?_,?_,?_,xg.out.grown hgr (fun k hk e=>by have:=hnew k e;omega),fun b hb=>?_⟩
      ·rw [l9,Nat.zero_add,List.length_append]
       simp only [fQ,jh,jd,DY,List.map_append,List.map_cons,List.map_nil]
       rw [show fr+(t-fr)=t by omega]
       exact hown2
      ·rw [hcut,fK (l.drop fr) (by intro q;have:=congrArg List.length q;rw [hdl] at this;simp at this;omega),p9.out,List.drop_drop,show fr+(t-fr)=t by omega]
       simp
      ·rw [List.flatten_append,List.length_append,jh]
       simp only [List.flatten_cons,List.flatten_nil,List.append_nil,jd]
       omega
      ·rcases hmv b hb with e | e
       ·exact hnew b e
       ·rw [l6] at e;omega
  ·obtain rfl:fr=l.length:=by omega
   have hk1:¬((l.length:Int)<(l.length:Int)):=by omega
   obtain⟨g,off,rfl⟩:∃g off,a=some ⟨g,off,none⟩:=by
    have hx:l[0]? = some l[0]:=List.getElem?_eq_getElem (by omega)
    obtain⟨g,off,e,_⟩:=fE HA.out hx
    exact⟨g,off,e⟩
   obtain⟨own,hcut,jh,hnew⟩:=HP.out
   rw [List.drop_length,gJ,List.append_nil] at hcut
   have FC:=Gp.out
   rw [fB] at FC
   change (bY l).flatten=_∧(bY l).length=_∧_ at FC
   rw [hcut] at FC
   have Qc:=Lib.hid FC.1
   have y5:=Lib.hid FC.2.1
   have U5:=Lib.hid FC.2.2.1
   have hpe:bY l=eO pp:=by rw [←hcut];rfl
   have U6:=Lib.hid hpe
   have ND:∀x∈pp,x≠[]:=fun x hx=>ED.out x (by rw [hcut];exact hx)
   have Sb:1≤pp.length:=by
    cases pp with
    | nil=>simp at jh;omega
    | cons _ _=>simp
   obtain⟨g4,c4,rfl,Sc⟩:∃g4 c4,u4=.slice (some ⟨g4,0,none⟩) pp.length c4∧pp.length≤c4:=by
    rcases own.2 with ⟨_,h0⟩ |⟨g4,c4,_,rfl,_,_,h1,_⟩
    ·omega
    ·exact⟨g4,c4,rfl,h1⟩
   have hcell:∀(k e:Nat),(fQ pp 0)[k]? = some e→wr.cell? ⟨g4,k,none⟩=some (.int .i64 e):=fun k e he=>aZ own k _ (by unfold DY;rw [List.getElem?_map,he];rfl)
   have hnw:w.heap.size≤g4:=hnew g4 rfl
   have hz:=fun j=>eF own j
   have qQ:=Lib.hid hcell
   have zG:=Lib.hid hnw
   clear own hcell hnew hnw ED Gp
   by_cases U7:2≤pp.length
   ·obtain⟨qq,x,y,rfl⟩:=K8 pp U7
    have hx:=List.length_pos_iff.2 (ND x (by simp))
    have hy:=List.length_pos_iff.2 (ND y (by simp))
    obtain⟨e1,e2⟩:=K6 qq x y (List.length_pos_iff.1 hx)
    rw [←hpe] at e2
    rw [e1] at qQ
    have QD:(fQ qq 0).length=qq.length:=zI qq 0
    have hcA:=qQ.out qq.length (qq.flatten.length+x.length) (by rw [List.getElem?_append_right (by omega),QD,Nat.sub_self];rfl)
    have hcB:=qQ.out (qq.length+1) (qq.flatten.length+x.length+y.length) (by rw [List.getElem?_append_right (by omega),QD,Nat.add_sub_cancel_left];rfl)
    have hlp:(qq++[x,y]).length=qq.length+2:=by simp
    rw [hlp] at y5 hpl Sc Sb
    rw [hlp]
    have XR:qq.flatten.length+x.length+y.length≤l.length:=by
     rw [←jh,List.flatten_append];simp;omega
    have Qy:1≤qq.flatten.length+x.length:=by omega
    have HE2:=Lib.hid e2
    have U8:=Lib.hid QD
    clear e1 e2 QD hpe jh hcut ND U7 hlp FC
    generalize hN:qq.length=N at *
    generalize qq.flatten.length+x.length=A at *
    have hw4:IntKind.i64.wrap ((N:Int)+2-1)=(N:Int)+1:=by rw [show (N:Int)+2-1=(N:Int)+1 by omega];exact IntWalk.i64_in _ (by omega)
    have XL:IntKind.i64.wrap ((N:Int)+2-2)=(N:Int):=by rw [show (N:Int)+2-2=(N:Int) by omega];exact IntWalk.i64_in _ (by omega)
    have Yz:IntKind.i64.wrap (N:Int)=(N:Int):=by exact IntWalk.i64_in _ (by omega)
    have hn1:(0:Int)≤(N:Int)+1:=by omega
    have hn2:(N:Int)+1<(N:Int)+2:=by omega
    have YA:(N:Int)<(N:Int)+2:=by omega
    have TH:((N:Int)+1).toNat=N+1:=by omega
    have rU:(1:Int)<(N:Int)+2:=by omega
    by_cases hy1:y.length=1
    ·rw [if_pos hy1] at HE2
     rw [hy1] at hcB XR HE2 qQ
     have HY:=Lib.hid hy1
     have hw7:IntKind.i64.wrap ((A:Int)+1-(A:Int))=1:=by rw [show (A:Int)+1-(A:Int)=1 by omega];rfl
     have hw8:IntKind.i64.wrap 1=1:=rfl
     have Uj:(A:Int)+1-(A:Int)=1:=by omega
     clear hy1 hy hx
     go_wp2_with fail
     have q0:∀p:fu wr,p.u.cell? ⟨g4,N,none⟩=some (.int .i64 A):=fun p=>p.cell hcA
     have q1:∀p:fu wr,p.u.cell? ⟨g4,N+1,none⟩=some (.int .i64 (A+1:Nat)):=fun p=>p.cell hcB
     refine bD (by kernel_rfl) (by kernel_rfl) (fun _W h0 h1=>?_)
     repeat (refine h1 _ _ _ (fun K hK=>?_);go_simp;refine hK _ ?_;clear hK K)
     refine h0 _ (fun p=>?_)
     clear h0 h1
     have o3:=Lib.hid p.h
     have a0:=q0 p
     clear q0 q1
     generalize p.u=w3 at *
     have z3:w3.frozen? ⟨g4,N,none⟩=false:=(o3.out.frozen (p:=⟨g4,N,none⟩) (lt_of_cell hcA) id).trans (hz N)
     have Rv:IntKind.i64.wrap ((A:Int)-1)=((A-1:Nat):Int):=by rw [show (A:Int)-1=((A-1:Nat):Int) by omega];exact IntWalk.i64_in _ (by omega)
     have mO:=Lib.hid ((HO.out.trans o3.out (fun _ _=>id)).setCell (p:=⟨g4,N,none⟩) (fun hlt=>absurd hlt (Nat.not_lt.2 zG.out)) (.int .i64 ((A-1:Nat):Int)))
     have IX:=Lib.hid (FI (W':=w3.setCell ⟨g4,N,none⟩ (.int .i64 ((A-1:Nat):Int))) U8.out qQ.out (jV a0 _) (fun k hk=>by
      rw [World.cell?_setCell_other _ ⟨g4,N,none⟩ ⟨g4,k,none⟩ _ (oC _ _ _ (Ne.symm hk))]
      exact o3.out.cell (p:=⟨g4,k,none⟩) (lt_of_cell hcA) id))
     rw [←HE2.out] at IX
     clear HE2 U8 qQ hcA hcB o3
     go_wp2_with fail
     go_loopg [8,9,74] (bY l).length (fun gh ov fr ix wr=>∃(k:Nat) (vs:List Value),gh+k=(bY l).length∧ix=.int .i64 k∧fr=.int .i64 ((bY l).take k).flatten.length∧wr.ownsRow 0 163 1 ov vs.length vs∧l7 wr vs ((bY l).take k)∧Only (fun _=>False) (w3.setCell ⟨g4,N,none⟩ (.int .i64 ((A-1:Nat):Int))) wr∧(∀b,ov.ownBlock=some b→(w3.setCell ⟨g4,N,none⟩ (.int .i64 ((A-1:Nat):Int))).heap.size≤b)∧rV w wr ov vs)
     case atStart=>exact⟨0,[],by omega,rfl,rfl,⟨rfl,.inl ⟨rfl,rfl⟩⟩,⟨rfl,fun k v p hv _=>by simp at hv⟩,Only.refl _ _,fun b hb=>by simp [Value.ownBlock] at hb,fun v hv=>by cases hv⟩
     case round=>
      obtain⟨k,vs,hgh,rfl,rfl,own,hparts,ho,hnew,iH⟩:=hrel
      have HP:=Lib.hid (And.intro own (And.intro hparts (And.intro hnew iH)))
      have jK:=Lib.hid ho
      clear own hparts ho hnew iH
      have HM:=y5.out
      have Q6:(bY l).length≤1000000:=by omega
      by_cases hk:k<(bY l).length
      ·have hk1:(k:Int)<((N:Int)+2):=by omega
       obtain⟨p,hp⟩:∃p,(bY l)[k]? = some p:=⟨_,List.getElem?_eq_getElem hk⟩
       have hp2:2≤p.length:=U5.out p (by rw [←U6.out];exact List.mem_of_getElem? hp)
       obtain⟨Ar,OU,Au⟩:=Cc (bY l) l Qc.out k p hp
       have hce:=(IX.out k _ (tO (bY l) 0 k p hp))
       have hcr:wr.cell? ⟨g4,k,none⟩=some (.int .i64 (((bY l).take k).flatten.length+p.length:Nat)):=by
        rw [Nat.zero_add] at hce
        exact(jK.out.cell (p:=⟨g4,k,none⟩) (lt_of_cell hce) id).trans hce
       clear hce
       obtain⟨fr,hfr⟩:∃fr,((bY l).take k).flatten.length=fr:=⟨_,rfl⟩
       rw [hfr] at Ar OU Au hcr
       have QF:=Lib.hid hfr
       rw [hfr]
       clear hfr
       obtain⟨t,ht⟩:∃t,fr+p.length=t:=⟨_,rfl⟩
       rw [ht] at OU Au hcr
       have GR:p.length=t-fr:=by omega
       have Sd:fr<t:=by omega
       have hfl:fr<l.length:=by omega
       have hfc:fr<c:=by omega
       have Sg:(fr:Int)<(c:Int):=by omega
       rw [GR] at Ar
       have K9:=Lib.hid (And.intro Ar (And.intro Au GR))
       clear Ar Au GR ht hp2 HM
       have ht0:(0:Int)≤(fr:Int):=by omega
       have hft:(fr:Int)≤(t:Int):=by omega
       have htc:(t:Int)≤(c:Int):=by omega
       have hw2:IntKind.i64.wrap ((k:Int)+1)=(k:Int)+1:=by have:=HS.out;have:=y5.out;exact IntWalk.i64_in _ (by omega)
       have iX:=Lib.hid (rX (aU HA.out (mO.out.trans jK.out (fun _ _=>id)) (fun _ _=>id)) fr (t-fr) (c-fr) (by omega))
       have yA:=Lib.hid (iE _ _ _ iX.out (by rw [List.length_take,List.length_drop];omega))
       have jd:((l.drop fr).take (t-fr)).length=t-fr:=by rw [List.length_take,List.length_drop];omega
       go_wp2_with fail
       (with_reducible refine yA.out.mono ?_)
       rintro e w4 ⟨v4,rfl,eG,o4,qJ⟩
       have qK:Hid (gN aR 2 w4 v4 ((l.drop fr).take (t-fr))):=Lib.hid ⟨bS (enc:=aR) (k:=2) (fun _=>rfl) eG,dQ eG⟩
       rw [jd] at eG
       have yS:=Lib.hid (bg eG)
       obtain⟨a4,c4,rfl⟩:=ownsRow_form eG
       have yT:=Lib.hid (fun q hq=>(eG.lt q hq).2)
       have qL:=Lib.hid qJ
       have xE:=Lib.hid o4.size
       have Si:=Lib.hid o4
       have KN:=Lib.hid (mO.out.trans jK.out (fun _ _=>id))
       have oV:=(Only.refl (fun _=>False) w4).alloc (.cells #[(.slice a4 (t-fr) c4)] 163)
       have xg:=Lib.hid ((jK.out.trans o4 (fun _ _=>id)).trans oV (fun _ _=>id))
       have La:=Lib.hid (o4.trans oV (fun _ _=>id))
       have kL:=Lib.hid (aP HP.out.1 La.out (fun _ _=>id))
       have DR:=Lib.hid (bH w4 [(.slice a4 (t-fr) c4)] 163 (0,0))
       have kM:∀u∈[(Value.slice a4 (t-fr) c4)],u.oneCell'=true:=by intro u hu;rw [List.mem_singleton.1 hu];rfl
       have hvl:vs.length≤1000000:=by
        have h1:=HP.out.2.1.len
        rw [List.length_take] at h1
        have:=HS.out
        have:=y5.out
        omega
       clear eG o4 qJ oV yA iX
       go_wp2_with (at_builtin;refine aM _ rfl _ _ 29 rfl 163 j0 _ 1 24 Tryz.underlying29 hj Fw Fx Fy rfl (by decide) _ _ _ rfl kL.out ⟨w4.heap.size,0,none⟩ 1 1 [(.slice a4 (t-fr) c4)] rfl rfl DR.out kM (by unfold maxLen;omega) (by omega) ?_;intro a' c' wx hown2 hgr hmv;have HX:=Lib.hid (And.intro hown2 (And.intro hgr hmv));clear hown2 hgr hmv)
       go_roundg (gk-1)
       case measure=>omega
       case rel=>
        obtain⟨hown2,hgr,hmv⟩:=HX.out
        obtain⟨_,hparts,hnew,iH⟩:=HP.out
        obtain⟨Ar,Au,GR⟩:=K9.out
        have DT:=KN.out.size
        have hs4:=xE.out
        have l6:(w4.alloc (.cells #[(.slice a4 (t-fr) c4)] 163)).heap.size=w4.heap.size+1:=by simp
        have iO:∀b,bI (Value.slice a4 (t-fr) c4)=some b→wr.heap.size≤b∧b<w4.heap.size:=fun b hb=>by rw [yS.out] at hb;exact⟨qL.out b hb,yT.out b hb⟩
        have jO:∀b,u8.ownBlock=some b→b<wr.heap.size:=fun b hb=>(HP.out.1.lt b hb).2
        have hgrow:∀S:Nat→Prop,(∀k,k<w4.heap.size→u8.ownBlock=some k→S k)→Only S w4 wx:=fun S hS=>(((Only.refl S w4).alloc _).grown hgr hS)
        have hgs:=(hgrow (fun k=>u8.ownBlock=some k) (fun k _ e=>e)).size
        refine⟨k+1,vs++[(.slice a4 (t-fr) c4)],by omega,rfl,by rw [Au],by rw [List.length_append];exact hown2,?_,?_,fun b hb=>?_,fun v hv b hb=>?_⟩
        ·rw [List.take_add_one,hp,Option.toList]
         rw [←Ar]
         refine((hparts.only Si.out (fun v hv b hb=>id)).snoc qK.out).only (hgrow (fun k=>u8.ownBlock=some k) (fun k _ e=>e)) (fun v hv b hb e=>?_)
         rcases List.mem_append.1 hv with hv | hv
         ·exact(iH v hv b hb).2.2 e
         ·rw [List.mem_singleton.1 hv] at hb
          have:=(iO b hb).1
          have:=jO b e
          omega
        ·exact xg.out.grown hgr (fun k hk e=>by have:=hnew k e;omega)
        ·rcases hmv b hb with e | e
         ·exact hnew b e
         ·have:=jK.out.size;rw [l6] at e;omega
        ·have hne2:b<w4.heap.size→u8.ownBlock≠some b→(Value.slice a' (vs.length+1) c').ownBlock≠some b:=fun h1 h2 e=>by
          rcases hmv b e with e | e
          ·exact h2 e
          ·rw [l6] at e;omega
         rcases List.mem_append.1 hv with hv | hv
         ·obtain⟨f1,f2,f3⟩:=iH v hv b hb
          exact⟨f1,by omega,hne2 (by omega) f3⟩
         ·rw [List.mem_singleton.1 hv] at hb
          obtain⟨f1,f2⟩:=iO b hb
          exact⟨by omega,by omega,hne2 f2 (fun e=>by have:=jO b e;omega)⟩
      ·obtain rfl:k=(bY l).length:=by omega
       have hk1:¬(((bY l).length:Nat):Int)<((N:Int)+2):=by omega
       go_wp2_with fail
       go_ret2
       obtain⟨own,hparts,hnew,iH⟩:=HP.out
       rw [List.take_length] at hparts
       exact⟨u8,rfl,vs,own,hparts,mO.out.trans jK.out (fun _ _=>id),fun b hb=>Nat.le_trans mO.out.size (hnew b hb),iH⟩
    ·rw [if_neg hy1] at HE2
     have hy2:¬(((A+y.length:Nat):Int)-(A:Int)=1):=by omega
     have hw7:IntKind.i64.wrap (((A+y.length:Nat):Int)-(A:Int))=((A+y.length:Nat):Int)-(A:Int):=by exact IntWalk.i64_in _ (by omega)
     generalize A+y.length=B at *
     clear hy1 hy hx
     go_wp2_with fail
     have q0:∀p:fu wr,p.u.cell? ⟨g4,N,none⟩=some (.int .i64 A):=fun p=>p.cell hcA
     have q1:∀p:fu wr,p.u.cell? ⟨g4,N+1,none⟩=some (.int .i64 B):=fun p=>p.cell hcB
     refine bD (by kernel_rfl) (by kernel_rfl) (fun _W h0 h1=>?_)
     repeat (refine h1 _ _ _ (fun K hK=>?_);go_simp;refine hK _ ?_;clear hK K)
     refine h0 _ (fun p=>?_)
     clear h0 h1
     have o3:=Lib.hid p.h
     clear q0 q1
     generalize p.u=w3 at *
     have mO:=Lib.hid (HO.out.trans o3.out (fun _ _=>id))
     have IX:Hid (∀(k e:Nat),(fQ (bY l) 0)[k]? = some e→w3.cell? ⟨g4,k,none⟩=some (.int .i64 e)):=Lib.hid (fun k e he=>(o3.out.cell (p:=⟨g4,k,none⟩) (lt_of_cell hcA) id).trans (qQ.out k e (by rw [←HE2.out];exact he)))
     clear HE2 U8 qQ hcA hcB o3
     rw [show ((B:Int)-(A:Int) == 1)=false from beq_eq_false_iff_ne.2 hy2]
     clear hy2 hw7
     go_wp2_with fail
     go_loopg [8,9,74] (bY l).length (fun gh ov fr ix wr=>∃(k:Nat) (vs:List Value),gh+k=(bY l).length∧ix=.int .i64 k∧fr=.int .i64 ((bY l).take k).flatten.length∧wr.ownsRow 0 163 1 ov vs.length vs∧l7 wr vs ((bY l).take k)∧Only (fun _=>False) w3 wr∧(∀b,ov.ownBlock=some b→w3.heap.size≤b)∧rV w wr ov vs)
     case atStart=>exact⟨0,[],by omega,rfl,rfl,⟨rfl,.inl ⟨rfl,rfl⟩⟩,⟨rfl,fun k v p hv _=>by simp at hv⟩,Only.refl _ _,fun b hb=>by simp [Value.ownBlock] at hb,fun v hv=>by cases hv⟩
     case round=>
      obtain⟨k,vs,hgh,rfl,rfl,own,hparts,ho,hnew,iH⟩:=hrel
      have HP:=Lib.hid (And.intro own (And.intro hparts (And.intro hnew iH)))
      have jK:=Lib.hid ho
      clear own hparts ho hnew iH
      have HM:=y5.out
      have Q6:(bY l).length≤1000000:=by omega
      by_cases hk:k<(bY l).length
      ·have hk1:(k:Int)<((N:Int)+2):=by omega
       obtain⟨p,hp⟩:∃p,(bY l)[k]? = some p:=⟨_,List.getElem?_eq_getElem hk⟩
       have hp2:2≤p.length:=U5.out p (by rw [←U6.out];exact List.mem_of_getElem? hp)
       obtain⟨Ar,OU,Au⟩:=Cc (bY l) l Qc.out k p hp
       have hce:=(IX.out k _ (tO (bY l) 0 k p hp))
       have hcr:wr.cell? ⟨g4,k,none⟩=some (.int .i64 (((bY l).take k).flatten.length+p.length:Nat)):=by
        rw [Nat.zero_add] at hce
        exact(jK.out.cell (p:=⟨g4,k,none⟩) (lt_of_cell hce) id).trans hce
       clear hce
       obtain⟨fr,hfr⟩:∃fr,((bY l).take k).flatten.length=fr:=⟨_,rfl⟩
       rw [hfr] at Ar OU Au hcr
       have QF:=Lib.hid hfr
       rw [hfr]
       clear hfr
       obtain⟨t,ht⟩:∃t,fr+p.length=t:=⟨_,rfl⟩
       rw [ht] at OU Au hcr
       have GR:p.length=t-fr:=by omega
       have Sd:fr<t:=by omega
       have hfl:fr<l.length:=by omega
       have hfc:fr<c:=by omega
       have Sg:(fr:Int)<(c:Int):=by omega
       rw [GR] at Ar
       have K9:=Lib.hid (And.intro Ar (And.intro Au GR))
       clear Ar Au GR ht hp2 HM
       have ht0:(0:Int)≤(fr:Int):=by omega
       have hft:(fr:Int)≤(t:Int):=by omega
       have htc:(t:Int)≤(c:Int):=by omega
       have hw2:IntKind.i64.wrap ((k:Int)+1)=(k:Int)+1:=by have:=HS.out;have:=y5.out;exact IntWalk.i64_in _ (by omega)
       have iX:=Lib.hid (rX (aU HA.out (mO.out.trans jK.out (fun _ _=>id)) (fun _ _=>id)) fr (t-fr) (c-fr) (by omega))
       have yA:=Lib.hid (iE _ _ _ iX.out (by rw [List.length_take,List.length_drop];omega))
       have jd:((l.drop fr).take (t-fr)).length=t-fr:=by rw [List.length_take,List.length_drop];omega
       go_wp2_with fail
       (with_reducible refine yA.out.mono ?_)
       rintro e w4 ⟨v4,rfl,eG,o4,qJ⟩
       have qK:Hid (gN aR 2 w4 v4 ((l.drop fr).take (t-fr))):=Lib.hid ⟨bS (enc:=aR) (k:=2) (fun _=>rfl) eG,dQ eG⟩
       rw [jd] at eG
       have yS:=Lib.hid (bg eG)
       obtain⟨a4,c4,rfl⟩:=ownsRow_form eG
       have yT:=Lib.hid (fun q hq=>(eG.lt q hq).2)
       have qL:=Lib.hid qJ
       have xE:=Lib.hid o4.size
       have Si:=Lib.hid o4
       have KN:=Lib.hid (mO.out.trans jK.out (fun _ _=>id))
       have oV:=(Only.refl (fun _=>False) w4).alloc (.cells #[(.slice a4 (t-fr) c4)] 163)
       have xg:=Lib.hid ((jK.out.trans o4 (fun _ _=>id)).trans oV (fun _ _=>id))
       have La:=Lib.hid (o4.trans oV (fun _ _=>id))
       have kL:=Lib.hid (aP HP.out.1 La.out (fun _ _=>id))
       have DR:=Lib.hid (bH w4 [(.slice a4 (t-fr) c4)] 163 (0,0))
       have kM:∀u∈[(Value.slice a4 (t-fr) c4)],u.oneCell'=true:=by intro u hu;rw [List.mem_singleton.1 hu];rfl
       have hvl:vs.length≤1000000:=by
        have h1:=HP.out.2.1.len
        rw [List.length_take] at h1
        have:=HS.out
        have:=y5.out
        omega
       clear eG o4 qJ oV yA iX
       go_wp2_with (at_builtin;refine aM _ rfl _ _ 29 rfl 163 j0 _ 1 24 Tryz.underlying29 hj Fw Fx Fy rfl (by decide) _ _ _ rfl kL.out ⟨w4.heap.size,0,none⟩ 1 1 [(.slice a4 (t-fr) c4)] rfl rfl DR.out kM (by unfold maxLen;omega) (by omega) ?_;intro a' c' wx hown2 hgr hmv;have HX:=Lib.hid (And.intro hown2 (And.intro hgr hmv));clear hown2 hgr hmv)
       go_roundg (gk-1)
       case measure=>omega
       case rel=>
        obtain⟨hown2,hgr,hmv⟩:=HX.out
        obtain⟨_,hparts,hnew,iH⟩:=HP.out
        obtain⟨Ar,Au,GR⟩:=K9.out
        have DT:=KN.out.size
        have hs4:=xE.out
        have l6:(w4.alloc (.cells #[(.slice a4 (t-fr) c4)] 163)).heap.size=w4.heap.size+1:=by simp
        have iO:∀b,bI (Value.slice a4 (t-fr) c4)=some b→wr.heap.size≤b∧b<w4.heap.size:=fun b hb=>by rw [yS.out] at hb;exact⟨qL.out b hb,yT.out b hb⟩
        have jO:∀b,u8.ownBlock=some b→b<wr.heap.size:=fun b hb=>(HP.out.1.lt b hb).2
        have hgrow:∀S:Nat→Prop,(∀k,k<w4.heap.size→u8.ownBlock=some k→S k)→Only S w4 wx:=fun S hS=>(((Only.refl S w4).alloc _).grown hgr hS)
        have hgs:=(hgrow (fun k=>u8.ownBlock=some k) (fun k _ e=>e)).size
        refine⟨k+1,vs++[(.slice a4 (t-fr) c4)],by omega,rfl,by rw [Au],by rw [List.length_append];exact hown2,?_,?_,fun b hb=>?_,fun v hv b hb=>?_⟩
        ·rw [List.take_add_one,hp,Option.toList]
         rw [←Ar]
         refine((hparts.only Si.out (fun v hv b hb=>id)).snoc qK.out).only (hgrow (fun k=>u8.ownBlock=some k) (fun k _ e=>e)) (fun v hv b hb e=>?_)
         rcases List.mem_append.1 hv with hv | hv
         ·exact(iH v hv b hb).2.2 e
         ·rw [List.mem_singleton.1 hv] at hb
          have:=(iO b hb).1
          have:=jO b e
          omega
        ·exact xg.out.grown hgr (fun k hk e=>by have:=hnew k e;omega)
        ·rcases hmv b hb with e | e
         ·exact hnew b e
         ·have:=jK.out.size;rw [l6] at e;omega
        ·have hne2:b<w4.heap.size→u8.ownBlock≠some b→(Value.slice a' (vs.length+1) c').ownBlock≠some b:=fun h1 h2 e=>by
          rcases hmv b e with e | e
          ·exact h2 e
          ·rw [l6] at e;omega
         rcases List.mem_append.1 hv with hv | hv
         ·obtain⟨f1,f2,f3⟩:=iH v hv b hb
          exact⟨f1,by omega,hne2 (by omega) f3⟩
         ·rw [List.mem_singleton.1 hv] at hb
          obtain⟨f1,f2⟩:=iO b hb
          exact⟨by omega,by omega,hne2 f2 (fun e=>by have:=jO b e;omega)⟩
      ·obtain rfl:k=(bY l).length:=by omega
       have hk1:¬(((bY l).length:Nat):Int)<((N:Int)+2):=by omega
       go_wp2_with fail
       go_ret2
       obtain⟨own,hparts,hnew,iH⟩:=HP.out
       rw [List.take_length] at hparts
       exact⟨u8,rfl,vs,own,hparts,mO.out.trans jK.out (fun _ _=>id),fun b hb=>Nat.le_trans mO.out.size (hnew b hb),iH⟩
   ·have hp1:pp.length=1:=by omega
    have hcp:bY l=pp:=by
     rw [hpe]
     match pp,hp1 with
     | [_],_=>rfl
    rw [hp1] at y5
    rw [←hcp] at qQ
    have hp1':=hp1
    rw [hp1]
    clear hcp hpe jh hcut ND U7 FC hpl Sb
    rw [hp1] at Sc
    clear hp1 hp1'
    go_wp2_with fail
    refine bD (by kernel_rfl) (by kernel_rfl) (fun _W h0 h1=>?_)
    repeat (refine h1 _ _ _ (fun K hK=>?_);go_simp;refine hK _ ?_;clear hK K)
    refine h0 _ (fun p=>?_)
    clear h0 h1
    have o3:=Lib.hid p.h
    generalize p.u=w3 at *
    have mO:=Lib.hid (HO.out.trans o3.out (fun _ _=>id))
    have IX:Hid (∀(k e:Nat),(fQ (bY l) 0)[k]? = some e→w3.cell? ⟨g4,k,none⟩=some (.int .i64 e)):=Lib.hid (fun k e he=>by
     have:=qQ.out k e he
     exact(o3.out.cell (p:=⟨g4,k,none⟩) (lt_of_cell this) id).trans this)
    clear qQ o3
    go_wp2_with fail
    go_loopg [8,9,74] (bY l).length (fun gh ov fr ix wr=>∃(k:Nat) (vs:List Value),gh+k=(bY l).length∧ix=.int .i64 k∧fr=.int .i64 ((bY l).take k).flatten.length∧wr.ownsRow 0 163 1 ov vs.length vs∧l7 wr vs ((bY l).take k)∧Only (fun _=>False) w3 wr∧(∀b,ov.ownBlock=some b→w3.heap.size≤b)∧rV w wr ov vs)
    case atStart=>exact⟨0,[],by omega,rfl,rfl,⟨rfl,.inl ⟨rfl,rfl⟩⟩,⟨rfl,fun k v p hv _=>by simp at hv⟩,Only.refl _ _,fun b hb=>by simp [Value.ownBlock] at hb,fun v hv=>by cases hv⟩
    case round=>
     obtain⟨k,vs,hgh,rfl,rfl,own,hparts,ho,hnew,iH⟩:=hrel
     have HP:=Lib.hid (And.intro own (And.intro hparts (And.intro hnew iH)))
     have jK:=Lib.hid ho
     clear own hparts ho hnew iH
     have HM:=y5.out
     have Q6:(bY l).length≤1000000:=by omega
     by_cases hk:k<(bY l).length
     ·have hk1:(k:Int)<(1:Int):=by omega
      obtain⟨p,hp⟩:∃p,(bY l)[k]? = some p:=⟨_,List.getElem?_eq_getElem hk⟩
      have hp2:2≤p.length:=U5.out p (by rw [←U6.out];exact List.mem_of_getElem? hp)
      obtain⟨Ar,OU,Au⟩:=Cc (bY l) l Qc.out k p hp
      have hce:=(IX.out k _ (tO (bY l) 0 k p hp))
      have hcr:wr.cell? ⟨g4,k,none⟩=some (.int .i64 (((bY l).take k).flatten.length+p.length:Nat)):=by
       rw [Nat.zero_add] at hce
       exact(jK.out.cell (p:=⟨g4,k,none⟩) (lt_of_cell hce) id).trans hce
      clear hce
      obtain⟨fr,hfr⟩:∃fr,((bY l).take k).flatten.length=fr:=⟨_,rfl⟩
      rw [hfr] at Ar OU Au hcr
      have QF:=Lib.hid hfr
      rw [hfr]
      clear hfr
      obtain⟨t,ht⟩:∃t,fr+p.length=t:=⟨_,rfl⟩
      rw [ht] at OU Au hcr
      have GR:p.length=t-fr:=by omega
      have Sd:fr<t:=by omega
      have hfl:fr<l.length:=by omega
      have hfc:fr<c:=by omega
      have Sg:(fr:Int)<(c:Int):=by omega
      rw [GR] at Ar
      have K9:=Lib.hid (And.intro Ar (And.intro Au GR))
      clear Ar Au GR ht hp2 HM
      have ht0:(0:Int)≤(fr:Int):=by omega
      have hft:(fr:Int)≤(t:Int):=by omega
      have htc:(t:Int)≤(c:Int):=by omega
      have hw2:IntKind.i64.wrap ((k:Int)+1)=(k:Int)+1:=by have:=HS.out;have:=y5.out;exact IntWalk.i64_in _ (by omega)
      have iX:=Lib.hid (rX (aU HA.out (mO.out.trans jK.out (fun _ _=>id)) (fun _ _=>id)) fr (t-fr) (c-fr) (by omega))
      have yA:=Lib.hid (iE _ _ _ iX.out (by rw [List.length_take,List.length_drop];omega))
      have jd:((l.drop fr).take (t-fr)).length=t-fr:=by rw [List.length_take,List.length_drop];omega
      go_wp2_with fail
      (with_reducible refine yA.out.mono ?_)
      rintro e w4 ⟨v4,rfl,eG,o4,qJ⟩
      have qK:Hid (gN aR 2 w4 v4 ((l.drop fr).take (t-fr))):=Lib.hid ⟨bS (enc:=aR) (k:=2) (fun _=>rfl) eG,dQ eG⟩
      rw [jd] at eG
      have yS:=Lib.hid (bg eG)
      obtain⟨a4,c4,rfl⟩:=ownsRow_form eG
      have yT:=Lib.hid (fun q hq=>(eG.lt q hq).2)
      have qL:=Lib.hid qJ
      have xE:=Lib.hid o4.size
      have Si:=Lib.hid o4
      have KN:=Lib.hid (mO.out.trans jK.out (fun _ _=>id))
      have oV:=(Only.refl (fun _=>False) w4).alloc (.cells #[(.slice a4 (t-fr) c4)] 163)
      have xg:=Lib.hid ((jK.out.trans o4 (fun _ _=>id)).trans oV (fun _ _=>id))
      have La:=Lib.hid (o4.trans oV (fun _ _=>id))
      have kL:=Lib.hid (aP HP.out.1 La.out (fun _ _=>id))
      have DR:=Lib.hid (bH w4 [(.slice a4 (t-fr) c4)] 163 (0,0))
      have kM:∀u∈[(Value.slice a4 (t-fr) c4)],u.oneCell'=true:=by intro u hu;rw [List.mem_singleton.1 hu];rfl
      have hvl:vs.length≤1000000:=by
       have h1:=HP.out.2.1.len
       rw [List.length_take] at h1
       have:=HS.out
       have:=y5.out
       omega
      clear eG o4 qJ oV yA iX
      go_wp2_with (at_builtin;refine aM _ rfl _ _ 29 rfl 163 j0 _ 1 24 Tryz.underlying29 hj Fw Fx Fy rfl (by decide) _ _ _ rfl kL.out ⟨w4.heap.size,0,none⟩ 1 1 [(.slice a4 (t-fr) c4)] rfl rfl DR.out kM (by unfold maxLen;omega) (by omega) ?_;intro a' c' wx hown2 hgr hmv;have HX:=Lib.hid (And.intro hown2 (And.intro hgr hmv));clear hown2 hgr hmv)
      go_roundg (gk-1)
      case measure=>omega
      case rel=>
       obtain⟨hown2,hgr,hmv⟩:=HX.out
       obtain⟨_,hparts,hnew,iH⟩:=HP.out
       obtain⟨Ar,Au,GR⟩:=K9.out
       have DT:=KN.out.size
       have hs4:=xE.out
       have l6:(w4.alloc (.cells #[(.slice a4 (t-fr) c4)] 163)).heap.size=w4.heap.size+1:=by simp
       have iO:∀b,bI (Value.slice a4 (t-fr) c4)=some b→wr.heap.size≤b∧b<w4.heap.size:=fun b hb=>by rw [yS.out] at hb;exact⟨qL.out b hb,yT.out b hb⟩
       have jO:∀b,u8.ownBlock=some b→b<wr.heap.size:=fun b hb=>(HP.out.1.lt b hb).2
       have hgrow:∀S:Nat→Prop,(∀k,k<w4.heap.size→u8.ownBlock=some k→S k)→Only S w4 wx:=fun S hS=>(((Only.refl S w4).alloc _).grown hgr hS)
       have hgs:=(hgrow (fun k=>u8.ownBlock=some k) (fun k _ e=>e)).size
       refine⟨k+1,vs++[(.slice a4 (t-fr) c4)],by omega,rfl,by rw [Au],by rw [List.length_append];exact hown2,?_,?_,fun b hb=>?_,fun v hv b hb=>?_⟩
       ·rw [List.take_add_one,hp,Option.toList]
        rw [←Ar]
        refine((hparts.only Si.out (fun v hv b hb=>id)).snoc qK.out).only (hgrow (fun k=>u8.ownBlock=some k) (fun k _ e=>e)) (fun v hv b hb e=>?_)
        rcases List.mem_append.1 hv with hv | hv
        ·exact(iH v hv b hb).2.2 e
        ·rw [List.mem_singleton.1 hv] at hb
         have:=(iO b hb).1
         have:=jO b e
         omega
       ·exact xg.out.grown hgr (fun k hk e=>by have:=hnew k e;omega)
       ·rcases hmv b hb with e | e
        ·exact hnew b e
        ·have:=jK.out.size;rw [l6] at e;omega
       ·have hne2:b<w4.heap.size→u8.ownBlock≠some b→(Value.slice a' (vs.length+1) c').ownBlock≠some b:=fun h1 h2 e=>by
         rcases hmv b e with e | e
         ·exact h2 e
         ·rw [l6] at e;omega
        rcases List.mem_append.1 hv with hv | hv
        ·obtain⟨f1,f2,f3⟩:=iH v hv b hb
         exact⟨f1,by omega,hne2 (by omega) f3⟩
        ·rw [List.mem_singleton.1 hv] at hb
         obtain⟨f1,f2⟩:=iO b hb
         exact⟨by omega,by omega,hne2 f2 (fun e=>by have:=jO b e;omega)⟩
     ·obtain rfl:k=(bY l).length:=by omega
      have hk1:¬(((bY l).length:Nat):Int)<(1:Int):=by omega
      go_wp2_with fail
      go_ret2
      obtain⟨own,hparts,hnew,iH⟩:=HP.out
      rw [List.take_length] at hparts
      exact⟨u8,rfl,vs,own,hparts,mO.out.trans jK.out (fun _ _=>id),fun b hb=>Nat.le_trans mO.out.size (hnew b hb),iH⟩
end Go.Proofs.YtbhiamcmiopnoaaGreatDoor
