/- Buckets within buckets on the law's pages: one step at one bucket, with the tree's own plain law. Conditions: there is room for its pages. -/
import Derived.Test.YtbhiamcmiopnoaaGreatDoorZBuD
import Derived.Test.YtbhiamcmiopnoaaGreatDoorZBuF
import Derived.Test.YtbhiamcmiopnoaaGreatDoorZBkS
set_option maxHeartbeats 8000000
set_option maxRecDepth 100000
namespace Go.Proofs.YtbhiamcmiopnoaaGreatDoor
section
open Go.RowKit
theorem bq.nodup {L:List Node} {root:Int} {l:List Item} {ids:List Int} (h:bq L root l ids):ids.Nodup:=by
 cases h with
 | none=>exact List.nodup_nil
 | some n _ b _ _ h=>exact h.nodup
theorem Tree.GZ {L:List Node} {n:Nat} {root:Int} {b:Bytes} {l:List Item} {ids:List Int} (h:Tree L n root b l ids):root∈ids:=by
 cases h<;>simp
theorem bq.root {L:List Node} {root:Int} {l:List Item} {ids:List Int} (h:bq L root l ids):root=0∨(root∈ids∧2≤root∧root<(L.length:Int)+2):=by
 have ht:=h.there
 cases h with
 | none=>exact .inl rfl
 | some n _ b _ _ h=>exact .inr ⟨h.GZ,ht _ h.GZ⟩
theorem fZ {l:List Item} {k:Bytes} {x:Item} (h:aS l k=Option.some x):x∈l∧x.key=k:=by
 unfold aS at h
 split at h
 ·rename_i y r hb
  split at h
  ·rename_i hk
   cases h
   refine⟨(List.dropWhile_suffix _).subset (?_:x∈behind l k),hk⟩
   rw [hb]
   simp
  ·cases h
 ·cases h
theorem kI {l:List Item} {k:Bytes} (hr:bF l) (h:aS l k=Option.none):∀y∈l,y.key≠k:=by
 intro y hy e
 have ha:=nD l k
 have hb:=lu hr k
 have hsp:=bZ l k
 rw [←hsp] at hy
 rcases List.mem_append.1 hy with q | q
 ·have h2:=ha y q
  rw [show Keyed.key y=k from e] at h2
  exact List.lt_irrefl _ h2
 ·unfold aS at h
  cases hbb:behind l k with
  | nil=>rw [hbb] at q;cases q
  | cons z r=>
   rw [hbb] at h q
   dsimp only at h
   split at h
   ·cases h
   ·rename_i hz
    rcases List.mem_cons.1 q with rfl | q2
    ·exact hz e
    ·have hrr:bF (behind l k):=by
      unfold bF at hr ⊢
      rw [←hsp,List.pairwise_append] at hr
      exact hr.2.1
     rw [hbb] at hrr
     unfold bF at hrr
     rw [List.pairwise_cons] at hrr
     have h3:Keyed.key z<Keyed.key y:=hrr.1 y q2
     rw [show Keyed.key y=k from e] at h3
     exact hb z (by rw [hbb];simp) h3
theorem Held.G7 {S:aW} {R:Path→Option Rec} {e o p:Path} {r:Rec} (H:Held S R e o) (hp:R p=some r) (hL:S.L.length≤3998):((r.root.toNat:Nat):Int)=r.root∧(r.root.toNat=0∨2≤r.root.toNat∧r.root.toNat<4000):=by
 rcases(H.dh.tree p r hp).1.root with q |⟨_,q,q2⟩
 ·rw [q];exact⟨rfl,.inl rfl⟩
 ·omega
theorem Jf (S:aW):lI S []=S:=by simp [lI]
theorem ze (S:aW):fq S []=S:=rfl
def gT (k:Bytes) (r:Rec):Item:=⟨k,gB r.root.toNat r.seq,2⟩
theorem uY {k:Bytes} (hk:qW k) (r:Rec):dK (gT k r)=true:=by
 unfold dK gT
 have:=hk.1
 have:=hk.2.1
 have h3:(gB r.root.toNat r.seq).length=10:=by simp [gB,bf]
 simp only [decide_eq_true_eq,h3]
 omega
theorem Jg {l:List Item} {k:Bytes} (h:∀y∈l,y.key=k→y.kind=2):gG l k=[]:=by
 unfold gG
 rw [List.flatMap_eq_nil_iff]
 intro y hy
 rw [List.mem_filter] at hy
 unfold aX
 rw [if_neg (by have:=h y hy.1 (by simpa using hy.2);omega)]
theorem Held.Ep {S:aW} {R:Path→Option Rec} {o p:Path} {k:Bytes} {r rin:Rec} {e:Path} {m:Nat} (H:Held S R e o) (he:e=[]∨e=p++[k]) (ho:o=[]∨o=p++[k]) (hp:R p=some r) (hin:R (p++[k])=some rin) (hk:qW k) (hold:∀y∈r.l,y.key=k→y.kind=2) (hm:r.l.length<2 ^ m) (hm2:m≤11) (hL:S.L.length+4+2 * m≤3998) :
 ∃root' S2 bE,gV S r.root (gT k rin)=(.ok root',S2)∧Held S2 (upd R p ⟨root',r.seq,dS r.l (gT k rin),bE⟩) p o∧(Full S R→Full S2 (upd R p ⟨root',r.seq,dS r.l (gT k rin),bE⟩))∧S2.L.length≤S.L.length+(2+2 * m)∧S.L.length≤S2.L.length∧S2.given.length≤S.given.length+33∧bJ (dS r.l (gT k rin))=true:=by
 obtain⟨t1,t2,t3,t4⟩:=H.dh.tree p r hp
 have hok:=uY hk rin
 obtain⟨root',S2,bE,h1,h2,_,M⟩:=lZ S r.root r.l r.ids (gT k rin) hok t1 (by have:=H.stop;omega) m hm hm2 hL
 have hg:=kE S r.root (gT k rin)
 rw [h1] at hg
 have dP:=fun j hj=>H.dh.there hp j hj
 obtain⟨T,hnd⟩:=Ei (S:=S) (S2:=S2) (r:=r) (x:=gT k rin) (cs:=[]) (root':=root') (bE:=bE) (few:=2+2 * m) t4 t2 dP (by simp [aX,gT,newL]) (by rw [Jf];exact M) h2.nodup
 have FZ:gG r.l (gT k rin).key=[]:=Jg hold
 rw [FZ,ze] at T
 have hrt:=jw t2 hok
 have hmem:=uT ((aH _).1 t2).2 (gT k rin)
 have Vh:=H.G7 hin (by omega)
 have Vi:=H.dh.tree _ _ hin
 refine⟨root',S2,bE,h1,H.write hp T ⟨h2,hrt,t3,hnd⟩ (fun x hx hx2=>?_) (fun x hx hx2=>?_) (fun k' r2 hr2 hne=>?_) (he.imp id fun q=>⟨k,q⟩) (ho.imp id fun q=>⟨k,q⟩),fun F=>F.write hp T,M.few,M.grow,hg,hrt⟩
 ·rcases(hmem x).1 hx with rfl |⟨h3,h4⟩
  ·exact⟨hk,⟨rin,hin,rfl⟩,rin.root.toNat,rin.seq,Vh.2,Vi.2.2.1,rfl⟩
  ·obtain⟨b1,⟨r2,b2,b3⟩,b4⟩:=H.dh.sub p r x hp h3 hx2
   refine⟨b1,⟨r2,b2,b3 fun q=>?_⟩,b4⟩
   rcases he with he | he
   ·rw [he] at q;simp at q
   ·rw [he] at q;exact h4 (nS q).2
 ·rcases(hmem x).1 hx with rfl |⟨h3,h4⟩
  ·exact absurd rfl hx2
  ·obtain⟨v,hv⟩:=H.dh.val p r x hp h3 hx2
   exact⟨v,hv.keep fun j hj=>T.other j (hv.pages j hj).2 fun q=>d9 t4 h3 hj q⟩
 ·by_cases hkk:k'=k
  ·subst hkk
   exact⟨gT k' rin,(hmem _).2 (.inl rfl),rfl,rfl⟩
  ·obtain⟨r0,x,a1,a2,a3,a4⟩:=H.dh.up p k' r2 hr2 (by
    rcases ho with ho | ho
    ·rw [ho];simp
    ·rw [ho];exact fun q=>hkk (nS q).2)
   rw [hp] at a1
   cases a1
   exact⟨x,(hmem x).2 (.inr ⟨a2,by rw [a3];exact hkk⟩),a3,a4⟩
theorem vU {l:List Item} (hr:bF l) (k:Bytes):gG l k=(match aS l k with | some x=>aX x | none=>[]):=by
 cases hf:aS l k with
 | some x=>
  obtain⟨h1,h2⟩:=fZ hf
  obtain⟨A,B,rfl⟩:=List.append_of_mem h1
  have hp:=jG hr
  rw [List.pairwise_append,List.pairwise_cons] at hp
  have hA:A.filter (fun y=>y.key == k)=[]:=List.filter_eq_nil_iff.2 fun y hy q=>hp.2.2 y hy x (by simp) (by rw [h2];simpa using q)
  have hB:B.filter (fun y=>y.key == k)=[]:=List.filter_eq_nil_iff.2 fun y hy q=>hp.2.1.1 y hy (by rw [h2];exact(by simpa using q:y.key=k).symm)
  unfold gG
  rw [List.filter_append,List.filter_cons,if_pos (by simpa using h2),hA,hB]
  simp
 | none=>
  simp only
  unfold gG
  rw [List.filter_eq_nil_iff.2 fun y hy q=>kI hr hf y hy (by simpa using q)]
  rfl
theorem LM {l:List Item} (hr:bF l) (k:Bytes):gG l k=aX (je l k):=by
 rw [vU hr]
 unfold je
 cases aS l k<;>rfl
theorem NW {L:List Node} {l:List Item} {k:Bytes} (h:∀y∈l,y.key=k→y.kind≠2∧∃v,Sem L y v):sD L (je l k)∧(je l k).kind≠2:=by
 unfold je
 cases hf:aS l k with
 | some x=>
  obtain⟨h1,h2⟩:=fZ hf
  exact⟨.inr (h x h1 h2).2,(h x h1 h2).1⟩
 | none=>exact⟨.inr ⟨[],.plain [] [] (by decide)⟩,by decide⟩
theorem wR {L:List Node} {x:Item} {v:Bytes} (h:Sem L x v):(aX x).length≤9:=by
 cases h with
 | plain k v h=>exact Nat.zero_le _
 | far k v first h hf hL=>
  rw [rZ (by omega) (by omega)]
  have:=jf h.2
  simpa [kr] using this
theorem LP {L:List Node} {l:List Item} {k:Bytes} (h:sD L (je l k)):(aX (je l k)).length≤9:=by
 rcases h with h |⟨v,h⟩
 ·unfold aX
  rw [if_neg (by omega)]
  exact Nat.zero_le _
 ·exact wR h
theorem zf {v:Bytes} (hv:v.length≤2000):(dN v).length≤9:=by
 have:=jf hv
 unfold dN parts
 split<;>simp
 omega
theorem Jh (S:aW) (k v:Bytes) (hL:S.L.length+13≤3998) (hv:v.length≤2000):aX (dG S k v)=newL S (dN v).length:=by
 unfold dG dN
 split
 ·simp [aX,newL]
 ·rw [rZ (by omega) (by omega)]
  simp [kr,newL,parts]
theorem LQ (S:aW) {k v:Bytes} (hk:1≤k.length∧k.length≤32):dK (dG S k v)=true:=by
 unfold dG dK
 split
 ·simp only [decide_eq_true_eq]
  omega
 ·have:(gD (S.L.length+2) v.length).length=4:=by simp [gD,bf]
  simp only [decide_eq_true_eq,this]
  omega
theorem nX (S:aW) (k v:Bytes):(dG S k v).key=k∧(dG S k v).kind≠2:=by
 unfold dG
 split<;>simp
theorem Ji {S:aW} {L':List Node} {k v:Bytes} (hv:v.length≤2000) (hL:S.L.length+13≤3998) (hk:∀i,i<(dN v).length→nodeAt L' ((S.L.length+2+i:Nat):Int)=nodeAt (lI S (dN v)).L ((S.L.length+2+i:Nat):Int)):Sem L' (dG S k v) v:=by
 by_cases NH:v.length≤96
 ·rw [show dG S k v=⟨k,v,0⟩ from if_pos NH]
  exact .plain k v NH
 ·rw [show dG S k v=⟨k,gD (S.L.length+2) v.length,1⟩ from if_neg NH]
  have hcs:dN v=parts v:=if_neg NH
  rw [hcs] at hk
  have hlen:(parts v).length=bW v.length:=by simp [parts]
  have hn:=jf hv
  refine .far k v (S.L.length+2) ⟨by omega,hv⟩ ⟨by omega,by omega⟩ fun i hi=>?_
  rw [hk i (by rw [hlen];exact hi)]
  show nodeAt (S.L++(parts v).map Node.over) ((S.L.length+2+i:Nat):Int)=_
  rw [tF]
  simp [parts,hi]
theorem Held.LU {S:aW} {R:Path→Option Rec} {p:Path} {k v:Bytes} {r:Rec} {m:Nat} (H:Held S R [] []) (hp:R p=some r) (hk:1≤k.length∧k.length≤32) (hv:v.length≤2000) (hold:∀y∈r.l,y.key=k→y.kind≠2) (hm:r.l.length<2 ^ m) (hm2:m≤11) (hL:S.L.length+13+2 * m≤3998) :
 ∃root' S2 bE S3,gV (lI S (dN v)) r.root (dG S k v)=(.ok root',S2)∧S3=fq S2 (aX (je r.l k))∧bq (lI S (dN v)).L r.root r.l r.ids∧dK (dG S k v)=true∧sD S2.L (je r.l k)∧(je r.l k).kind≠2∧
  Held S3 (upd R p ⟨root',r.seq,dS r.l (dG S k v),bE⟩) p []∧(Full S R→Full S3 (upd R p ⟨root',r.seq,dS r.l (dG S k v),bE⟩))∧S3.L.length≤S.L.length+(dN v).length+(2+2 * m)∧S.L.length≤S3.L.length∧S3.given.length≤S.given.length+42∧
  Sem S3.L (dG S k v) v∧(∀j:Int,j<(S.L.length:Int)+2→j∉r.ids→nodeAt S3.L j=nodeAt S.L j):=by
 obtain⟨t1,t2,t3,t4⟩:=H.dh.tree p r hp
 have hok:=LQ S (v:=v) hk
 have hcs:=zf hv
 have hll:=qx S (dN v)
 have dP:=fun j hj=>H.dh.there hp j hj
 have R2:bq (lI S (dN v)).L r.root r.l r.ids:=t1.keep fun j hj=>lU (by have:=(dP j (bP.2 (.inl hj))).2;omega)
 have hstop:(lI S (dN v)).stop=S.stop:=rfl
 obtain⟨root',S2,bE,h1,h2,_,M⟩:=lZ (lI S (dN v)) r.root r.l r.ids (dG S k v) hok R2 (by have:=H.stop;omega) m hm hm2 (by omega)
 have hg:=kE (lI S (dN v)) r.root (dG S k v)
 rw [h1] at hg
 have hg2:(lI S (dN v)).given=S.given:=rfl
 rw [hg2] at hg
 obtain⟨T,hnd⟩:=Ei (S:=S) (S2:=S2) (r:=r) (x:=dG S k v) (cs:=dN v) (root':=root') (bE:=bE) (few:=2+2 * m) t4 t2 dP (Jh S k v (by omega) hv) M h2.nodup
 have hris:=((aH _).1 t2).2
 rw [(nX S k v).1,LM hris] at T
 obtain⟨f1,f2,f3,f4,f5⟩:=iL S2 (aX (je r.l k))
 have FZ:=fun L' (hkeep:∀y∈r.l,∀u,Sem S.L y u→Sem L' y u)=>NW (L:=L') (l:=r.l) (k:=k) fun y hy hyk=>⟨hold y hy hyk,by
  obtain⟨u,hu⟩:=H.dh.val p r y hp hy (hold y hy hyk)
  exact⟨u,hkeep y hy u hu⟩⟩
 have hkeep:∀y∈r.l,∀u,Sem S.L y u→Sem S2.L y u:=fun y hy u hu=>hu.keep fun j hj=>by
  have:=T.other j (hu.pages j hj).2 fun q=>d9 t4 hy hj q
  rwa [f2] at this
 have hw:=FZ S2.L hkeep
 have gy:=LP hw.1
 have hrt:=jw t2 hok
 have hmem:=uT hris (dG S k v)
 have CU:Sem (fq S2 (aX (je r.l k))).L (dG S k v) v:=Ji hv (by omega) fun i hi=>by
  rw [f2]
  exact M.other _ (by omega) (.inl fun q=>by have:=(dP _ (bP.2 (.inl q))).2;omega)
 refine⟨root',S2,bE,_,h1,rfl,R2,hok,hw.1,hw.2,H.write hp T ⟨by rw [f2];exact h2,hrt,t3,hnd⟩ (fun x hx hx2=>?_) (fun x hx hx2=>?_) (fun k' r2 hr2 hne=>?_) (.inl rfl) (.inl rfl),fun F=>F.write hp T,by rw [f2];have:=M.few;omega,by rw [f2];have:=M.grow;omega,by rw [f1,List.length_append];simp only at hg;omega,CU,T.other⟩
 ·rcases(hmem x).1 hx with rfl |⟨h3,h4⟩
  ·exact absurd hx2 (nX S k v).2
  ·obtain⟨b1,⟨r2,b2,b3⟩,b4⟩:=H.dh.sub p r x hp h3 hx2
   exact⟨b1,⟨r2,b2,b3 (by simp)⟩,b4⟩
 ·rcases(hmem x).1 hx with rfl |⟨h3,h4⟩
  ·exact⟨v,CU⟩
  ·obtain⟨u,hu⟩:=H.dh.val p r x hp h3 hx2
   exact⟨u,hu.keep fun j hj=>T.other j (hu.pages j hj).2 fun q=>d9 t4 h3 hj q⟩
 ·obtain⟨r0,x,a1,a2,a3,a4⟩:=H.dh.up p k' r2 hr2 (by simp)
  rw [hp] at a1
  cases a1
  exact⟨x,(hmem x).2 (.inr ⟨a2,fun e=>hold x a2 (by rw [e,(nX S k v).1]) a4⟩),a3,a4⟩
theorem wS {l:List Item} {k:Bytes} {x:Item} (h:aS l k=some x):(bU l k).2=true:=by
 unfold aS at h
 unfold bU
 cases hb:behind l k with
 | nil=>rw [hb] at h;cases h
 | cons z r=>
  rw [hb] at h
  simp only at h ⊢
  split at h
  ·rename_i hz
   rw [if_pos hz]
  ·cases h
theorem Held.LV {S:aW} {R:Path→Option Rec} {p:Path} {k:Bytes} {r:Rec} {x:Item} {m:Nat} (H:Held S R [] []) (hp:R p=some r) (hx:aS r.l k=some x) (hx2:x.kind≠2) (hm:r.l.length<2 ^ m) (hm2:m≤11) (hL:S.L.length+4+2 * m≤3998) :
 ∃root' wX S2 bE,jk (fq S (aX x)) r.root k=(.ok (root',wX),S2)∧sD S.L x∧(aX x).length≤9∧
  Held S2 (upd R p ⟨root',r.seq,(bU r.l k).1,bE⟩) p []∧(Full S R→Full S2 (upd R p ⟨root',r.seq,(bU r.l k).1,bE⟩))∧S2.L.length≤S.L.length+(2+2 * m)∧S.L.length≤S2.L.length∧S2.given.length≤S.given.length+55∧
  (∀j:Int,j<(S.L.length:Int)+2→j∉r.ids→nodeAt S2.L j=nodeAt S.L j):=by
 obtain⟨t1,t2,t3,t4⟩:=H.dh.tree p r hp
 have dP:=fun j hj=>H.dh.there hp j hj
 obtain⟨f1,f2,f3,f4,f5⟩:=iL S (aX x)
 obtain⟨hxm,hxk⟩:=fZ hx
 obtain⟨u,hu⟩:=H.dh.val p r x hp hxm hx2
 have gy:=wR hu
 have hris:=((aH _).1 t2).2
 have R2:bq (fq S (aX x)).L r.root r.l r.ids:=by rw [f2];exact t1
 have hg:=sI (fq S (aX x)) r.root k
 rcases yQ (fq S (aX x)) r.root r.l r.ids k R2 (by rw [f5];have:=H.stop;omega) m hm hm2 (by rw [f2];exact hL) with ⟨q,_⟩ |⟨_,root',S2,bE,h1,h2,M⟩
 ·rw [wS hx] at q
  cases q
 ·rw [h1,f1,List.length_append] at hg
  have FZ:gG r.l k=aX x:=by rw [vU hris,hx]
  obtain⟨T,hnd⟩:=Ej (S:=S) (S2:=S2) (r:=r) (k:=k) (root':=root') (bE:=bE) (few:=2+2 * m) t4 t2 dP (by rw [FZ];exact M) h2.nodup
  have hmem:=vS hris k
  refine⟨root',true,S2,bE,h1,.inr ⟨u,hu⟩,gy,H.write hp T ⟨h2,wO t2 k,t3,hnd⟩ (fun y hy hy2=>?_) (fun y hy hy2=>?_) (fun k' r2 hr2 hne=>?_) (.inl rfl) (.inl rfl),fun F=>F.write hp T,by have:=M.few;rw [f2] at this;exact this,by have:=M.grow;rw [f2] at this;exact this,by simp only at hg;omega,T.other⟩
  ·obtain⟨b1,⟨r2,b2,b3⟩,b4⟩:=H.dh.sub p r y hp ((hmem y).1 hy).1 hy2
   exact⟨b1,⟨r2,b2,b3 (by simp)⟩,b4⟩
  ·obtain⟨v,hv⟩:=H.dh.val p r y hp ((hmem y).1 hy).1 hy2
   exact⟨v,hv.keep fun j hj=>T.other j (hv.pages j hj).2 fun q=>d9 t4 ((hmem y).1 hy).1 hj q⟩
  ·obtain⟨r0,y,a1,a2,a3,a4⟩:=H.dh.up p k' r2 hr2 (by simp)
   rw [hp] at a1
   cases a1
   refine⟨y,(hmem y).2 ⟨a2,fun e=>?_⟩,a3,a4⟩
   have:=qY hris a2 hxm (by rw [e,hxk])
   rw [this] at a4
   exact hx2 a4
theorem Held.step_seq {S:aW} {R:Path→Option Rec} {p:Path} {r:Rec} {seq:Int} (H:Held S R [] []) (hp:R p=some r) (hs:0≤seq∧seq≤1000000) :
 Held S (upd R p ⟨r.root,seq,r.l,r.ids⟩) p []∧(Full S R→Full S (upd R p ⟨r.root,seq,r.l,r.ids⟩)):=by
 obtain⟨t1,t2,t3,t4⟩:=H.dh.tree p r hp
 have T:=Lr S r seq
 refine⟨H.write hp T ⟨t1,t2,hs,t4⟩ (fun y hy hy2=>?_) (fun y hy hy2=>H.dh.val p r y hp hy hy2) (fun k' r2 hr2 hne=>?_) (.inl rfl) (.inl rfl),fun F=>F.write hp T⟩
 ·obtain⟨b1,⟨r2,b2,b3⟩,b4⟩:=H.dh.sub p r y hp hy hy2
  exact⟨b1,⟨r2,b2,b3 (by simp)⟩,b4⟩
 ·obtain⟨r0,y,a1,a2,a3,a4⟩:=H.dh.up p k' r2 hr2 (by simp)
  rw [hp] at a1
  cases a1
  exact⟨y,a2,a3,a4⟩
theorem Held.step_drop {S:aW} {R:Path→Option Rec} {p:Path} {k:Bytes} {r:Rec} {x:Item} {gs:List Int} {m:Nat} (H:Held S R [] []) (hp:R p=some r) (hx:aS r.l k=some x) (hx2:x.kind=2) (hg1:gs.Nodup) (hg2:∀j,j∈gs↔∃q rq,R q=some rq∧p++[k] <+: q∧j∈rq.own) (hm:r.l.length<2 ^ m) (hm2:m≤11) (hL:S.L.length+4+2 * m≤3998) :
 ∃root' wX S2 bE,jk (fq S gs) r.root k=(.ok (root',wX),S2)∧
  Held S2 (_root_.Go.Proofs.YtbhiamcmiopnoaaGreatDoor.prune (upd R p ⟨root',r.seq,(bU r.l k).1,bE⟩) (p++[k])) p []∧(Full S R→Full S2 (_root_.Go.Proofs.YtbhiamcmiopnoaaGreatDoor.prune (upd R p ⟨root',r.seq,(bU r.l k).1,bE⟩) (p++[k])))∧S2.L.length≤S.L.length+(2+2 * m)∧S.L.length≤S2.L.length∧S2.given.length≤S.given.length+gs.length+46∧
  (∀j:Int,j<(S.L.length:Int)+2→j∉r.ids→nodeAt S2.L j=nodeAt S.L j):=by
 obtain⟨t1,t2,t3,t4⟩:=H.dh.tree p r hp
 have dP:=fun j hj=>H.dh.there hp j hj
 obtain⟨f1,f2,f3,f4,f5⟩:=iL S gs
 obtain⟨hxm,hxk⟩:=fZ hx
 have hris:=((aH _).1 t2).2
 have hfr:∀j∈gs,j∉S.given:=fun j hj=>by
  obtain⟨q,rq,h1,_,h3⟩:=(hg2 j).1 hj
  exact H.back q rq h1 (fun z=>z.1 rfl) j h3
 have vB:(fq S gs).twice=S.twice:=qX hfr hg1
 have HL:Held (fq S gs) R [] (p++[k]):=(H.leave (p++[k])).free (by simp) f2 f1 f5 f4 vB (fun j hj=>by
  obtain⟨q,rq,h1,h2,h3⟩:=(hg2 j).1 hj
  exact⟨q,rq,h1,h2,h3⟩) hg1 hfr
 have R2:bq (fq S gs).L r.root r.l r.ids:=by rw [f2];exact t1
 have hg:=sI (fq S gs) r.root k
 rcases yQ (fq S gs) r.root r.l r.ids k R2 (by rw [f5];have:=H.stop;omega) m hm hm2 (by rw [f2];exact hL) with ⟨q,_⟩ |⟨_,root',S2,bE,h1,h2,M⟩
 ·rw [wS hx] at q
  cases q
 ·rw [h1,f1,List.length_append] at hg
  have FZ:gG r.l k=[]:=by rw [vU hris,hx];simp [aX,hx2]
  obtain⟨T,hnd⟩:=Ej (S:=fq S gs) (S2:=S2) (r:=r) (k:=k) (root':=root') (bE:=bE) (few:=2+2 * m) t4 t2 (by rw [f2];exact dP) (by rw [FZ,ze];exact M) h2.nodup
  have hmem:=vS hris k
  have HW:Held S2 (upd R p ⟨root',r.seq,(bU r.l k).1,bE⟩) p (p++[k]):=by
   refine HL.write hp T ⟨h2,wO t2 k,t3,hnd⟩ (fun y hy hy2=>?_) (fun y hy hy2=>?_) (fun k' r2 hr2 hne=>?_) (.inl rfl) (.inr ⟨k,rfl⟩)
   ·obtain⟨b1,⟨r2,b2,b3⟩,b4⟩:=H.dh.sub p r y hp ((hmem y).1 hy).1 hy2
    exact⟨b1,⟨r2,b2,b3 (by simp)⟩,b4⟩
   ·obtain⟨v,hv⟩:=H.dh.val p r y hp ((hmem y).1 hy).1 hy2
    exact⟨v,hv.keep fun j hj=>(T.other j (by rw [f2];exact(hv.pages j hj).2) fun q=>d9 t4 ((hmem y).1 hy).1 hj q).trans (by rw [f2])⟩
   ·obtain⟨r0,y,a1,a2,a3,a4⟩:=H.dh.up p k' r2 hr2 (by simp)
    rw [hp] at a1
    cases a1
    exact⟨y,(hmem y).2 ⟨a2,fun e=>hne (by rw [←e,a3])⟩,a3,a4⟩
  refine⟨root',true,S2,bE,h1,HW.prune (bV _ _ _) (fun y hy hyk=>absurd hyk ((hmem y).1 hy).2),fun F=>?_,by have:=M.few;rw [f2] at this;exact this,by have:=M.grow;rw [f2] at this;exact this,by simp only at hg;omega,fun j hj hn=>by
   have:=T.other j (by rw [f2];exact hj) hn
   rwa [f2] at this⟩
  refine((F.free f2 f1).write hp T).prune fun q rq hq hpre j hj=>?_
  have Jc:q≠p:=fun e=>by rw [e] at hpre;exact iF hpre
  rw [upd_ne Jc] at hq
  obtain⟨gs2,g1,_,_⟩:=T.moved.gone
  rw [g1,f1]
  exact List.mem_append_left _ (List.mem_append_right _ ((hg2 j).2 ⟨q,rq,hq,hpre,hj⟩))
end
section
open Go.RowKit Go.MuLone
def fM (s:Bytes):Bool:=cu s && !decide (0≤Lib.indexByte s 47)
theorem jI {s:Bytes} (h:fM s=true):cu s=true:=by
 unfold fM at h
 simp only [Bool.and_eq_true] at h
 exact h.1
theorem kN (w:World) (s:Bytes) (hs:s.length≤1000000):Calls Tryz.prog 94 #[str s] w fun e w'=>e=.returned (.bool (fM s))∧w=w':=by
 have hml:maxLen=9223372036854775807:=by decide
 have HW:=Lib.hid (fun W=>oq W s (by omega))
 have HC:Hid (∀W,Calls Tryz.prog 142 #[str s,.string ⟨#[47]⟩] W fun e w'=>e=.returned (.bool (decide (0≤Lib.indexByte s 47)))∧W=w'):=Lib.hid (fun W=>(strings_Contains_one ⟨s.toArray⟩ 47 W).mono (by
  rintro e w' ⟨rfl,rfl⟩
  exact⟨rfl,rfl⟩))
 have HN:Hid (fM s=(cu s && !decide (0≤Lib.indexByte s 47))):=Lib.hid rfl
 generalize fM s=r at *
 generalize decide (0≤Lib.indexByte s 47)=c at *
 generalize cu s=v at *
 clear hml
 go_enter Tryz.func94,Tryz.ntmps94
 go_wp2_with fail
 (with_reducible refine(HW.out _).mono ?_)
 rintro e _ ⟨rfl,rfl⟩
 cases v with
 | false=>
  go_wp2_with fail
  go_ret
  exact⟨by rw [HN.out];rfl,rfl⟩
 | true=>
  go_wp2_with fail
  (with_reducible refine(HC.out _).mono ?_)
  rintro e _ ⟨rfl,rfl⟩
  go_wp2_with fail
  go_ret
  exact⟨by rw [HN.out];rfl,rfl⟩
theorem vV {root:Nat} {seq:Int} (h1:root=0∨2≤root∧root<4000) (h2:0≤seq∧seq≤1000000):wP (gB root seq)=some (root,seq):=by
 have e1:(gB root seq).take 2=bO root 2:=by
  unfold gB
  exact List.take_left' (bf _ _)
 have e2:(gB root seq).drop 2=bO (qV seq) 8:=by
  unfold gB
  exact List.drop_left' (bf _ _)
 have e3:gu (bO root 2)=root:=jc (by omega)
 have e4:gu (bO (qV seq) 8)=qV seq:=by
  have key:∀n v,gu (bO v n)=v % 256 ^ n:=by
   intro n
   induction n with
   | zero=>intro v;simp [bO,gu,Nat.mod_one]
   | succ n ih=>intro v;rw [bO,qm,ih,bf,Nat.mod_pow_succ,UInt8.toNat_ofNat',Nat.mul_comm]
  rw [key,Nat.mod_eq_of_lt]
  have:qV seq<18446744073709551616:=by unfold qV;omega
  exact this
 have e5:wrap64 (qV seq:Int)=seq:=by
  unfold wrap64 qV
  omega
 unfold wP
 rw [e1,e2,e3,e4,e5,if_pos ⟨qU _ _,h2.1,h1⟩]
theorem Er (w:World) (x:Item) (root:Nat) (seq:Int) (h1:root=0∨2≤root∧root<4000) (h2:0≤seq∧seq≤1000000) (hx:x.val=gB root seq) :
 Calls Tryz.prog 139 #[EO x] w fun e w'=>e=.returned (.tuple #[aY root seq,.int .i64 0])∧Only (fun _=>False) w w':=by
 have o1:=(Only.refl (fun _=>False) w).alloc (.cells #[str x.key,str x.val,.int .i64 x.kind] 131)
 have n1:=dw w (.cells #[str x.key,str x.val,.int .i64 x.kind] 131)
 have s1:(w.alloc (.cells #[str x.key,str x.val,.int .i64 x.kind] 131)).heap.size=w.heap.size+1:=Array.size_push _
 have o2:=(Only.refl (fun _=>False) (w.alloc (.cells #[str x.key,str x.val,.int .i64 x.kind] 131))).alloc (.cells #[.int .i64 0,.int .i64 0] 23)
 have n2:=dw (w.alloc (.cells #[str x.key,str x.val,.int .i64 x.kind] 131)) (.cells #[.int .i64 0,.int .i64 0] 23)
 rw [s1] at n2
 have n12:=dR n1 o2 id
 have c1:=aj n12 1
 simp only [List.getElem?_toArray,List.getElem?_cons_zero,List.getElem?_cons_succ] at c1
 have HR:=Lib.hid (Lj ((w.alloc (.cells #[str x.key,str x.val,.int .i64 x.kind] 131)).alloc (.cells #[.int .i64 0,.int .i64 0] 23)) x.val (by rw [hx,qU];omega))
 unfold jF at HR
 rw [hx,vV h1 h2] at HR
 rw [hx] at c1 n1 n2 o1 o2
 simp only [Option.getD_some,Option.isSome_some,if_true] at HR
 have HH:=Lib.hid (And.intro n2 (o1.trans o2 (fun _ _ q=>q)))
 clear n1 n2 n12 o1 o2 s1 h1 h2
 unfold EO aY
 rw [hx]
 clear hx
 go_enter Tryz.func139,Tryz.ntmps139
 go_wp2_with fail
 generalize hW:(w.alloc (.cells #[str x.key,str (gB root seq),.int .i64 x.kind] 131)).alloc (.cells #[.int .i64 0,.int .i64 0] 23)=W at *
 (with_reducible refine HR.out.mono ?_)
 rintro e w2 ⟨rfl,o2⟩
 have o3:=(Only.refl (fun _=>False) w2).alloc (.cells #[.int .i64 root,.int .i64 seq] 23)
 have n3:=dw w2 (.cells #[.int .i64 root,.int .i64 seq] 23)
 have hk:=dR (dR HH.out.1 o2 id) o3 id
 have a0:=aj n3 0
 have a1:=aj n3 1
 have b0:=aj hk 0
 have b1:=aj hk 1
 have z0:=aC hk 0
 have z1:=aC hk 1
 simp only [List.getElem?_toArray,List.getElem?_cons_zero,List.getElem?_cons_succ] at a0 a1 b0 b1
 have hF:∀W3,W3=((w2.alloc (.cells #[.int .i64 root,.int .i64 seq] 23)).setCell ⟨w.heap.size+1,0,none⟩ (.int .i64 root)).setCell ⟨w.heap.size+1,1,none⟩ (.int .i64 seq)→W3.heap[w.heap.size+1]? = some (.cells #[.int .i64 root,.int .i64 seq] 23 (0,0))∧Only (fun _=>False) w W3:=fun W3 e=>by
  subst e
  have oo:=(HH.out.2.trans o2 (fun _ _ q=>q)).trans o3 (fun _ _ q=>q)
  refine⟨ou (ou hk 0 (.int .i64 root)) 1 (.int .i64 seq),?_⟩
  have os:Only (fun k=>k=w.heap.size+1) (w2.alloc (.cells #[.int .i64 root,.int .i64 seq] 23)) _:=((Only.refl (fun k=>k=w.heap.size+1) _).put (w.heap.size+1) 0 rfl (.int .i64 root)).put (w.heap.size+1) 1 rfl (.int .i64 seq)
  exact(Only.trans (oo.mono (T:=fun k=>k=w.heap.size+1) (fun _ _ (q:False)=>q.elim)) os (fun _ _ q=>q)).mono (fun i hi q=>by have q:i=w.heap.size+1:=q;omega)
 have HF:=Lib.hid hF
 clear hF o2 o3 n3 hk HH HR c1
 go_wp2_with fail
 obtain⟨g1,g2⟩:=HF.out _ rfl
 have x0:=aj g1 0
 have x1:=aj g1 1
 simp only [List.getElem?_toArray,List.getElem?_cons_zero,List.getElem?_cons_succ] at x0 x1
 exact bodyPost_ret (v:=.tuple #[.agg #[.int .i64 root,.int .i64 seq],.int .i64 0]) (by simp [results,Tryz.results139,go_sem,x0,x1]) rfl ⟨rfl,g2⟩
inductive zh (l:List Item) (k:Bytes):Int→Int→Int→Prop
 | bad (h:fM k=false):zh l k 0 0 1
 | none (hk:fM k=true) (h:aS l k=none):zh l k 0 0 8
 | kind (x:Item) (hk:fM k=true) (h:aS l k=some x) (h2:x.kind≠2):zh l k 0 0 21
 | some (x:Item) (root:Nat) (seq:Int) (hk:fM k=true) (h:aS l k=some x) (h2:x.kind=2) (h3:root=0∨2≤root∧root<4000) (h4:0≤seq∧seq≤1000000) (hx:x.val=gB root seq):zh l k root seq 0
theorem NY (w:World) (b:Nat) (S:aW) (root seq:Int) (key:Bytes) (h:aA w b S) (hkl:key.length≤1000000) (hwd:fM key=false) :
 Calls Tryz.prog 97 #[aF b,aY root seq,str key] w fun e w'=>e=.returned (.tuple #[aY 0 0,.int .i64 1])∧aA w' b S∧aB b w w':=by
 have o1:=(Only.refl (fun _=>False) w).alloc (.cells #[.int .i64 root,.int .i64 seq] 23)
 have h1:=h.still o1
 have A1:=bG.new h (.cells #[.int .i64 root,.int .i64 seq] 23)
 have hs1:(w.alloc (.cells #[.int .i64 root,.int .i64 seq] 23)).heap.size=w.heap.size+1:=Array.size_push _
 generalize hW1:w.alloc (.cells #[.int .i64 root,.int .i64 seq] 23)=W1 at *
 have o2:=(Only.refl (fun _=>False) W1).alloc (.cells #[.int .i64 0,.int .i64 0] 23)
 have h2:=h1.still o2
 have A2:=bG.new h1 (.cells #[.int .i64 0,.int .i64 0] 23)
 rw [hs1] at A2
 have B1:=A1.still h1 o2
 have st2:=aB.still h.lt (Only.trans o1 o2 (fun _ _ q=>q))
 have HN:=Lib.hid (fun W=>kN W key hkl)
 rw [hwd] at HN
 have hlt:=h.lt
 have HS:=Lib.hid (And.intro A2 (And.intro st2 h2))
 have a0:=aj B1.at_ 0
 have a1:=aj B1.at_ 1
 have b0:=aj A2.at_ 0
 have b1:=aj A2.at_ 1
 have y0:=aC A2.at_ 0
 have y1:=aC A2.at_ 1
 simp only [List.getElem?_toArray,List.getElem?_cons_zero,List.getElem?_cons_succ] at a0 a1 b0 b1
 clear o1 o2 h1 h2 A1 A2 B1 st2 h hwd
 subst hW1
 clear hs1
 unfold aF at *
 unfold aY at *
 go_enter Tryz.func97,Tryz.ntmps97
 go_wp2_with fail
 generalize ((w.alloc (.cells #[.int .i64 root,.int .i64 seq] 23)).alloc (.cells #[.int .i64 0,.int .i64 0] 23))=W at *
 (with_reducible refine(HN.out W).mono ?_)
 rintro e _ ⟨rfl,rfl⟩
 have HF:=Lib.hid (eu HS.out.2.2 HS.out.2.1 HS.out.1 (by omega) hlt (.int .i64 0) (.int .i64 0))
 clear HS
 go_wp2_with fail
 obtain⟨g1,g2,g3⟩:=HF.out
 have x0:=aj g3 0
 have x1:=aj g3 1
 simp only [List.getElem?_toArray,List.getElem?_cons_zero,List.getElem?_cons_succ] at x0 x1
 exact bodyPost_ret (v:=.tuple #[.agg #[.int .i64 0,.int .i64 0],.int .i64 1]) (by simp [results,Tryz.results97,go_sem,x0,x1]) rfl ⟨rfl,g1,g2⟩
theorem LW (w:World) (b:Nat) (S:aW) (root seq:Int) (l:List Item) (ids:List Int) (key:Bytes) (h:aA w b S) (hkl:key.length≤1000000) (R:bq S.L root l ids) (hs:S.stop<0) (qw:l.length<2 ^ 11) (hwd:fM key=true) (hx:aS l key=none) :
 Calls Tryz.prog 97 #[aF b,aY root seq,str key] w fun e w'=>e=.returned (.tuple #[aY 0 0,.int .i64 8])∧aA w' b S∧aB b w w':=by
 have o1:=(Only.refl (fun _=>False) w).alloc (.cells #[.int .i64 root,.int .i64 seq] 23)
 have h1:=h.still o1
 have A1:=bG.new h (.cells #[.int .i64 root,.int .i64 seq] 23)
 have hs1:(w.alloc (.cells #[.int .i64 root,.int .i64 seq] 23)).heap.size=w.heap.size+1:=Array.size_push _
 generalize hW1:w.alloc (.cells #[.int .i64 root,.int .i64 seq] 23)=W1 at *
 have o2:=(Only.refl (fun _=>False) W1).alloc (.cells #[.int .i64 0,.int .i64 0] 23)
 have h2:=h1.still o2
 have A2:=bG.new h1 (.cells #[.int .i64 0,.int .i64 0] 23)
 rw [hs1] at A2
 have B1:=A1.still h1 o2
 have st2:=aB.still h.lt (Only.trans o1 o2 (fun _ _ q=>q))
 have HN:=Lib.hid (fun W=>kN W key hkl)
 rw [hwd] at HN
 have HI:=Lib.hid (ji _ b S root seq l ids key h2 R hs qw hkl (jI hwd))
 unfold gH at HI
 rw [hx] at HI
 unfold iG at HI
 clear R hx
 have hlt:=h.lt
 have HS:=Lib.hid (And.intro A2 (And.intro st2 h2))
 have a0:=aj B1.at_ 0
 have a1:=aj B1.at_ 1
 have b0:=aj A2.at_ 0
 have b1:=aj A2.at_ 1
 have y0:=aC A2.at_ 0
 have y1:=aC A2.at_ 1
 simp only [List.getElem?_toArray,List.getElem?_cons_zero,List.getElem?_cons_succ] at a0 a1 b0 b1
 clear o1 o2 h1 h2 A1 A2 B1 st2 h hwd
 subst hW1
 clear hs1
 unfold aF at *
 unfold aY at *
 go_enter Tryz.func97,Tryz.ntmps97
 go_wp2_with fail
 generalize ((w.alloc (.cells #[.int .i64 root,.int .i64 seq] 23)).alloc (.cells #[.int .i64 0,.int .i64 0] 23))=W at *
 (with_reducible refine(HN.out W).mono ?_)
 rintro e _ ⟨rfl,rfl⟩
 go_wp2_with fail
 (with_reducible refine HI.out.mono ?_)
 rintro e w2 ⟨rfl,hp2,st2⟩
 obtain⟨B2,st0,_⟩:=HS.out
 have A3:=bG.new hp2 (.cells #[str [],str [],.int .i64 0] 131)
 have o3:=(Only.refl (fun _=>False) w2).alloc (.cells #[str [],str [],.int .i64 0] 131)
 have C2:=(B2.step st2).still hp2 o3
 have HF:=Lib.hid (eu (hp2.still o3) ((st0.trans st2).trans (aB.still hp2.lt o3)) C2 (by omega) hlt (.int .i64 0) (.int .i64 0))
 have c0:=aj A3.at_ 0
 have c1:=aj A3.at_ 1
 have c2:=aj A3.at_ 2
 have x0:=aj C2.at_ 0
 have x1:=aj C2.at_ 1
 have y0:=aC C2.at_ 0
 have y1:=aC C2.at_ 1
 simp only [List.getElem?_toArray,List.getElem?_cons_zero,List.getElem?_cons_succ] at c0 c1 c2 x0 x1
 clear B2 st0 A3 o3 C2 hp2 st2 HS HI a0 a1 b0 b1
 go_wp2_with fail
 obtain⟨g1,g2,g3⟩:=HF.out
 have x0:=aj g3 0
 have x1:=aj g3 1
 simp only [List.getElem?_toArray,List.getElem?_cons_zero,List.getElem?_cons_succ] at x0 x1
 exact bodyPost_ret (v:=.tuple #[.agg #[.int .i64 0,.int .i64 0],.int .i64 8]) (by simp [results,Tryz.results97,go_sem,x0,x1]) rfl ⟨rfl,g1,g2⟩
theorem LX (w:World) (b:Nat) (S:aW) (root seq:Int) (l:List Item) (ids:List Int) (key:Bytes) (x:Item) (h:aA w b S) (hkl:key.length≤1000000) (R:bq S.L root l ids) (hs:S.stop<0) (qw:l.length<2 ^ 11) (hwd:fM key=true) (hx:aS l key=some x) (hx2:x.kind≠2) :
 Calls Tryz.prog 97 #[aF b,aY root seq,str key] w fun e w'=>e=.returned (.tuple #[aY 0 0,.int .i64 21])∧aA w' b S∧aB b w w':=by
 have o1:=(Only.refl (fun _=>False) w).alloc (.cells #[.int .i64 root,.int .i64 seq] 23)
 have h1:=h.still o1
 have A1:=bG.new h (.cells #[.int .i64 root,.int .i64 seq] 23)
 have hs1:(w.alloc (.cells #[.int .i64 root,.int .i64 seq] 23)).heap.size=w.heap.size+1:=Array.size_push _
 generalize hW1:w.alloc (.cells #[.int .i64 root,.int .i64 seq] 23)=W1 at *
 have o2:=(Only.refl (fun _=>False) W1).alloc (.cells #[.int .i64 0,.int .i64 0] 23)
 have h2:=h1.still o2
 have A2:=bG.new h1 (.cells #[.int .i64 0,.int .i64 0] 23)
 rw [hs1] at A2
 have B1:=A1.still h1 o2
 have st2:=aB.still h.lt (Only.trans o1 o2 (fun _ _ q=>q))
 have HN:=Lib.hid (fun W=>kN W key hkl)
 rw [hwd] at HN
 have HI:=Lib.hid (ji _ b S root seq l ids key h2 R hs qw hkl (jI hwd))
 unfold gH at HI
 rw [hx] at HI
 unfold iG iA aJ at HI
 clear R hx
 have hlt:=h.lt
 have HS:=Lib.hid (And.intro A2 (And.intro st2 h2))
 have a0:=aj B1.at_ 0
 have a1:=aj B1.at_ 1
 have b0:=aj A2.at_ 0
 have b1:=aj A2.at_ 1
 have y0:=aC A2.at_ 0
 have y1:=aC A2.at_ 1
 simp only [List.getElem?_toArray,List.getElem?_cons_zero,List.getElem?_cons_succ] at a0 a1 b0 b1
 have hk3:(x.kind != 2)=true:=by simpa using hx2
 clear hx2
 clear o1 o2 h1 h2 A1 A2 B1 st2 h hwd
 subst hW1
 clear hs1
 unfold aF at *
 unfold aY at *
 go_enter Tryz.func97,Tryz.ntmps97
 go_wp2_with fail
 generalize ((w.alloc (.cells #[.int .i64 root,.int .i64 seq] 23)).alloc (.cells #[.int .i64 0,.int .i64 0] 23))=W at *
 (with_reducible refine(HN.out W).mono ?_)
 rintro e _ ⟨rfl,rfl⟩
 go_wp2_with fail
 (with_reducible refine HI.out.mono ?_)
 rintro e w2 ⟨rfl,hp2,st2⟩
 obtain⟨B2,st0,_⟩:=HS.out
 have A3:=bG.new hp2 (.cells #[str x.key,str x.val,.int .i64 x.kind] 131)
 have o3:=(Only.refl (fun _=>False) w2).alloc (.cells #[str x.key,str x.val,.int .i64 x.kind] 131)
 have C2:=(B2.step st2).still hp2 o3
 have HF:=Lib.hid (eu (hp2.still o3) ((st0.trans st2).trans (aB.still hp2.lt o3)) C2 (by omega) hlt (.int .i64 0) (.int .i64 0))
 have c0:=aj A3.at_ 0
 have c1:=aj A3.at_ 1
 have c2:=aj A3.at_ 2
 have x0:=aj C2.at_ 0
 have x1:=aj C2.at_ 1
 have y0:=aC C2.at_ 0
 have y1:=aC C2.at_ 1
 simp only [List.getElem?_toArray,List.getElem?_cons_zero,List.getElem?_cons_succ] at c0 c1 c2 x0 x1
 clear B2 st0 A3 o3 C2 hp2 st2 HS HI a0 a1 b0 b1
 go_wp2_with fail
 obtain⟨g1,g2,g3⟩:=HF.out
 have x0:=aj g3 0
 have x1:=aj g3 1
 simp only [List.getElem?_toArray,List.getElem?_cons_zero,List.getElem?_cons_succ] at x0 x1
 exact bodyPost_ret (v:=.tuple #[.agg #[.int .i64 0,.int .i64 0],.int .i64 21]) (by simp [results,Tryz.results97,go_sem,x0,x1]) rfl ⟨rfl,g1,g2⟩
theorem LY (w:World) (b:Nat) (S:aW) (root seq:Int) (l:List Item) (ids:List Int) (key:Bytes) (x:Item) (rn:Nat) (sq:Int) (h:aA w b S) (hkl:key.length≤1000000) (R:bq S.L root l ids) (hs:S.stop<0) (qw:l.length<2 ^ 11) (hwd:fM key=true) (hx:aS l key=some x) (hx2:x.kind=2) (h3:rn=0∨2≤rn∧rn<4000) (h4:0≤sq∧sq≤1000000) (hv:x.val=gB rn sq) :
 Calls Tryz.prog 97 #[aF b,aY root seq,str key] w fun e w'=>e=.returned (.tuple #[aY rn sq,.int .i64 0])∧aA w' b S∧aB b w w':=by
 have o1:=(Only.refl (fun _=>False) w).alloc (.cells #[.int .i64 root,.int .i64 seq] 23)
 have h1:=h.still o1
 have A1:=bG.new h (.cells #[.int .i64 root,.int .i64 seq] 23)
 have hs1:(w.alloc (.cells #[.int .i64 root,.int .i64 seq] 23)).heap.size=w.heap.size+1:=Array.size_push _
 generalize hW1:w.alloc (.cells #[.int .i64 root,.int .i64 seq] 23)=W1 at *
 have o2:=(Only.refl (fun _=>False) W1).alloc (.cells #[.int .i64 0,.int .i64 0] 23)
 have h2:=h1.still o2
 have A2:=bG.new h1 (.cells #[.int .i64 0,.int .i64 0] 23)
 rw [hs1] at A2
 have B1:=A1.still h1 o2
 have st2:=aB.still h.lt (Only.trans o1 o2 (fun _ _ q=>q))
 have HN:=Lib.hid (fun W=>kN W key hkl)
 rw [hwd] at HN
 obtain⟨xk,xv,xd⟩:=x
 have hx2:xd=2:=hx2
 subst hx2
 have HI:=Lib.hid (ji _ b S root seq l ids key h2 R hs qw hkl (jI hwd))
 unfold gH at HI
 rw [hx] at HI
 unfold iG iA aJ at HI
 clear R hx
 have hlt:=h.lt
 have HS:=Lib.hid (And.intro A2 (And.intro st2 h2))
 have a0:=aj B1.at_ 0
 have a1:=aj B1.at_ 1
 have b0:=aj A2.at_ 0
 have b1:=aj A2.at_ 1
 have y0:=aC A2.at_ 0
 have y1:=aC A2.at_ 1
 simp only [List.getElem?_toArray,List.getElem?_cons_zero,List.getElem?_cons_succ] at a0 a1 b0 b1
 have HV:=Lib.hid (fun W=>Er W ⟨xk,xv,2⟩ rn sq h3 h4 hv)
 unfold EO at HV
 clear h3 h4 hv
 clear o1 o2 h1 h2 A1 A2 B1 st2 h hwd
 subst hW1
 clear hs1
 unfold aF at *
 unfold aY at *
 go_enter Tryz.func97,Tryz.ntmps97
 go_wp2_with fail
 generalize ((w.alloc (.cells #[.int .i64 root,.int .i64 seq] 23)).alloc (.cells #[.int .i64 0,.int .i64 0] 23))=W at *
 (with_reducible refine(HN.out W).mono ?_)
 rintro e _ ⟨rfl,rfl⟩
 go_wp2_with fail
 (with_reducible refine HI.out.mono ?_)
 rintro e w2 ⟨rfl,hp2,st2⟩
 obtain⟨B2,st0,_⟩:=HS.out
 have A3:=bG.new hp2 (.cells #[str xk,str xv,.int .i64 2] 131)
 have o3:=(Only.refl (fun _=>False) w2).alloc (.cells #[str xk,str xv,.int .i64 2] 131)
 have C2:=(B2.step st2).still hp2 o3
 have HT:=Lib.hid (And.intro C2 (And.intro ((st0.trans st2).trans (aB.still hp2.lt o3)) (hp2.still o3)))
 have c0:=aj A3.at_ 0
 have c1:=aj A3.at_ 1
 have c2:=aj A3.at_ 2
 have x0:=aj C2.at_ 0
 have x1:=aj C2.at_ 1
 have y0:=aC C2.at_ 0
 have y1:=aC C2.at_ 1
 simp only [List.getElem?_toArray,List.getElem?_cons_zero,List.getElem?_cons_succ] at c0 c1 c2 x0 x1
 clear B2 st0 A3 o3 C2 hp2 st2 HS HI a0 a1 b0 b1
 go_wp2_with fail
 generalize (w2.alloc (.cells #[str xk,str xv,.int .i64 2] 131))=W3 at *
 (with_reducible refine(HV.out W3).mono ?_)
 rintro e w4 ⟨rfl,o4⟩
 obtain⟨C2,st2,hp3⟩:=HT.out
 have D2:=C2.still hp3 o4
 have HF:=Lib.hid (eu (hp3.still o4) (st2.trans (aB.still hp3.lt o4)) D2 (by omega) hlt (.int .i64 rn) (.int .i64 sq))
 have x0:=aj D2.at_ 0
 have x1:=aj D2.at_ 1
 have y0:=aC D2.at_ 0
 have y1:=aC D2.at_ 1
 simp only [List.getElem?_toArray,List.getElem?_cons_zero,List.getElem?_cons_succ] at x0 x1
 clear C2 st2 hp3 D2 o4 HT HV c0 c1 c2
 go_wp2_with fail
 obtain⟨g1,g2,g3⟩:=HF.out
 have x0:=aj g3 0
 have x1:=aj g3 1
 simp only [List.getElem?_toArray,List.getElem?_cons_zero,List.getElem?_cons_succ] at x0 x1
 exact bodyPost_ret (v:=.tuple #[.agg #[.int .i64 rn,.int .i64 sq],.int .i64 0]) (by simp [results,Tryz.results97,go_sem,x0,x1]) rfl ⟨rfl,g1,g2⟩
def Cn (w:World) (b:Nat) (S:aW) (l:List Item) (k:Bytes):Ending→World→Prop:=fun e w'=>∃root seq er,e=.returned (.tuple #[aY root seq,.int .i64 er])∧zh l k root seq er∧aA w' b S∧aB b w w'
theorem Co (w:World) (b:Nat) (S:aW) (root seq:Int) (l:List Item) (ids:List Int) (key:Bytes) (h:aA w b S) (hkl:key.length≤1000000) (R:bq S.L root l ids) (hs:S.stop<0) (qw:l.length<2 ^ 11) (hv:∀x∈l,x.kind=2→∃(r0:Nat) (s0:Int),(r0=0∨2≤r0∧r0<4000)∧(0≤s0∧s0≤1000000)∧x.val=gB r0 s0) :
 Calls Tryz.prog 97 #[aF b,aY root seq,str key] w (Cn w b S l key):=by
 cases hw:fM key with
 | false=>exact(NY w b S root seq key h hkl hw).mono fun e w' q=>⟨_,_,_,q.1,.bad hw,q.2⟩
 | true=>
  cases hx:aS l key with
  | none=>exact(LW w b S root seq l ids key h hkl R hs qw hw hx).mono fun e w' q=>⟨_,_,_,q.1,.none hw hx,q.2⟩
  | some x=>
   by_cases h2:x.kind=2
   ·obtain⟨r0,s0,h3,h4,h5⟩:=hv x (uq hx).1 h2
    exact(LY w b S root seq l ids key x r0 s0 h hkl R hs qw hw hx h2 h3 h4 h5).mono fun e w' q=>⟨_,_,_,q.1,.some x r0 s0 hw hx h2 h3 h4 h5,q.2⟩
   ·exact(LX w b S root seq l ids key x h hkl R hs qw hw hx h2).mono fun e w' q=>⟨_,_,_,q.1,.kind x hw hx h2,q.2⟩
end
section
open Go.RowKit
def mq (l:List Item) (k:Bytes):Int:=if fM k=false then 1 else match aS l k with | none=>8 | some x=>if x.kind=2 then 0 else 21
theorem zh.err {l:List Item} {k:Bytes} {root seq er:Int} (h:zh l k root seq er):er=mq l k:=by
 unfold mq
 cases h with
 | bad h=>rw [if_pos h]
 | none hk h=>rw [if_neg (by simp [hk]),h]
 | kind x hk h h2=>rw [if_neg (by simp [hk]),h];simp [h2]
 | some x rn sq hk h h2 h3 h4 hx=>rw [if_neg (by simp [hk]),h];simp [h2]
theorem zh.zero {l:List Item} {k:Bytes} {root seq er:Int} (h:zh l k root seq er) (he:er≠0):root=0∧seq=0:=by
 cases h with
 | bad h=>exact⟨rfl,rfl⟩
 | none hk h=>exact⟨rfl,rfl⟩
 | kind x hk h h2=>exact⟨rfl,rfl⟩
 | some x rn sq hk h h2 h3 h4 hx=>exact absurd rfl he
theorem Jj {l:List Item} {k:Bytes} (h:mq l k=0):fM k=true∧∃x,aS l k=some x∧x.kind=2:=by
 unfold mq at h
 split at h
 ·cases h
 ·rename_i hk
  split at h
  ·cases h
  ·rename_i x hx
   split at h
   ·rename_i h2
    exact⟨by simpa using hk,x,hx,h2⟩
   ·cases h
theorem LZ {a b:Nat} {s t:Int} (ha:a=0∨2≤a∧a<4000) (hb:b=0∨2≤b∧b<4000) (hs:0≤s∧s≤1000000) (ht:0≤t∧t≤1000000) (h:gB a s=gB b t):a=b∧s=t:=by
 have h1:=vV ha hs
 have h2:=vV hb ht
 rw [h,h2] at h1
 simp only [Option.some.injEq,Prod.mk.injEq] at h1
 exact⟨h1.1.symm,h1.2.symm⟩
def gU (R:Path→Option Rec):Path→List Bytes→Int
 | _,[]=>0
 | p,k :: ks=>match R p with | none=>0 | some r=>if mq r.l k=0 then gU R (p++[k]) ks else mq r.l k
theorem tX {R:Path→Option Rec} {p:Path} {k:Bytes} {ks:List Bytes} {r:Rec} (h:R p=some r):gU R p (k :: ks)=if mq r.l k=0 then gU R (p++[k]) ks else mq r.l k:=by
 rw [gU,h]
theorem Held.within {S:aW} {R:Path→Option Rec} {e o p:Path} {k:Bytes} {r:Rec} (H:Held S R e o) (hp:R p=some r) (h:mq r.l k=0):qW k∧∃r',R (p++[k])=some r'∧∃x,aS r.l k=some x∧x.kind=2∧(p++[k]≠e→x.val=gB r'.root.toNat r'.seq):=by
 obtain⟨_,x,hx,h2⟩:=Jj h
 obtain⟨h3,h4⟩:=fZ hx
 obtain⟨b1,⟨r2,b2,b3⟩,b4⟩:=H.dh.sub p r x hp h3 h2
 rw [h4] at b1 b2 b3
 exact⟨b1,r2,b2,x,hx,h2,b3⟩
theorem zh.held {S:aW} {R:Path→Option Rec} {e o p:Path} {k:Bytes} {r r':Rec} {root seq:Int} (H:Held S R e o) (hL:S.L.length≤3998) (hp:R p=Option.some r) (hr:R (p++[k])=Option.some r') (he:p++[k]≠e) (h:zh r.l k root seq 0):root=r'.root∧seq=r'.seq:=by
 cases h with
 | some x rn sq hk hx h2 h3 h4 hv=>
  obtain⟨h5,h6⟩:=fZ hx
  obtain⟨b1,⟨r2,b2,b3⟩,b4⟩:=H.dh.sub p r x hp h5 h2
  rw [h6] at b2 b3
  rw [hr] at b2
  cases b2
  have hrn:=H.G7 hr hL
  have hts:=(H.dh.tree _ _ hr).2.2.1
  have:=LZ h3 hrn.2 h4 hts (by rw [←hv];exact b3 he)
  exact⟨by rw [this.1];exact hrn.1,this.2⟩
theorem F3 {R:Path→Option Rec} {p:Path} {k:Bytes} {ks:List Bytes} {r:Rec} (h:R p=some r) (h1:gU R p (k :: ks)=0):mq r.l k=0∧gU R (p++[k]) ks=0:=by
 rw [tX h] at h1
 split at h1
 ·exact⟨by assumption,h1⟩
 ·exact absurd h1 (by assumption)
theorem Held.reads {S:aW} {R:Path→Option Rec} {e o p:Path} {r:Rec} (H:Held S R e o) (hp:R p=some r):∀x∈r.l,x.kind=2→∃(r0:Nat) (s0:Int),(r0=0∨2≤r0∧r0<4000)∧(0≤s0∧s0≤1000000)∧x.val=gB r0 s0:=fun x hx h2=>(H.dh.sub p r x hp hx h2).2.2
end
section
open Go.RowKit Go.MuLone
theorem L6 (w:World) (b:Nat) (S:aW) (root seq:Int) (key:Bytes) (h:aA w b S) (hkl:key.length≤1000000) (hwd:fM key=false) :
 Calls Tryz.prog 23 #[aF b,aY root seq,str key] w fun e w'=>e=.returned (.tuple #[aY 0 0,.int .i64 1])∧aA w' b S∧aB b w w':=by
 have o1:=(Only.refl (fun _=>False) w).alloc (.cells #[.int .i64 root,.int .i64 seq] 23)
 have h1:=h.still o1
 have A1:=bG.new h (.cells #[.int .i64 root,.int .i64 seq] 23)
 have hs1:(w.alloc (.cells #[.int .i64 root,.int .i64 seq] 23)).heap.size=w.heap.size+1:=Array.size_push _
 generalize hW1:w.alloc (.cells #[.int .i64 root,.int .i64 seq] 23)=W1 at *
 have o2:=(Only.refl (fun _=>False) W1).alloc (.cells #[.int .i64 0,.int .i64 0] 23)
 have h2:=h1.still o2
 have A2:=bG.new h1 (.cells #[.int .i64 0,.int .i64 0] 23)
 rw [hs1] at A2
 have B1:=A1.still h1 o2
 have st2:=aB.still h.lt (Only.trans o1 o2 (fun _ _ q=>q))
 have HN:=Lib.hid (fun W=>kN W key hkl)
 rw [hwd] at HN
 have hlt:=h.lt
 have HS:=Lib.hid (And.intro A2 (And.intro st2 h2))
 have a0:=aj B1.at_ 0
 have a1:=aj B1.at_ 1
 have b0:=aj A2.at_ 0
 have b1:=aj A2.at_ 1
 have y0:=aC A2.at_ 0
 have y1:=aC A2.at_ 1
 simp only [List.getElem?_toArray,List.getElem?_cons_zero,List.getElem?_cons_succ] at a0 a1 b0 b1
 clear o1 o2 h1 h2 A1 A2 B1 st2 h hwd
 subst hW1
 clear hs1
 unfold aF at *
 unfold aY at *
 go_enter Tryz.func23,Tryz.ntmps23
 go_wp2_with fail
 generalize ((w.alloc (.cells #[.int .i64 root,.int .i64 seq] 23)).alloc (.cells #[.int .i64 0,.int .i64 0] 23))=W at *
 (with_reducible refine(HN.out W).mono ?_)
 rintro e _ ⟨rfl,rfl⟩
 have HF:=Lib.hid (eu HS.out.2.2 HS.out.2.1 HS.out.1 (by omega) hlt (.int .i64 0) (.int .i64 0))
 clear HS
 go_wp2_with fail
 obtain⟨g1,g2,g3⟩:=HF.out
 have x0:=aj g3 0
 have x1:=aj g3 1
 simp only [List.getElem?_toArray,List.getElem?_cons_zero,List.getElem?_cons_succ] at x0 x1
 exact bodyPost_ret (v:=.tuple #[.agg #[.int .i64 0,.int .i64 0],.int .i64 1]) (by simp [results,Tryz.results23,go_sem,x0,x1]) rfl ⟨rfl,g1,g2⟩
theorem L8 (w:World) (b:Nat) (S:aW) (root seq:Int) (l:List Item) (ids:List Int) (key:Bytes) (x:Item) (h:aA w b S) (hkl:key.length≤1000000) (R:bq S.L root l ids) (hs:S.stop<0) (qw:l.length<2 ^ 11) (hwd:fM key=true) (hx:aS l key=some x) (hx2:x.kind=2) :
 Calls Tryz.prog 23 #[aF b,aY root seq,str key] w fun e w'=>e=.returned (.tuple #[aY 0 0,.int .i64 9])∧aA w' b S∧aB b w w':=by
 have o1:=(Only.refl (fun _=>False) w).alloc (.cells #[.int .i64 root,.int .i64 seq] 23)
 have h1:=h.still o1
 have A1:=bG.new h (.cells #[.int .i64 root,.int .i64 seq] 23)
 have hs1:(w.alloc (.cells #[.int .i64 root,.int .i64 seq] 23)).heap.size=w.heap.size+1:=Array.size_push _
 generalize hW1:w.alloc (.cells #[.int .i64 root,.int .i64 seq] 23)=W1 at *
 have o2:=(Only.refl (fun _=>False) W1).alloc (.cells #[.int .i64 0,.int .i64 0] 23)
 have h2:=h1.still o2
 have A2:=bG.new h1 (.cells #[.int .i64 0,.int .i64 0] 23)
 rw [hs1] at A2
 have B1:=A1.still h1 o2
 have st2:=aB.still h.lt (Only.trans o1 o2 (fun _ _ q=>q))
 have HN:=Lib.hid (fun W=>kN W key hkl)
 rw [hwd] at HN
 obtain⟨xk,xv,xd⟩:=x
 have hx2:xd=2:=hx2
 subst hx2
 have HI:=Lib.hid (ji _ b S root seq l ids key h2 R hs qw hkl (jI hwd))
 unfold gH at HI
 rw [hx] at HI
 unfold iG iA aJ at HI
 clear R hx
 have hlt:=h.lt
 have HS:=Lib.hid (And.intro A2 (And.intro st2 h2))
 have a0:=aj B1.at_ 0
 have a1:=aj B1.at_ 1
 have b0:=aj A2.at_ 0
 have b1:=aj A2.at_ 1
 have y0:=aC A2.at_ 0
 have y1:=aC A2.at_ 1
 simp only [List.getElem?_toArray,List.getElem?_cons_zero,List.getElem?_cons_succ] at a0 a1 b0 b1
 clear o1 o2 h1 h2 A1 A2 B1 st2 h hwd
 subst hW1
 clear hs1
 unfold aF at *
 unfold aY at *
 go_enter Tryz.func23,Tryz.ntmps23
 go_wp2_with fail
 generalize ((w.alloc (.cells #[.int .i64 root,.int .i64 seq] 23)).alloc (.cells #[.int .i64 0,.int .i64 0] 23))=W at *
 (with_reducible refine(HN.out W).mono ?_)
 rintro e _ ⟨rfl,rfl⟩
 go_wp2_with fail
 (with_reducible refine HI.out.mono ?_)
 rintro e w2 ⟨rfl,hp2,st2⟩
 obtain⟨B2,st0,_⟩:=HS.out
 have A3:=bG.new hp2 (.cells #[str xk,str xv,.int .i64 2] 131)
 have o3:=(Only.refl (fun _=>False) w2).alloc (.cells #[str xk,str xv,.int .i64 2] 131)
 have C2:=(B2.step st2).still hp2 o3
 have HF:=Lib.hid (eu (hp2.still o3) ((st0.trans st2).trans (aB.still hp2.lt o3)) C2 (by omega) hlt (.int .i64 0) (.int .i64 0))
 have c0:=aj A3.at_ 0
 have c1:=aj A3.at_ 1
 have c2:=aj A3.at_ 2
 have x0:=aj C2.at_ 0
 have x1:=aj C2.at_ 1
 have y0:=aC C2.at_ 0
 have y1:=aC C2.at_ 1
 simp only [List.getElem?_toArray,List.getElem?_cons_zero,List.getElem?_cons_succ] at c0 c1 c2 x0 x1
 clear B2 st0 A3 o3 C2 hp2 st2 HS HI a0 a1 b0 b1
 go_wp2_with fail
 obtain⟨g1,g2,g3⟩:=HF.out
 have x0:=aj g3 0
 have x1:=aj g3 1
 simp only [List.getElem?_toArray,List.getElem?_cons_zero,List.getElem?_cons_succ] at x0 x1
 exact bodyPost_ret (v:=.tuple #[.agg #[.int .i64 0,.int .i64 0],.int .i64 9]) (by simp [results,Tryz.results23,go_sem,x0,x1]) rfl ⟨rfl,g1,g2⟩
theorem Jk (w:World) (b:Nat) (S:aW) (root seq:Int) (l:List Item) (ids:List Int) (key:Bytes) (x:Item) (h:aA w b S) (hkl:key.length≤1000000) (R:bq S.L root l ids) (hs:S.stop<0) (qw:l.length<2 ^ 11) (hwd:fM key=true) (hx:aS l key=some x) (hx2:x.kind≠2) :
 Calls Tryz.prog 23 #[aF b,aY root seq,str key] w fun e w'=>e=.returned (.tuple #[aY 0 0,.int .i64 21])∧aA w' b S∧aB b w w':=by
 have o1:=(Only.refl (fun _=>False) w).alloc (.cells #[.int .i64 root,.int .i64 seq] 23)
 have h1:=h.still o1
 have A1:=bG.new h (.cells #[.int .i64 root,.int .i64 seq] 23)
 have hs1:(w.alloc (.cells #[.int .i64 root,.int .i64 seq] 23)).heap.size=w.heap.size+1:=Array.size_push _
 generalize hW1:w.alloc (.cells #[.int .i64 root,.int .i64 seq] 23)=W1 at *
 have o2:=(Only.refl (fun _=>False) W1).alloc (.cells #[.int .i64 0,.int .i64 0] 23)
 have h2:=h1.still o2
 have A2:=bG.new h1 (.cells #[.int .i64 0,.int .i64 0] 23)
 rw [hs1] at A2
 have B1:=A1.still h1 o2
 have st2:=aB.still h.lt (Only.trans o1 o2 (fun _ _ q=>q))
 have HN:=Lib.hid (fun W=>kN W key hkl)
 rw [hwd] at HN
 have HI:=Lib.hid (ji _ b S root seq l ids key h2 R hs qw hkl (jI hwd))
 unfold gH at HI
 rw [hx] at HI
 unfold iG iA aJ at HI
 clear R hx
 have hlt:=h.lt
 have HS:=Lib.hid (And.intro A2 (And.intro st2 h2))
 have a0:=aj B1.at_ 0
 have a1:=aj B1.at_ 1
 have b0:=aj A2.at_ 0
 have b1:=aj A2.at_ 1
 have y0:=aC A2.at_ 0
 have y1:=aC A2.at_ 1
 simp only [List.getElem?_toArray,List.getElem?_cons_zero,List.getElem?_cons_succ] at a0 a1 b0 b1
 have hk3:(x.kind == 2)=false:=by simpa using hx2
 clear hx2
 clear o1 o2 h1 h2 A1 A2 B1 st2 h hwd
 subst hW1
 clear hs1
 unfold aF at *
 unfold aY at *
 go_enter Tryz.func23,Tryz.ntmps23
 go_wp2_with fail
 generalize ((w.alloc (.cells #[.int .i64 root,.int .i64 seq] 23)).alloc (.cells #[.int .i64 0,.int .i64 0] 23))=W at *
 (with_reducible refine(HN.out W).mono ?_)
 rintro e _ ⟨rfl,rfl⟩
 go_wp2_with fail
 (with_reducible refine HI.out.mono ?_)
 rintro e w2 ⟨rfl,hp2,st2⟩
 obtain⟨B2,st0,_⟩:=HS.out
 have A3:=bG.new hp2 (.cells #[str x.key,str x.val,.int .i64 x.kind] 131)
 have o3:=(Only.refl (fun _=>False) w2).alloc (.cells #[str x.key,str x.val,.int .i64 x.kind] 131)
 have C2:=(B2.step st2).still hp2 o3
 have HF:=Lib.hid (eu (hp2.still o3) ((st0.trans st2).trans (aB.still hp2.lt o3)) C2 (by omega) hlt (.int .i64 0) (.int .i64 0))
 have c0:=aj A3.at_ 0
 have c1:=aj A3.at_ 1
 have c2:=aj A3.at_ 2
 have x0:=aj C2.at_ 0
 have x1:=aj C2.at_ 1
 have y0:=aC C2.at_ 0
 have y1:=aC C2.at_ 1
 simp only [List.getElem?_toArray,List.getElem?_cons_zero,List.getElem?_cons_succ] at c0 c1 c2 x0 x1
 clear B2 st0 A3 o3 C2 hp2 st2 HS HI a0 a1 b0 b1
 go_wp2_with fail
 obtain⟨g1,g2,g3⟩:=HF.out
 have x0:=aj g3 0
 have x1:=aj g3 1
 simp only [List.getElem?_toArray,List.getElem?_cons_zero,List.getElem?_cons_succ] at x0 x1
 exact bodyPost_ret (v:=.tuple #[.agg #[.int .i64 0,.int .i64 0],.int .i64 21]) (by simp [results,Tryz.results23,go_sem,x0,x1]) rfl ⟨rfl,g1,g2⟩
theorem NZ (w:World) (b:Nat) (S:aW) (root seq:Int) (l:List Item) (ids:List Int) (key:Bytes) (S2:aW) (r:Int) (m:Nat) (h:aA w b S) (hkl:key.length≤1000000) (R:bq S.L root l ids) (hs:S.stop<0) (qw:l.length<2 ^ 11) (hwd:fM key=true) (hx:aS l key=none) (hm:l.length<2 ^ m) (hm2:m≤11) (hL:S.L.length+4+2 * m≤3998) (hg:S.given.length+60<1000000) (hi:dK (gT key fH)=true) (hk:gV S root (gT key fH)=(.ok r,S2)) :
 Calls Tryz.prog 23 #[aF b,aY root seq,str key] w fun e w'=>e=.returned (.tuple #[aY r seq,.int .i64 0])∧aA w' b S2∧aB b w w':=by
 have o1:=(Only.refl (fun _=>False) w).alloc (.cells #[.int .i64 root,.int .i64 seq] 23)
 have h1:=h.still o1
 have A1:=bG.new h (.cells #[.int .i64 root,.int .i64 seq] 23)
 have hs1:(w.alloc (.cells #[.int .i64 root,.int .i64 seq] 23)).heap.size=w.heap.size+1:=Array.size_push _
 generalize hW1:w.alloc (.cells #[.int .i64 root,.int .i64 seq] 23)=W1 at *
 have o2:=(Only.refl (fun _=>False) W1).alloc (.cells #[.int .i64 0,.int .i64 0] 23)
 have h2:=h1.still o2
 have A2:=bG.new h1 (.cells #[.int .i64 0,.int .i64 0] 23)
 rw [hs1] at A2
 have B1:=A1.still h1 o2
 have st2:=aB.still h.lt (Only.trans o1 o2 (fun _ _ q=>q))
 have HN:=Lib.hid (fun W=>kN W key hkl)
 rw [hwd] at HN
 have HL:Hid (∀W,Calls Tryz.prog 14 #[.agg #[.int .i64 0,.int .i64 0]] W fun e w'=>e=.returned (str (gB 0 0))∧Only (fun _=>False) W w'):=Lib.hid (fun W=>Ci W 0 (by omega) 0)
 have TJ:Hid (∀W,aA W b S→Calls Tryz.prog 96 #[aF b,aY root seq,.agg #[str key,str (gB 0 0),.int .i64 2],.agg #[str [],str [],.int .i64 0]] W fun e w'=>e=.returned (.tuple #[aY r seq,.int .i64 0])∧aA w' b S2∧aB b W w'):=Lib.hid (fun W hp=>vv W b S S2 root r seq l ids (gT key fH) ⟨[],[],0⟩ m hp hi R hs hm hm2 hL hg hk (.inr ⟨[],.plain [] [] (by decide)⟩))
 have hml:maxLen=9223372036854775807:=by decide
 have HI:=Lib.hid (ji _ b S root seq l ids key h2 R hs qw hkl (jI hwd))
 unfold gH at HI
 rw [hx] at HI
 unfold iG at HI
 clear R hx
 have hlt:=h.lt
 have HS:=Lib.hid (And.intro A2 (And.intro st2 h2))
 have a0:=aj B1.at_ 0
 have a1:=aj B1.at_ 1
 have b0:=aj A2.at_ 0
 have b1:=aj A2.at_ 1
 have y0:=aC A2.at_ 0
 have y1:=aC A2.at_ 1
 simp only [List.getElem?_toArray,List.getElem?_cons_zero,List.getElem?_cons_succ] at a0 a1 b0 b1
 clear hi hk hml
 have HB1:=Lib.hid B1
 clear o1 o2 h1 h2 A1 A2 B1 st2 h hwd
 subst hW1
 clear hs1
 unfold aF at *
 unfold aY at *
 go_enter Tryz.func23,Tryz.ntmps23
 go_wp2_with fail
 generalize ((w.alloc (.cells #[.int .i64 root,.int .i64 seq] 23)).alloc (.cells #[.int .i64 0,.int .i64 0] 23))=W at *
 (with_reducible refine(HN.out W).mono ?_)
 rintro e _ ⟨rfl,rfl⟩
 go_wp2_with fail
 (with_reducible refine HI.out.mono ?_)
 rintro e w2 ⟨rfl,hp2,st2⟩
 obtain⟨B2,st0,_⟩:=HS.out
 have A3:=bG.new hp2 (.cells #[str [],str [],.int .i64 0] 131)
 have o3:=(Only.refl (fun _=>False) w2).alloc (.cells #[str [],str [],.int .i64 0] 131)
 have C2:=(B2.step st2).still hp2 o3
 have HT:=Lib.hid (And.intro C2 (And.intro ((st0.trans st2).trans (aB.still hp2.lt o3)) (And.intro (hp2.still o3) ((HB1.out.step st2).still hp2 o3))))
 have c0:=aj A3.at_ 0
 have c1:=aj A3.at_ 1
 have c2:=aj A3.at_ 2
 have x0:=aj C2.at_ 0
 have x1:=aj C2.at_ 1
 have y0:=aC C2.at_ 0
 have y1:=aC C2.at_ 1
 simp only [List.getElem?_toArray,List.getElem?_cons_zero,List.getElem?_cons_succ] at c0 c1 c2 x0 x1
 have C1:=(HB1.out.step st2).still hp2 o3
 have a0:=aj C1.at_ 0
 have a1:=aj C1.at_ 1
 simp only [List.getElem?_toArray,List.getElem?_cons_zero,List.getElem?_cons_succ] at a0 a1
 clear C1 B2 st0 A3 o3 C2 hp2 st2 HS HI b0 b1
 go_upto_region 10 with fail
 generalize (w2.alloc (.cells #[str [],str [],.int .i64 0] 131))=W3 at *
 obtain⟨C2,st2,hp3,C1⟩:=HT.out
 have Dc:=Lib.hid (And.intro C2 (And.intro st2 hp3))
 clear C2 st2 hp3 C1 HT HB1 HN c0 c1 c2
 go_region_law (first
  |(rw [if_pos (by simp [Region.wanted])];go_simp;(with_reducible refine(HL.out _).mono ?_);rintro _ w5 ⟨rfl,o5⟩;have L9:Only (fun _=>False) W3 w5:=(by first | exact o5 | exact((Only.refl _ W3).drew).trans o5 (fun _ _ q=>q));have k0:=(L9.cell (p:=⟨w.heap.size,0,none⟩) (lt_of_cell a0) id).trans a0;have k1:=(L9.cell (p:=⟨w.heap.size,1,none⟩) (lt_of_cell a1) id).trans a1)
  |(rw [if_pos (by simp [Region.wanted])];go_simp;(with_reducible refine(TJ.out _ (Dc.out.2.2.still L9)).mono ?_);rintro _ w6 ⟨rfl,mM,xA⟩;have D2:=(Dc.out.1.still Dc.out.2.2 L9).step xA;have d0:=aj D2.at_ 0;have d1:=aj D2.at_ 1;have e0:=aC D2.at_ 0;have e1:=aC D2.at_ 1;simp only [List.getElem?_toArray,List.getElem?_cons_zero,List.getElem?_cons_succ] at d0 d1;have HF:=Lib.hid (eu mM ((Dc.out.2.1.trans (aB.still Dc.out.2.2.lt L9)).trans xA) D2 (by omega) hlt (.int .i64 r) (.int .i64 seq));clear D2 mM xA))
 all_goals
  go_wp2_with fail
  obtain⟨g1,g2,g3⟩:=HF.out
  have x0:=aj g3 0
  have x1:=aj g3 1
  simp only [List.getElem?_toArray,List.getElem?_cons_zero,List.getElem?_cons_succ] at x0 x1
  exact bodyPost_ret (v:=.tuple #[.agg #[.int .i64 r,.int .i64 seq],.int .i64 0]) (by simp [results,Tryz.results23,go_sem,x0,x1]) rfl ⟨rfl,g1,g2⟩
end
section
open Go.RowKit Go.MuLone
structure Names (w:World) (b:Nat) (v:Value) (l:List Bytes):Prop where
 row:bL bk.qd 1 w v l
 away:∀j,bI v=some j→¬bn w b j∧j<w.heap.size
theorem Names.step {w w':World} {b:Nat} {v:Value} {l:List Bytes} (h:Names w b v l) (st:aB b w w'):Names w' b v l:=
 ⟨aU h.row st.only fun j q=>(h.away j q).1,fun j q=>⟨fun z=>(st.own j z).elim (h.away j q).1 fun z=>by have:=(h.away j q).2;omega,Nat.lt_of_lt_of_le (h.away j q).2 st.only.size⟩⟩
def Es (w:World) (b:Nat) (S:aW) (R:Path→Option Rec) (pre:Path) (names:List Bytes):Ending→World→Prop:=fun e w'=>∃root seq er,e=.returned (.tuple #[aY root seq,.int .i64 er])∧er=gU R pre names∧(er=0→∃r,R (pre++names)=some r∧root=r.root∧seq=r.seq)∧(er≠0→root=0∧seq=0)∧aA w' b S∧aB b w w'
theorem oJ {w w2:World} {b B:Nat} {S:aW} {y0 y1:Value} {t:TypeId} (hp:aA w2 b S) (st:aB b w w2) (hB:bG w2 b B (.cells #[y0,y1] t (0,0))) (hf:w.heap.size≤B) (hlt:b<w.heap.size) (x0 x1:Value) :
 aA ((w2.setCell ⟨B,0,none⟩ x0).setCell ⟨B,1,none⟩ x1) b S∧aB b w ((w2.setCell ⟨B,0,none⟩ x0).setCell ⟨B,1,none⟩ x1)∧bG ((w2.setCell ⟨B,0,none⟩ x0).setCell ⟨B,1,none⟩ x1) b B (.cells #[x0,x1] t (0,0))∧Only (fun k=>k=B) w2 ((w2.setCell ⟨B,0,none⟩ x0).setCell ⟨B,1,none⟩ x1)∧∀k,bn ((w2.setCell ⟨B,0,none⟩ x0).setCell ⟨B,1,none⟩ x1) b k↔bn w2 b k:=by
 obtain⟨h1,h2,h3⟩:=eu hp st hB hf hlt x0 x1
 have ho:Only (fun k=>k=B) w2 ((w2.setCell ⟨B,0,none⟩ x0).setCell ⟨B,1,none⟩ x1):=((Only.refl (fun k=>k=B) w2).put B 0 rfl _).put B 1 rfl _
 have hb:b≠B:=by omega
 have hpo:=aD (ho.block b (Nat.lt_of_lt_of_le hlt st.only.size) (fun q=>hb q))
 exact⟨h1,h2,⟨h3,fun q=>hB.not ((hpo B).1 q)⟩,ho,hpo⟩
theorem bG.set {w w2:World} {b B C:Nat} {o:Obj} (h:bG w b C o) (ho:Only (fun k=>k=B) w w2) (hp:∀k,bn w2 b k↔bn w b k) (hne:C≠B):bG w2 b C o:=
 ⟨dR h.at_ ho hne,fun q=>h.not ((hp C).1 q)⟩
theorem Eo (w:World) (b:Nat) (S:aW) (R:Path→Option Rec) (pre:Path) (r0:Rec) (a:Option Addr) (c:Nat) (names:List Bytes) (h:aA w b S) (H:Held S R [] []) (hp0:R pre=some r0) (hL:S.L.length≤3998) (gy:∀p r,R p=some r→r.l.length<2 ^ 11) (hN:Names w b (.slice a names.length c) names) (hnl:names.length≤1000) (hlen:∀x∈names,x.length≤1000000) :
 Calls Tryz.prog 25 #[aF b,aY r0.root r0.seq,.slice a names.length c] w (Es w b S R pre names):=by
 have o1:=(Only.refl (fun _=>False) w).alloc (.cells #[.int .i64 r0.root,.int .i64 r0.seq] 23)
 have h1:=h.still o1
 have A1:=bG.new h (.cells #[.int .i64 r0.root,.int .i64 r0.seq] 23)
 have hs1:(w.alloc (.cells #[.int .i64 r0.root,.int .i64 r0.seq] 23)).heap.size=w.heap.size+1:=Array.size_push _
 generalize hW1:w.alloc (.cells #[.int .i64 r0.root,.int .i64 r0.seq] 23)=W1 at *
 have o2:=(Only.refl (fun _=>False) W1).alloc (.cells #[.int .i64 0,.int .i64 0] 23)
 have h2:=h1.still o2
 have A2:=bG.new h1 (.cells #[.int .i64 0,.int .i64 0] 23)
 rw [hs1] at A2
 have B1:=A1.still h1 o2
 have st2:=aB.still h.lt (Only.trans o1 o2 (fun _ _ q=>q))
 have hlt:=h.lt
 have HS:=Lib.hid (And.intro h2 (And.intro st2 (And.intro B1 A2)))
 have HN:=Lib.hid hN
 have HH:=Lib.hid H
 have X7:=Lib.hid H.stop
 have X8:=Lib.hid hp0
 clear o1 o2 h1 h2 A1 A2 B1 st2 h hN H hp0
 subst hW1
 clear hs1
 unfold aF aY
 go_enter Tryz.func25,Tryz.ntmps25
 go_wp2_with fail
 generalize ((w.alloc (.cells #[.int .i64 r0.root,.int .i64 r0.seq] 23)).alloc (.cells #[.int .i64 0,.int .i64 0] 23))=W at *
 go_loopg [14] names.length (fun gh iv wr=>∃(i:Nat) (r:Rec),gh+i=names.length∧iv=.int .i64 (i:Int)∧R (pre++names.take i)=some r∧gU R pre names=gU R (pre++names.take i) (names.drop i)∧aA wr b S∧aB b w wr∧bG wr b w.heap.size (.cells #[.int .i64 r.root,.int .i64 r.seq] 23 (0,0))∧bG wr b (w.heap.size+1) (.cells #[.int .i64 0,.int .i64 0] 23 (0,0)))
 case atStart=>exact⟨0,r0,by omega,rfl,by simpa using X8.out,by simp,HS.out.1,HS.out.2.1,HS.out.2.2.1,HS.out.2.2.2⟩
 case round=>
  obtain⟨i,r,u6,rfl,hr,hfe,hp,st,C1,C2⟩:=hrel
  have WA:=Lib.hid hfe
  have HR:=Lib.hid hr
  have HC:=Lib.hid (And.intro C1 C2)
  have wI:=Lib.hid (And.intro hp st)
  have c0:=aj C1.at_ 0
  have c1:=aj C1.at_ 1
  have y0:=aC C1.at_ 0
  have y1:=aC C1.at_ 1
  have d0:=aj C2.at_ 0
  have d1:=aj C2.at_ 1
  have z0:=aC C2.at_ 0
  have z1:=aC C2.at_ 1
  simp only [List.getElem?_toArray,List.getElem?_cons_zero,List.getElem?_cons_succ] at c0 c1 d0 d1
  have X9:=Lib.hid (HN.out.step st)
  clear hfe hr hp st C1 C2
  by_cases hi:i<names.length
  ·obtain⟨x,hx⟩:∃x,names[i]? = some x:=⟨_,List.getElem?_eq_getElem hi⟩
   obtain⟨g,off,rfl,hcell⟩  :=bk.vT X9.out.row hx
   have hc:=hcell 0 (str x) rfl
   simp only [Nat.mul_one,Nat.add_zero] at hc
   have hxl:=hlen x (List.mem_of_getElem? hx)
   have hi1:(i:Int)<(names.length:Int):=by omega
   have hi0:(0:Int)≤(i:Int):=by omega
   have hw1:IntKind.i64.wrap ((i:Int)+1)=(i:Int)+1:=by exact IntWalk.i64_in _ (by omega)
   have HX:Hid (names.drop i=x :: names.drop (i+1)∧names.take (i+1)=names.take i++[x]):=Lib.hid ⟨by
    rw [List.drop_eq_getElem_cons hi]
    rw [List.getElem?_eq_getElem hi] at hx
    rw [Option.some.inj hx],by rw [List.take_add_one,hx];rfl⟩
   have HB:=HH.out.dh.tree _ r HR.out
   have HO:=Lib.hid (Co wr b S r.root r.seq r.l r.ids x wI.out.1 hxl HB.1 (by have:=X7.out;omega) (gy _ r HR.out) (HH.out.reads HR.out))
   unfold Cn at HO
   unfold aF aY at HO
   have xB:=Lib.hid u6
   clear HB hcell hx u6
   go_wp2_with fail
   (with_reducible refine HO.out.mono ?_)
   rintro e w4 ⟨root,seq,er,rfl,hone,iD,fP⟩
   obtain⟨C1,C2⟩:=HC.out
   have D1:=C1.step fP
   have D2:=C2.step fP
   have n5:=dw w4 (.cells #[.int .i64 root,.int .i64 seq] 23)
   have o5:=(Only.refl (fun _=>False) w4).alloc (.cells #[.int .i64 root,.int .i64 seq] 23)
   have E1:=D1.still iD o5
   have E2:=D2.still iD o5
   have oh:=iD.still o5
   have sQ:=(wI.out.2.trans fP).trans (aB.still iD.lt o5)
   have c0:=aj E1.at_ 0
   have c1:=aj E1.at_ 1
   have y0:=aC E1.at_ 0
   have y1:=aC E1.at_ 1
   have d0:=aj E2.at_ 0
   have d1:=aj E2.at_ 1
   have z0:=aC E2.at_ 0
   have z1:=aC E2.at_ 1
   have e0:=aj n5 0
   have e1:=aj n5 1
   simp only [List.getElem?_toArray,List.getElem?_cons_zero,List.getElem?_cons_succ] at c0 c1 d0 d1 e0 e1
   have F4:=hone.err
   have QI:Hid (gU R pre names=if mq r.l x=0 then gU R (pre++names.take (i+1)) (names.drop (i+1)) else mq r.l x):=Lib.hid (by rw [WA.out,HX.out.1,tX HR.out,HX.out.2,List.append_assoc])
   have UD:=Lib.hid hone
   have G8:=Lib.hid F4
   by_cases hz:er=0
   ·subst hz
    have hf2:=oJ oh sQ E1 (Nat.le_refl _) hlt (.int .i64 root) (.int .i64 seq)
    have HF:=Lib.hid (And.intro hf2 (E2.set hf2.2.2.2.1 hf2.2.2.2.2 (by omega)))
    clear C1 C2 D1 D2 n5 o5 E1 E2 oh sQ hf2 iD fP hone F4 HO HC wI
    go_wp2_with fail
    go_roundg (names.length-(i+1))
    case measure=>have:=xB.out;omega
    case rel=>
     obtain⟨⟨g1,g2,g3,_⟩,g4⟩:=HF.out
     have hw:=HH.out.within HR.out G8.out.symm
     obtain⟨_,r',hr',_⟩:=hw
     have hrt:=UD.out.held HH.out hL HR.out hr' (by simp)
     refine⟨i+1,r',by omega,by go_num,?_,?_,g1,g2,?_,g4⟩
     ·rw [HX.out.2,←List.append_assoc];exact hr'
     ·rw [QI.out,if_pos G8.out.symm]
     ·rw [←hrt.1,←hrt.2];exact g3
   ·have hz1:(er != 0)=true:=by simpa using hz
    have HF:=Lib.hid (eu oh sQ E2 (by omega) hlt (.int .i64 0) (.int .i64 0))
    clear C1 C2 D1 D2 n5 o5 E1 E2 oh sQ iD fP hone F4 HO HC wI
    go_wp2_with fail
    obtain⟨g1,g2,g3⟩:=HF.out
    have x0:=aj g3 0
    have x1:=aj g3 1
    simp only [List.getElem?_toArray,List.getElem?_cons_zero,List.getElem?_cons_succ] at x0 x1
    exact bodyPost_ret (v:=.tuple #[.agg #[.int .i64 0,.int .i64 0],.int .i64 er]) (by simp [results,Tryz.results25,go_sem,x0,x1]) rfl ⟨0,0,er,rfl,by rw [QI.out,if_neg (by rw [←G8.out];exact hz),G8.out],fun q=>absurd q hz,fun _=>⟨rfl,rfl⟩,g1,g2⟩
  ·obtain rfl:i=names.length:=by omega
   have hi1:¬(names.length:Int)<(names.length:Int):=by omega
   have HF:=Lib.hid (eu wI.out.1 wI.out.2 HC.out.2 (by omega) hlt (.int .i64 r.root) (.int .i64 r.seq))
   clear wI HC
   go_wp2_with fail
   obtain⟨g1,g2,g3⟩:=HF.out
   have x0:=aj g3 0
   have x1:=aj g3 1
   simp only [List.getElem?_toArray,List.getElem?_cons_zero,List.getElem?_cons_succ] at x0 x1
   have hr:=HR.out
   have hf:=WA.out
   rw [List.take_length] at hr hf
   rw [List.drop_length,gU] at hf
   exact bodyPost_ret (v:=.tuple #[.agg #[.int .i64 r.root,.int .i64 r.seq],.int .i64 0]) (by simp [results,Tryz.results25,go_sem,x0,x1]) rfl ⟨r.root,r.seq,0,rfl,hf.symm,fun _=>⟨r,hr,rfl,rfl⟩,fun q=>absurd rfl q,g1,g2⟩
end
section
open Go.RowKit
theorem zi (v:Bytes):((List.range (bW v.length)).map (fJ v)).flatten=v:=by
 have key:∀n,((List.range n).map (fJ v)).flatten=v.take (n * 232):=by
  intro n
  induction n with
  | zero=>simp
  | succ n ih=>
   rw [List.range_succ,List.map_append,List.flatten_append,ih]
   simp only [List.map_cons,List.map_nil,List.flatten_cons,List.flatten_nil,List.append_nil]
   exact sP v n
 rw [key]
 exact zX v
theorem Sem.one {L:List Node} {x:Item} {v u:Bytes} (h:Sem L x v) (h2:Sem L x u):v=u:=by
 cases h with
 | plain k v h=>
  cases h2
  rfl
 | far k v first h hf hL=>
  generalize hx:(⟨k,gD first v.length,1⟩:Item)=x at h2
  cases h2 with
  | plain k u h=>cases hx
  | far k2 u Vj h3 hf2 hL2=>
   simp only [Item.mk.injEq,and_true] at hx
   have e1:=congrArg (fun b:Bytes=>gu (b.take 2)) hx.2
   have e2:=congrArg (fun b:Bytes=>gu (b.drop 2)) hx.2
   simp only [gD] at e1 e2
   rw [List.take_left' (nR _ _),List.take_left' (nR _ _),jc (by omega),jc (by omega)] at e1
   rw [List.drop_left' (nR _ _),List.drop_left' (nR _ _),jc (by omega),jc (by omega)] at e2
   subst e1
   have hpp:∀i,i<bW v.length→fJ v i=fJ u i:=fun i hi=>by
    have a1:=hL i hi
    have a2:=hL2 i (by rw [←e2];exact hi)
    rw [a1] at a2
    exact Node.over.inj (Option.some.inj a2)
   rw [←zi v,←zi u,←e2]
   congr 1
   exact List.map_congr_left fun i hi=>hpp i (List.mem_range.1 hi)
open Classical in
noncomputable def valOf (L:List Node) (x:Item):Bytes:=if h:∃v,Sem L x v then h.choose else []
theorem Sem.val {L:List Node} {x:Item} {v:Bytes} (h:Sem L x v):valOf L x=v:=by
 unfold valOf
 rw [dif_pos ⟨v,h⟩]
 exact(Exists.choose_spec (⟨v,h⟩:∃v,Sem L x v)).one h
noncomputable def vw (L:List Node) (x:Item):Bytes×Option Bytes:=(x.key,if x.kind=2 then none else some (valOf L x))
noncomputable def View (L:List Node) (R:Path→Option Rec) (p:Path):Option (Int×List (Bytes×Option Bytes)):=(R p).map fun r=>(r.seq,r.l.map (vw L))
theorem G9 {L L':List Node} {x:Item} (hx:x.kind=2∨∃v,Sem L x v) (hk:∀j∈aX x,nodeAt L' j=nodeAt L j):vw L' x=vw L x:=by
 unfold vw
 by_cases h2:x.kind=2
 ·rw [if_pos h2,if_pos h2]
 ·obtain⟨v,hv⟩:=hx.resolve_left h2
  rw [if_neg h2,if_neg h2,hv.val,(hv.keep hk).val]
theorem Held.NU {S:aW} {R:Path→Option Rec} {e o p:Path} {r:Rec} (H:Held S R e o) (hp:R p=some r):∀x∈r.l,x.kind=2∨∃v,Sem S.L x v:=fun x hx=>by
 by_cases h2:x.kind=2
 ·exact .inl h2
 ·exact .inr (H.dh.val p r x hp hx h2)
theorem Held.AJ {S:aW} {R:Path→Option Rec} {e o p q:Path} {r:Rec} {L':List Node} (H:Held S R e o) (hp:R p=some r) (hq:q≠p) (hk:∀j:Int,j<(S.L.length:Int)+2→j∉r.ids→nodeAt L' j=nodeAt S.L j):View L' R q=View S.L R q:=by
 unfold View
 cases hr:R q with
 | none=>rfl
 | some rq=>
  simp only [Option.map_some,Option.some.injEq,Prod.mk.injEq,true_and]
  refine List.map_congr_left fun x hx=>G9 (H.NU hr x hx) fun j hj=>?_
  have hin:j∈rq.own:=bP.2 (.inr ⟨x,hx,hj⟩)
  exact hk j (H.dh.there hr j hin).2 fun z=>H.dh.apart q p rq r hq hr hp j hin (bP.2 (.inl z))
theorem Held.Az {S:aW} {R:Path→Option Rec} {e o p:Path} {r:Rec} {L':List Node} {x:Item} (H:Held S R e o) (hp:R p=some r) (hx:x∈r.l) (hk:∀j:Int,j<(S.L.length:Int)+2→j∉r.ids→nodeAt L' j=nodeAt S.L j):vw L' x=vw S.L x:=
 G9 (H.NU hp x hx) fun j hj=>hk j (H.dh.there hp j (bP.2 (.inr ⟨x,hx,hj⟩))).2 (d9 (H.dh.tree p r hp).2.2.2 hx hj)
theorem Ma {α:Type} (f:Item→α) {l:List Item} {i x:Item} (hx:aS l i.key=some x) (hf:f i=f x):(dS l i).map f=l.map f:=by
 have h1:=wu l i.key
 rw [hx] at h1
 have hat:pX l i.key=true:=by
  by_cases h:pX l i.key=true
  ·exact h
  ·rw [if_neg h] at h1;cases h1
 rw [if_pos hat] at h1
 rw [GU,if_pos hat,List.map_append,List.map_cons,hf]
 conv=>rhs;rw [←List.take_append_drop (findAt l i.key) l]
 rw [List.map_append]
 congr 1
 have hlt:findAt l i.key<l.length:=by
  rcases Nat.lt_or_ge (findAt l i.key) l.length with h | h
  ·exact h
  ·rw [List.getElem?_eq_none h] at h1;cases h1
 rw [List.drop_eq_getElem_cons hlt,List.map_cons]
 rw [List.getElem?_eq_getElem hlt] at h1
 rw [←Option.some.inj h1]
structure pV (m:Nat) (S:aW) (R:Path→Option Rec) (pre:Path) (suf:List Bytes) (S':aW) (R':Path→Option Rec) (r':Rec):Prop where
 held:Held S' R' pre []
 at_:R' pre=some r'
 full:Full S R→Full S' R'
 len:S'.L.length≤S.L.length+suf.length * (2+2 * m)
 grow:S.L.length≤S'.L.length
 given:S'.given.length≤S.given.length+suf.length * 33
 same:∀q,View S'.L R' q=View S.L R q
 out:∀q,¬pre <+: q→R' q=R q
theorem pV.nil {m:Nat} {S:aW} {R:Path→Option Rec} {pre:Path} {r:Rec} (H:Held S R pre []) (hp:R pre=some r):pV m S R pre [] S R r:=
 ⟨H,hp,id,by simp,Nat.le_refl _,by simp,fun _=>rfl,fun _ _=>rfl⟩
theorem pV.cons {m:Nat} {S:aW} {R:Path→Option Rec} {pre:Path} {k:Bytes} {suf:List Bytes} {S1:aW} {R1:Path→Option Rec} {r1 rp:Rec} {e:Path} (H:Held S R e []) (T:pV m S R (pre++[k]) suf S1 R1 r1) (hp:R pre=some rp) (h1:mq rp.l k=0) (hm:rp.l.length<2 ^ m) (hm2:m≤11) (hL:S1.L.length+4+2 * m≤3998) :
 ∃root' S2 bE,gV S1 rp.root (gT k r1)=(.ok root',S2)∧pV m S R pre (k :: suf) S2 (upd R1 pre ⟨root',rp.seq,dS rp.l (gT k r1),bE⟩) ⟨root',rp.seq,dS rp.l (gT k r1),bE⟩∧dK (gT k r1)=true∧bq S1.L rp.root rp.l rp.ids:=by
 obtain⟨hk,r',hr',x,hx,hx2,_⟩:=H.within hp h1
 have hp1:R1 pre=some rp:=by rw [T.out pre iF];exact hp
 have hris:=((aH _).1 (H.dh.tree pre rp hp).2.1).2
 obtain⟨hxm,hxk⟩:=fZ hx
 obtain⟨root',S2,bE,g1,g2,g3,g4,g5,g6,g7⟩:=T.held.Ep (p:=pre) (k:=k) (r:=rp) (rin:=r1) (m:=m) (.inr rfl) (.inl rfl) hp1 T.at_ hk (fun y hy hyk=>by
  have:=qY hris hy hxm (by rw [hyk,hxk])
  rw [this];exact hx2) hm hm2 hL
 have htr:=T.held.dh.tree pre rp hp1
 have hother:∀j:Int,j<(S1.L.length:Int)+2→j∉rp.ids→nodeAt S2.L j=nodeAt S1.L j:=by
  obtain⟨SB,p2,qc,q1,q2,_,M⟩:=lZ S1 rp.root rp.l rp.ids (gT k r1) (uY hk r1) htr.1 (by have:=T.held.stop;omega) m hm hm2 hL
  rw [g1] at q1
  cases q1
  exact fun j hj hn=>M.other j (by omega) (.inl hn)
 refine⟨root',S2,bE,g1,⟨g2,bV _ _ _,fun F=>g3 (T.full F),?_,Nat.le_trans T.grow g5,?_,fun q=>?_,fun q hq=>?_⟩,uY hk r1,htr.1⟩
 ·have:=T.len
  rw [List.length_cons,Nat.succ_mul]
  omega
 ·have:=T.given
  rw [List.length_cons]
  omega
 ·by_cases Jc:q=pre
  ·subst Jc
   have hv:=T.same q
   unfold View at hv ⊢
   rw [bV]
   rw [hp1,hp] at hv
   rw [hp]
   simp only [Option.map_some,Option.some.injEq,Prod.mk.injEq,true_and] at hv ⊢
   rw [←hv]
   have:(dS rp.l (gT k r1)).map (vw S2.L)=rp.l.map (vw S2.L):=Ma (vw S2.L) (i:=gT k r1) (x:=x) hx (by unfold vw gT;simp [hxk,hx2])
   rw [this]
   exact List.map_congr_left fun y hy=>T.held.Az hp1 hy hother
  ·have:View S2.L (upd R1 pre ⟨root',rp.seq,dS rp.l (gT k r1),bE⟩) q=View S2.L R1 q:=by unfold View;rw [upd_ne Jc]
   rw [this,T.held.AJ hp1 Jc hother,T.same q]
 ·rw [upd_ne (fun e=>hq (by rw [e];exact List.prefix_refl _))]
  exact T.out q fun z=>hq ((List.prefix_append _ _).trans z)
end
section
open Go.RowKit
theorem nZ:∀(n:Nat) (l:List Int),l.Nodup→(∀j∈l,2≤j∧j<(n:Int)+2)→l.length≤n
 | 0,l,_,h=>by
  cases l with
  | nil=>simp
  | cons a l=>have:=h a (by simp);omega
 | n+1,l,hn,h=>by
  by_cases ha:((n:Int)+2)∈l
  ·have h2:=nZ n (l.erase ((n:Int)+2)) (hn.erase _) fun j hj=>by
    have h3:=(hn.mem_erase_iff).1 hj
    have:=h j h3.2
    omega
   rw [List.length_erase_of_mem ha] at h2
   omega
  ·have h2:=nZ n l hn fun j hj=>by
    have h3:=h j hj
    have:j≠(n:Int)+2:=fun e=>ha (e▸hj)
    omega
   omega
def under (R:Path→Option Rec) (p:Path) (j:Int):Prop:=∃q rq,R q=some rq∧p <+: q∧j∈rq.own
def kD (R:Path→Option Rec) (p:Path) (x:Item) (j:Int):Prop:=(x.kind≠2∧j∈aX x)∨(x.kind=2∧under R (p++[x.key]) j)
theorem Held.prefix {S:aW} {R:Path→Option Rec} {e p:Path} (H:Held S R e []):∀(n:Nat) (q:Path) (r:Rec),q.length=p.length+n→R q=some r→p <+: q→∃r',R p=some r'
 | 0,q,r,hn,hq,hpq=>by
  have:=hpq.eq_of_length (by omega)
  subst this
  exact⟨r,hq⟩
 | n+1,q,r,hn,hq,hpq=>by
  obtain⟨q',a,rfl⟩:∃q' a,q=q'++[a]:=by
   rcases List.eq_nil_or_concat q with h |⟨q',a,h⟩
   ·rw [h] at hn;simp at hn
   ·exact⟨q',a,by simpa using h⟩
  rcases List.prefix_concat_iff.1 hpq with h | h
  ·exact⟨r,by rw [h];simpa using hq⟩
  ·obtain⟨r0,x,h1,_⟩:=H.dh.up q' a r hq (by simp)
   exact Held.prefix H n q' r0 (by simp at hn;omega) h1 h
theorem Held.AL {S:aW} {R:Path→Option Rec} {e p:Path} {r:Rec} (H:Held S R e []) (hp:R p=some r) (j:Int):under R p j↔j∈r.ids∨∃x∈r.l,kD R p x j:=by
 constructor
 ·rintro⟨q,rq,hq,⟨t,rfl⟩,hj⟩
  cases t with
  | nil=>
   rw [List.append_nil,hp] at hq
   cases hq
   rcases bP.1 hj with h |⟨x,hx,h⟩
   ·exact .inl h
   ·refine .inr ⟨x,hx,.inl ⟨fun h2=>?_,h⟩⟩
    unfold aX at h
    rw [if_neg (by omega)] at h
    cases h
  | cons k t=>
   have hpre:(p++[k]) <+: (p++k :: t):=⟨t,by simp⟩
   obtain⟨r',hr'⟩:=Held.prefix H t.length (p++k :: t) rq (by simp;omega) hq hpre
   obtain⟨r0,x,h1,h2,h3,h4⟩:=H.dh.up p k r' hr' (by simp)
   rw [hp] at h1
   cases h1
   exact .inr ⟨x,h2,.inr ⟨h4,p++k :: t,rq,hq,by rw [h3];exact hpre,hj⟩⟩
 ·rintro(h |⟨x,hx,⟨_,h⟩ |⟨_,q,rq,hq,hpre,h⟩⟩)
  ·exact⟨p,r,hp,List.prefix_refl _,bP.2 (.inl h)⟩
  ·exact⟨p,r,hp,List.prefix_refl _,bP.2 (.inr ⟨x,hx,h⟩)⟩
  ·exact⟨q,rq,hq,(List.prefix_append _ _).trans hpre,h⟩
theorem Held.qZ {S:aW} {R:Path→Option Rec} {e o p:Path} {j:Int} (H:Held S R e o) (h:under R p j):2≤j∧j<(S.L.length:Int)+2:=by
 obtain⟨q,rq,hq,_,hj⟩:=h
 exact H.dh.there hq j hj
theorem xO {p q:Path} {k:Bytes} (h:p++[k] <+: q):q≠p:=fun e=>by
 rw [e] at h
 exact iF h
theorem Held.F5 {S:aW} {R:Path→Option Rec} {e o p:Path} {r:Rec} {x y:Item} {j:Int} (H:Held S R e o) (hp:R p=some r) (hx:x∈r.l) (hy:y∈r.l) (hne:x.key≠y.key) (h1:kD R p x j) (h2:kD R p y j):False:=by
 obtain⟨t1,t2,t3,t4⟩:=H.dh.tree p r hp
 have hfl:(r.l.flatMap aX).Nodup:=by
  unfold Rec.own at t4
  rw [List.nodup_append] at t4
  exact t4.2.1
 rcases h1 with ⟨_,h1⟩ |⟨_,q,rq,hq,hpre,h1⟩
 ·have ho:j∈r.own:=bP.2 (.inr ⟨x,hx,h1⟩)
  rcases h2 with ⟨_,h2⟩ |⟨_,q,rq,hq,hpre,h2⟩
  ·exact tT hfl (jG ((aH _).1 t2).2) hx hy (fun e=>hne (by rw [e])) h1 h2
  ·exact H.dh.apart q p rq r (xO hpre) hq hp j h2 ho
 ·rcases h2 with ⟨_,h2⟩ |⟨_,q',OW,hq',hpre',h2⟩
  ·exact H.dh.apart q p rq r (xO hpre) hq hp j h1 (bP.2 (.inr ⟨y,hy,h2⟩))
  ·by_cases hqq:q=q'
   ·subst hqq
    obtain⟨a,ha⟩:=hpre
    obtain⟨b,hb⟩:=hpre'
    rw [←ha] at hb
    simp only [List.append_assoc,List.append_cancel_left_eq,List.singleton_append,List.cons.injEq] at hb
    exact hne hb.1.symm
   ·exact H.dh.apart q q' rq OW hqq hq hq' j h1 h2
theorem Held.rY {S:aW} {R:Path→Option Rec} {e o p:Path} {r:Rec} {x:Item} {j:Int} (H:Held S R e o) (hp:R p=some r) (hx:x∈r.l) (h1:j∈r.ids) (h2:kD R p x j):False:=by
 rcases h2 with ⟨_,h2⟩ |⟨_,q,rq,hq,hpre,h2⟩
 ·exact d9 (H.dh.tree p r hp).2.2.2 hx h2 h1
 ·exact H.dh.apart q p rq r (xO hpre) hq hp j h2 (bP.2 (.inl h1))
structure zk (R:Path→Option Rec) (p:Path) (r:Rec) (i:Nat) (os:List Int):Prop where
 nd:os.Nodup
 mem:∀j,j∈os↔j∈r.ids∨∃x∈r.l.take i,kD R p x j
theorem zk.start {S:aW} {R:Path→Option Rec} {e o p:Path} {r:Rec} (H:Held S R e o) (hp:R p=some r) {os:List Int} (h:os.Perm r.ids):zk R p r 0 os:=
 ⟨h.nodup_iff.2 (H.dh.tree p r hp).1.nodup,fun j=>by simp [h.mem_iff]⟩
theorem zk.next {S:aW} {R:Path→Option Rec} {e o p:Path} {r:Rec} {i:Nat} {os more:List Int} {x:Item} (h:zk R p r i os) (H:Held S R e o) (hp:R p=some r) (hx:r.l[i]? = some x) (hn:more.Nodup) (hm:∀j,j∈more↔kD R p x j):zk R p r (i+1) (os++more):=by
 have hxm:=List.mem_of_getElem? hx
 refine⟨?_,fun j=>?_⟩
 ·rw [List.nodup_append]
  refine⟨h.nd,hn,fun a ha b hb e=>?_⟩
  subst e
  rcases(h.mem a).1 ha with q |⟨y,hy,q⟩
  ·exact H.rY hp hxm q ((hm a).1 hb)
  ·have hp2:=jG ((aH _).1 (H.dh.tree p r hp).2.1).2
   have hyx:y.key≠x.key:=by
    obtain⟨k,hk⟩:=List.getElem?_of_mem hy
    rw [List.getElem?_take] at hk
    split at hk
    ·rename_i hki
     obtain⟨hk1,hk2⟩:=List.getElem?_eq_some_iff.1 hk
     obtain⟨hi1,hi2⟩:=List.getElem?_eq_some_iff.1 hx
     have:=List.pairwise_iff_getElem.1 hp2 k i hk1 hi1 hki
     rw [hk2,hi2] at this
     exact this
    ·cases hk
   exact H.F5 hp (List.mem_of_mem_take hy) hxm hyx q ((hm a).1 hb)
 ·rw [List.mem_append,h.mem,hm,List.take_add_one,hx]
  simp only [Option.toList_some,List.mem_append,List.mem_singleton]
  constructor
  ·rintro((q |⟨y,hy,q⟩) | q)
   ·exact .inl q
   ·exact .inr ⟨y,.inl hy,q⟩
   ·exact .inr ⟨x,.inr rfl,q⟩
  ·rintro(q |⟨y,hy | rfl,q⟩)
   ·exact .inl (.inl q)
   ·exact .inl (.inr ⟨y,hy,q⟩)
   ·exact .inr q
theorem zk.few {S:aW} {R:Path→Option Rec} {e p:Path} {r:Rec} {i:Nat} {os:List Int} (h:zk R p r i os) (H:Held S R e []) (hp:R p=some r):os.length≤S.L.length:=
 nZ _ _ h.nd fun j hj=>H.qZ ((H.AL hp j).2 (((h.mem j).1 hj).imp id fun ⟨x,hx,q⟩=>⟨x,List.mem_of_mem_take hx,q⟩))
theorem zk.done {S:aW} {R:Path→Option Rec} {e p:Path} {r:Rec} {os:List Int} (h:zk R p r r.l.length os) (H:Held S R e []) (hp:R p=some r):os.Nodup∧∀j,j∈os↔under R p j:=
 ⟨h.nd,fun j=>by rw [h.mem,H.AL hp,List.take_length]⟩
end
end Go.Proofs.YtbhiamcmiopnoaaGreatDoor
