/- Plain laws: the item of a key, in a list, in a tree. No program in sight. -/
import Derived.Test.YtbhiamcmiopnoaaGreatDoorZPlain
import Derived.Test.YtbhiamcmiopnoaaGreatDoorZLeaf5
import Derived.Test.YtbhiamcmiopnoaaGreatDoorZPlainC
namespace Go.Proofs.YtbhiamcmiopnoaaGreatDoor
section
open Go.RowKit
/-! ### The item of a key -/
def aS (l:List Item) (k:Bytes):Option Item:=
 match behind l k with
 | x :: _=>if x.key=k then some x else none
 | []=>none
theorem Ce (A B C:List Item) (k:Bytes) (hA:∀a∈A,a.key<k) (hC:∀c∈C,k<c.key):aS (A++B++C) k=aS B k:=by
 have fA:∀x∈A,(fun x:Item=>decide (Keyed.key x<k)) x=true:=fun x hx=>decide_eq_true (hA x hx)
 have fC:∀x∈C,(fun x:Item=>decide (Keyed.key x<k)) x=false:=fun x hx=>decide_eq_false (List.lt_asymm (hC x hx))
 have e2:behind (A++B++C) k=behind B k++C:=by
  unfold behind
  rw [lY _ _ _ fC,mR _ _ _ fA]
 unfold aS
 rw [e2]
 cases hb:behind B k with
 | nil=>
  cases C with
  | nil=>simp
  | cons c C=>
   have:c.key≠k:=fun q=>by have:=hC c (by simp);rw [q] at this;exact List.lt_irrefl _ this
   simp [this]
 | cons x r=>rfl
theorem wu (l:List Item) (k:Bytes):aS l k=if pX l k=true then l[findAt l k]? else none:=by
 rw [jB,←List.head?_drop,j6]
 unfold aS
 cases behind l k with
 | nil=>rfl
 | cons x r=>
  by_cases hx:x.key=k
  ·simp [hx]
  ·simp [hx]
theorem zq {L:List Node} {n:Nat} {ts:List au} {key:Bytes} (hr:bJ (ts.map au.kid)=true) (sub:∀t∈ts,Tree L n t.kid.page t.low t.items t.ids) (bd:Bounds ts) (hne:ts≠[]) :
 ∃t,t∈ts∧(ts.map au.kid)[eH (ts.map au.kid) key]? = some t.kid∧aS (ts.flatMap au.items) key=aS t.items key:=by
 have iT:=(aH _).1 hr
 obtain⟨A',x,C',e1,e2,e3,e4⟩:=nH iT.2 (by simpa using hne) key
 obtain⟨A,r,rfl,rfl,er⟩:=List.map_eq_append_iff.1 e1
 obtain⟨t,C,rfl,rfl,rfl⟩:=List.map_eq_cons_iff.1 er
 refine⟨t,by simp,?_,?_⟩
 ·rw [e2,List.map_append,List.getElem?_append_right (by simp)]
  simp
 have hC:∀c∈C,key<c.kid.key:=fun c hc=>e3 _ (List.mem_map_of_mem hc)
 have hA:A=[]∨¬key<t.kid.key:=e4.imp (fun q=>by simpa using q) (fun q=>q)
 have ewh:(A++t :: C).flatMap au.items=A.flatMap au.items++t.items++C.flatMap au.items:=by simp
 rw [ewh]
 refine Ce _ _ _ key (fun x hx=>?_) (fun x hx=>?_)
 ·obtain⟨s,hs,hx⟩:=List.mem_flatMap.1 hx
  have hb:=bd.hi
  rw [List.pairwise_append] at hb
  have h1:=hb.2.2 s hs t (by simp) x hx
  rcases hA with q | q
  ·subst q;cases hs
  ·exact bT h1 q
 ·obtain⟨s,hs,hx⟩:=List.mem_flatMap.1 hx
  have h1:=not_lt_trans (bd.lo s (by simp [hs])) ((sub s (by simp [hs])).tH x hx)
  exact bT (hC s hs) h1
end
section
open Go.RowKit
def gL (l:List Item) (k:Bytes):List Item:=l.filter fun x=>!decide (x.key<k)
theorem pF (a b:List Item) (k:Bytes):gL (a++b) k=gL a k++gL b k:=List.filter_append ..
theorem Cg {l:List Item} (hr:bF l) (k:Bytes):gL l k=behind l k:=by
 have h1:gL (ahead l k) k=[]:=by
  unfold gL
  rw [List.filter_eq_nil_iff]
  intro x hx
  have:x.key<k:=nD l k x hx
  simp [this]
 have h2:gL (behind l k) k=behind l k:=by
  unfold gL
  rw [List.filter_eq_self]
  intro x hx
  have:¬x.key<k:=lu hr k x hx
  simp [this]
 calc gL l k=gL (ahead l k++behind l k) k:=by rw [bZ]
  _=behind l k:=by rw [pF,h1,h2,List.nil_append]
theorem FJ {l:List Item} (hr:bF l) (k:Bytes):gL l k=l.drop (findAt l k):=by rw [Cg hr,j6]
theorem FK {ts:List au} {key:Bytes} (hr:bJ (ts.map au.kid)=true) (bd:Bounds ts) (hne:ts≠[]) :
 eH (ts.map au.kid) key<ts.length∧gL ((ts.take (eH (ts.map au.kid) key)).flatMap au.items) key=[]:=by
 have iT:=(aH _).1 hr
 obtain⟨A',x,C',e1,e2,e3,e4⟩:=nH iT.2 (by simpa using hne) key
 obtain⟨A,r,rfl,rfl,er⟩:=List.map_eq_append_iff.1 e1
 obtain⟨t,C,rfl,rfl,rfl⟩:=List.map_eq_cons_iff.1 er
 rw [e2]
 refine⟨by simp,?_⟩
 rw [List.length_map,List.take_left]
 unfold gL
 rw [List.filter_eq_nil_iff]
 intro x hx
 have hA:A=[]∨¬key<t.kid.key:=e4.imp (fun q=>by simpa using q) (fun q=>q)
 obtain⟨s,hs,hx⟩:=List.mem_flatMap.1 hx
 have hb:=bd.hi
 rw [List.pairwise_append] at hb
 have h1:=hb.2.2 s hs t (by simp) x hx
 have:x.key<key:=by
  rcases hA with q | q
  ·subst q;cases hs
  ·exact bT h1 q
 simp [this]
def upto (pre:List Item) (most:Nat) (l:List Item):List Item:=pre++l.take (most-pre.length)
theorem IY {pre X Y:List Item} {most:Nat} (h:(upto pre most X).length<most):upto pre most (X++Y)=upto (upto pre most X) most Y:=by
 unfold upto at *
 rw [List.length_append,List.length_take] at h
 have hx:X.length≤most-pre.length:=by omega
 rw [List.take_append,List.take_of_length_le hx,List.append_assoc,List.length_append]
 congr 3
 omega
theorem IZ {pre X:List Item} {most:Nat} (Y:List Item) (h:¬(upto pre most X).length<most):upto pre most (X++Y)=upto pre most X:=by
 unfold upto at *
 rw [List.length_append,List.length_take] at h
 rw [List.take_append,show most-pre.length-X.length=0 from by omega,List.take_zero,List.append_nil]
theorem Lb (pre:List Item) (most:Nat):upto pre most []=pre:=by simp [upto]
theorem I4 (l:List Item) (k:Bytes) (most:Nat):upto [] most (gL l k)=(gL l k).take most:=by simp [upto]
theorem Tree.Qf {L:List Node} {n:Nat} {id:Int} {b:Bytes} {l:List Item} {ids:List Int} (h:Tree L n id b l ids):ids.length+1≤2 * l.length:=by
 induction h with
 | leaf id l h ne ok=>cases l with
  | nil=>exact absurd rfl ne
  | cons x l=>simp;omega
 | cZ n id ts h two ok sub bd nd ih=>
  have key:∀us:List au,(∀t∈us,t.ids.length+1≤2 * t.items.length)→(us.flatMap au.ids).length+us.length≤2 * (us.flatMap au.items).length:=by
   intro us
   induction us with
   | nil=>intro _;simp
   | cons u us XT=>
    intro hu
    have h1:=hu u (by simp)
    have h2:=XT fun t ht=>hu t (by simp [ht])
    simp only [List.flatMap_cons,List.length_append,List.length_cons]
    omega
  have:=key ts ih
  simp only [List.length_cons]
  omega
theorem Tree.NG {L:List Node} {n:Nat} {id:Int} {b:Bytes} {l:List Item} {ids:List Int} (h:Tree L n id b l ids):∀j∈ids,2≤j∧j<(L.length:Int)+2:=by
 induction h with
 | leaf id l h ne ok=>
  intro j hj
  rw [List.mem_singleton.1 hj]
  have:=cB h
  omega
 | cZ n id ts h two ok sub bd nd ih=>
  intro j hj
  rcases List.mem_cons.1 hj with rfl | hj
  ·have:=cB h
   omega
  ·obtain⟨t,ht,hj⟩:=List.mem_flatMap.1 hj
   exact ih t ht j hj
end
section
open Go.RowKit
/-! ### Child by child -/
theorem nP {ts:List au} {i:Nat} {t:au} (h:ts[i]? = some t) {β:Type} (f:au→List β):(ts.take (i+1)).flatMap f=(ts.take i).flatMap f++f t:=by
 rw [List.take_add_one,h]
 simp
theorem vP {ts:List au} {i:Nat} {t:au} (h:ts[i]? = some t) {β:Type} (f:au→List β):ts.flatMap f=(ts.take i).flatMap f++f t++(ts.drop (i+1)).flatMap f:=by
 rw [←nP h f,←List.flatMap_append,List.take_append_drop]
theorem rY {ts:List au} {i:Nat} {t:au} {pg:Int} (h:ts[i]? = some t) (nd:(pg :: ts.flatMap au.ids).Nodup) :
 ∀j∈t.ids,j≠pg∧j∉(ts.take i).flatMap au.ids∧j∈ts.flatMap au.ids:=by
 intro j hj
 have e:=vP h au.ids
 have hin:j∈ts.flatMap au.ids:=by rw [e];simp [hj]
 rw [List.nodup_cons] at nd
 refine⟨fun q=>nd.1 (q▸hin),fun q=>?_,hin⟩
 have h2:=nd.2
 rw [e,List.append_assoc,List.nodup_append] at h2
 exact h2.2.2 j q j (by simp [hj]) rfl
theorem D6 {ts:List au} {i:Nat} {t:au} (h:ts[i]? = some t):((ts.take i).flatMap au.ids).length+t.ids.length≤(ts.flatMap au.ids).length:=by
 have e:=congrArg List.length (vP h au.ids)
 simp only [List.length_append] at e
 omega
theorem FL {ts:List au} {i:Nat} {t:au} (h:ts[i]? = some t):t.items.length≤(ts.flatMap au.items).length:=by
 have e:=congrArg List.length (vP h au.items)
 simp only [List.length_append] at e
 omega
theorem vQ (ts:List au) (i:Nat) {β:Type} (f:au→List β):ts.flatMap f=(ts.take i).flatMap f++(ts.drop i).flatMap f:=by
 rw [←List.flatMap_append,List.take_append_drop]
/-! ### Keys below a page -/
def FM (low high:Bytes) (bound:Bool) (k:Bytes):Bool:=!decide (k<low) && (!bound || decide (k<high))
def Lc (low high:Bytes) (bound:Bool) (l:List Item):Prop:=∀x∈l,FM low high bound x.key=true
theorem FN {low high k:Bytes} {bound:Bool}:FM low high bound k=true↔¬k<low∧(bound=true→k<high):=by
 unfold FM
 cases bound<;>simp
theorem Lc.all (l:List Item):Lc [] [] false l:=fun x _=>FN.2 ⟨fun q=>by cases hx:x.key<;>rw [hx] at q<;>exact absurd q (by simp),fun q=>by cases q⟩
/-! ### How many digits -/
/-! ### The list beside a tree -/
theorem GU (l:List Item) (x:Item):dS l x=l.take (findAt l x.key)++x :: (l.drop (findAt l x.key+if pX l x.key=true then 1 else 0)):=by
 have h1:=rO l x.key
 have h2:=j6 l x.key
 unfold dS
 rw [←h1,←List.drop_drop,h2]
 congr 2
 rw [jB]
 cases behind l x.key with
 | nil=>simp
 | cons y r=>
  by_cases hy:y.key=x.key
  ·simp [hy]
  ·simp [hy]
theorem vR (l:List Item) (k:Bytes):bU l k=if pX l k=true then (l.take (findAt l k)++l.drop (findAt l k+1),true) else (l,false):=by
 have h1:=rO l k
 have h2:=j6 l k
 unfold bU
 rw [jB,←List.drop_drop,h2,h1]
 cases behind l k with
 | nil=>simp
 | cons y r=>
  by_cases hy:y.key=k
  ·simp [hy]
  ·simp [hy]
end
section
open Go.RowKit
def tQ (i:Nat):Nat:=6 * i+2 * (i-4)+2 * (i-8)+2 * (i-16)+2 * (i-32)+2 * (i-64)+2 * (i-128)
theorem D9 {i:Nat} (h:i<250):∃m,m≤8∧i<2 ^ m∧tQ i+(2+2 * m)≤tQ (i+1)∧tQ i+4+2 * m≤3998:=by
 unfold tQ
 rcases Nat.lt_or_ge i 4 with h1 | h1
 ·exact⟨2,by omega,by omega,by omega,by omega⟩
 rcases Nat.lt_or_ge i 8 with h2 | h2
 ·exact⟨3,by omega,by omega,by omega,by omega⟩
 rcases Nat.lt_or_ge i 16 with h3 | h3
 ·exact⟨4,by omega,by omega,by omega,by omega⟩
 rcases Nat.lt_or_ge i 32 with h4 | h4
 ·exact⟨5,by omega,by omega,by omega,by omega⟩
 rcases Nat.lt_or_ge i 64 with h5 | h5
 ·exact⟨6,by omega,by omega,by omega,by omega⟩
 rcases Nat.lt_or_ge i 128 with h6 | h6
 ·exact⟨7,by omega,by omega,by omega,by omega⟩
 ·exact⟨8,by omega,by omega,by omega,by omega⟩
structure rF (p:aW) (root:Int) (l:List Item) (i:Nat):Prop where
 rooted:∃ids,bq p.L root l ids∧∀j∈ids,j∉p.given
 right:bJ l=true
 len:l.length≤i
 few:p.L.length≤tQ i
 back:p.given.length≤46 * i
 there:∀j∈p.given,j<(p.L.length:Int)+2
 stop:p.stop=-1
 bad:p.bad=false
 twice:p.twice=false
theorem bq.there {L:List Node} {root:Int} {l:List Item} {ids:List Int} (h:bq L root l ids):∀j∈ids,2≤j∧j<(L.length:Int)+2:=by
 cases h with
 | none=>intro j hj;cases hj
 | some n _ b _ _ h=>exact h.NG
theorem EN:rF { L:=[],mine:=2,given:=[],bad:=false,twice:=false,stop:=-1 } 0 [] 0:=
 ⟨⟨[],.none,fun j hj=>by cases hj⟩,pq,by simp,by simp,by simp,(fun j hj=>by cases hj),rfl,rfl,rfl⟩
theorem Ea {p p':aW} {root root':Int} {l l':List Item} {i m:Nat} {ids bE:List Int} (h:rF p root l i) (R:bq p.L root l ids) (hg:∀j∈ids,j∉p.given) (R':bq p'.L root' l' bE) (M:dL p ids p' bE (2+2 * m)) (hr:bJ l'=true) (hl:l'.length≤i+1) (hf:tQ i+(2+2 * m)≤tQ (i+1)) (hb:p'.given.length≤p.given.length+46):rF p' root' l' (i+1):=by
 obtain⟨gs,g1,g2,g3⟩:=M.gone
 have hth:=R.there
 refine⟨⟨bE,R',fun j hj q=>?_⟩,hr,hl,by have:=h.few;have:=M.few;omega,by have:=h.back;omega,fun j hj=>?_,M.stop.trans h.stop,M.bad.trans h.bad,(M.twice hg).trans h.twice⟩
 ·rw [g1] at q
  rcases List.mem_append.1 q with q | q
  ·rcases M.new j hj with k | k
   ·exact hg j k q
   ·have:=h.there j q
    omega
  ·exact((g2 j).1 q).2 hj
 ·rw [g1] at hj
  have hgr:=M.grow
  rcases List.mem_append.1 hj with q | q
  ·have:=h.there j q
   omega
  ·have:=hth j ((g2 j).1 q).1
   omega
theorem Ia {p:aW} {root:Int} {l:List Item} {i:Nat} {x:Item} (h:rF p root l i) (hx:dK x=true) (hi:i<250) :
 ∃r p',gV p root x=(.ok r,p')∧rF p' r (dS l x) (i+1):=by
 obtain⟨ids,R,hg⟩:=h.rooted
 obtain⟨m,m1,m2,m3,m4⟩:=D9 hi
 have hl:=h.len
 have hf:=h.few
 have hs:=h.stop
 obtain⟨r,p',bE,h1,h2,_,M⟩:=lZ p root l ids x hx R (by omega) m (by omega) (by omega) (by omega)
 have hb:=kE p root x
 rw [h1] at hb
 exact⟨r,p',h1,Ea h R hg h2 M (jw h.right hx) (by have:=jD l x;omega) m3 (by simp only at hb;omega)⟩
theorem wO {l:List Item} (hr:bJ l=true) (k:Bytes):bJ (bU l k).1=true:=by
 rw [vR]
 split
 ·refine iM hr ?_
  have:=(List.Sublist.refl (l.take (findAt l k))).append (List.drop_sublist_drop_left l (Nat.le_succ (findAt l k)))
  rwa [List.take_append_drop] at this
 ·exact hr
theorem kZ (l:List Item) (k:Bytes):(bU l k).1.length≤l.length:=by
 rw [vR]
 split
 ·simp only [List.length_append,List.length_take,List.length_drop];omega
 ·exact Nat.le_refl _
/-! ### What a tree tells, held against the list -/
theorem sK (l:List Item):gL l []=l:=by
 unfold gL
 rw [List.filter_eq_self]
 intro x _
 cases hx:x.key<;>simp
theorem bq.zero {L:List Node} {root:Int} {l:List Item} {ids:List Int} (h:bq L root l ids):root=0↔l=[]:=by
 cases h with
 | none=>exact⟨fun _=>rfl,fun _=>rfl⟩
 | some n _ b _ _ h=>
  have h1:=h.there _ h.self
  have h2:=h.ne
  exact⟨fun q=>by omega,fun q=>absurd q h2⟩
end
section
open Go.RowKit
theorem nQ {l:List Item} {k:Bytes} {y:Item}:y∈l↔y∈ahead l k∨y∈behind l k:=by
 have h:=bZ l k
 rw [←List.mem_append,h]
theorem uT {h:List Item} (hr:bF h) (x y:Item):y∈dS h x↔y=x∨(y∈h∧y.key≠x.key):=by
 have ha:=nD h x.key
 have hb:=lu hr x.key
 have hbr:bF (behind h x.key):=by
  have h2:=hr
  unfold bF at h2 ⊢
  rw [←bZ h x.key,List.pairwise_append] at h2
  exact h2.2.1
 have hne:∀z,z∈ahead h x.key→z.key≠x.key:=fun z hz e=>by
  have:=ha z hz
  rw [show Keyed.key z=x.key from e] at this
  exact List.lt_irrefl _ this
 have hm:=nQ (l:=h) (k:=x.key) (y:=y)
 unfold dS
 rw [List.mem_append,List.mem_cons,hm]
 cases QO:behind h x.key with
 | nil=>
  simp only [List.not_mem_nil,or_false]
  constructor
  ·rintro(q | q)
   ·exact .inr ⟨q,hne y q⟩
   ·exact .inl q
  ·rintro(q | q)
   ·exact .inr q
   ·exact .inl q.1
 | cons z r=>
  rw [QO] at hbr
  unfold bF at hbr
  rw [List.pairwise_cons] at hbr
  have U9:∀u∈r,u.key≠z.key:=fun u hu e=>by
   have:=hbr.1 u hu
   rw [show Keyed.key u=Keyed.key z from e] at this
   exact List.lt_irrefl _ this
  by_cases hz:z.key=x.key
  ·simp only [if_pos hz]
   constructor
   ·rintro(q | q | q)
    ·exact .inr ⟨.inl q,hne y q⟩
    ·exact .inl q
    ·exact .inr ⟨.inr (List.mem_cons_of_mem _ q),fun e=>U9 y q (by rw [hz];exact e)⟩
   ·rintro(q |⟨q | q,e⟩)
    ·exact .inr (.inl q)
    ·exact .inl q
    ·rcases List.mem_cons.1 q with rfl | q
     ·exact absurd hz e
     ·exact .inr (.inr q)
  ·simp only [if_neg hz]
   have hall:∀u∈z :: r,u.key≠x.key:=by
    intro u hu e
    have h1:¬Keyed.key z<x.key:=hb z (by rw [QO];simp)
    have h2:x.key≠z.key:=fun q=>hz q.symm
    rcases List.mem_cons.1 hu with rfl | hu
    ·exact hz e
    ·have h3:Keyed.key z<Keyed.key u:=hbr.1 u hu
     rw [show Keyed.key u=x.key from e] at h3
     exact h1 h3
   constructor
   ·rintro(q | q | q)
    ·exact .inr ⟨.inl q,hne y q⟩
    ·exact .inl q
    ·exact .inr ⟨.inr q,hall y q⟩
   ·rintro(q |⟨q | q,_⟩)
    ·exact .inr (.inl q)
    ·exact .inl q
    ·exact .inr (.inr q)
structure Each (l:List Item):Prop where
 ok:∀x∈l,dK x=true
 keys:l.Pairwise fun a b=>a.key≠b.key
theorem Each.take {l:List Item} (h:Each l) (k:Nat):Each (l.take k):=⟨fun x hx=>h.ok x (List.mem_of_mem_take hx),h.keys.sublist (List.take_sublist k l)⟩
theorem Each.perm {a b:List Item} (h:Each a) (p:a.Perm b):Each b:=⟨fun x hx=>h.ok x (p.mem_iff.2 hx),p.pairwise h.keys fun q=>q.symm⟩
end
end Go.Proofs.YtbhiamcmiopnoaaGreatDoor
