/- Buckets within buckets, and the pages on which they stand: in plain words. Conditions: none. -/
import Derived.Test.YtbhiamcmiopnoaaGreatDoorZPlainD
import Derived.Test.YtbhiamcmiopnoaaGreatDoorZNumLow
namespace Go.Proofs.YtbhiamcmiopnoaaGreatDoor
section
open Go.RowKit
def gB (root:Nat) (seq:Int):Bytes:=bO root 2++bO (qV seq) 8
def gD (first n:Nat):Bytes:=bO first 2++bO n 2
def bW (n:Nat):Nat:=if n=0 then 1 else (n-1) / 232+1
def fJ (v:Bytes) (k:Nat):Bytes:=(v.drop (k * 232)).take 232
def zW (L:List Node) (first:Nat) (v:Bytes):Prop:=∀k,k<bW v.length→nodeAt L ((first+k:Nat):Int)=some (.over (fJ v k))
def kr (first n:Nat):List Int:=(List.range (bW n)).map fun k=>((first+k:Nat):Int)
def aX (x:Item):List Int:=if x.kind=1 then kr (gu (x.val.take 2)) (gu (x.val.drop 2)) else []
inductive Sem (L:List Node):Item→Bytes→Prop
 | plain (k v:Bytes) (h:v.length≤96):Sem L ⟨k,v,0⟩ v
 | far (k v:Bytes) (first:Nat) (h:96<v.length∧v.length≤2000) (hf:2≤first∧first+bW v.length≤4000) (hL:zW L first v):Sem L ⟨k,gD first v.length,1⟩ v
structure Rec where
 root:Int
 seq:Int
 l:List Item
 ids:List Int
def Rec.own (r:Rec):List Int:=r.ids++r.l.flatMap aX
abbrev Path:=List Bytes
def qW (k:Bytes):Prop:=1≤k.length∧k.length≤32∧(47:UInt8)∉k
def upd (R:Path→Option Rec) (p:Path) (r:Rec):Path→Option Rec:=fun q=>if q=p then some r else R q
theorem bV (R:Path→Option Rec) (p:Path) (r:Rec):upd R p r p=some r:=if_pos rfl
theorem upd_ne {R:Path→Option Rec} {p q:Path} {r:Rec} (h:q≠p):upd R p r q=R q:=if_neg h
structure xq (L:List Node) (R:Path→Option Rec) (e o:Path):Prop where
 tree:∀p r,R p=some r→bq L r.root r.l r.ids∧bJ r.l=true∧(0≤r.seq∧r.seq≤1000000)∧r.own.Nodup
 top:∃r,R []=some r
 sub:∀p r x,R p=some r→x∈r.l→x.kind=2→qW x.key∧(∃r',R (p++[x.key])=some r'∧(p++[x.key]≠e→x.val=gB r'.root.toNat r'.seq))∧∃(r0:Nat) (s0:Int),(r0=0∨2≤r0∧r0<4000)∧(0≤s0∧s0≤1000000)∧x.val=gB r0 s0
 up:∀p k r',R (p++[k])=some r'→p++[k]≠o→∃r x,R p=some r∧x∈r.l∧x.key=k∧x.kind=2
 val:∀p r x,R p=some r→x∈r.l→x.kind≠2→∃v,Sem L x v
 deep:∀p r,R p=some r→p.length≤5
 apart:∀p q r r',p≠q→R p=some r→R q=some r'→∀j∈r.own,j∉r'.own
theorem nR (v n:Nat):(bO v n).length=n:=bf v n
theorem jc {v:Nat} (h:v<65536):gu (bO v 2)=v:=by
 have key:∀n,gu (bO v n)=v % 256 ^ n:=by
  intro n
  induction n with
  | zero=>simp [bO,gu,Nat.mod_one]
  | succ n ih=>rw [bO,qm,ih,bf,Nat.mod_pow_succ,UInt8.toNat_ofNat',Nat.mul_comm]
 rw [key,Nat.mod_eq_of_lt (by omega)]
theorem rZ {k:Bytes} {first n:Nat} (h1:first<65536) (h2:n<65536):aX ⟨k,gD first n,1⟩=kr first n:=by
 unfold aX gD
 rw [if_pos rfl]
 have e1:(bO first 2++bO n 2).take 2=bO first 2:=List.take_left' (nR _ _)
 have e2:(bO first 2++bO n 2).drop 2=bO n 2:=List.drop_left' (nR _ _)
 dsimp only
 rw [e1,e2,jc h1,jc h2]
theorem bP {r:Rec} {j:Int}:j∈r.own↔j∈r.ids∨∃x∈r.l,j∈aX x:=by
 unfold Rec.own
 rw [List.mem_append,List.mem_flatMap]
theorem zW.keep {L L':List Node} {first:Nat} {v:Bytes} (h:zW L first v) (hk:∀j∈kr first v.length,nodeAt L' j=nodeAt L j):zW L' first v:=fun k hk2=>by
 rw [hk _ (List.mem_map.2 ⟨k,List.mem_range.2 hk2,rfl⟩)]
 exact h k hk2
theorem Sem.keep {L L':List Node} {x:Item} {v:Bytes} (h:Sem L x v) (hk:∀j∈aX x,nodeAt L' j=nodeAt L j):Sem L' x v:=by
 cases h with
 | plain k v h=>exact .plain k v h
 | far k v first h hf hL=>
  refine .far k v first h hf (hL.keep ?_)
  rwa [rZ (by omega) (by omega)] at hk
theorem Sem.pages {L:List Node} {x:Item} {v:Bytes} (h:Sem L x v):∀j∈aX x,2≤j∧j<(L.length:Int)+2:=by
 cases h with
 | plain k v h=>intro j hj;cases hj
 | far k v first h hf hL=>
  rw [rZ (by omega) (by omega)]
  intro j hj
  obtain⟨k2,hk2,rfl⟩:=List.mem_map.1 hj
  have:=cB (hL k2 (List.mem_range.1 hk2))
  omega
theorem bq.keep {L L':List Node} {root:Int} {l:List Item} {ids:List Int} (h:bq L root l ids) (hk:∀j∈ids,nodeAt L' j=nodeAt L j):bq L' root l ids:=by
 cases h with
 | none=>exact .none
 | some n _ b _ _ h=>exact .some n _ b _ _ (h.keep hk)
theorem xq.there {L:List Node} {R:Path→Option Rec} {e o p:Path} {r:Rec} (B:xq L R e o) (h:R p=some r):∀j∈r.own,2≤j∧j<(L.length:Int)+2:=by
 intro j hj
 rcases bP.1 hj with hj |⟨x,hx,hj⟩
 ·exact(B.tree p r h).1.there j hj
 ·by_cases h2:x.kind=2
  ·unfold aX at hj
   rw [if_neg (by omega)] at hj
   cases hj
  ·obtain⟨v,hv⟩:=B.val p r x h hx h2
   exact hv.pages j hj
theorem uW (p:Path) (k:Bytes):p++[k]≠p:=fun q=>by
 have:=congrArg List.length q
 simp at this
theorem nS {p q:Path} {k k':Bytes} (h:p++[k]=q++[k']):p=q∧k=k':=by
 have:=List.append_inj' h rfl
 exact⟨this.1,by simpa using this.2⟩
theorem xq.write {L L':List Node} {R:Path→Option Rec} {e o o' p:Path} {r r':Rec} (B:xq L R e o) (hp:R p=some r)
 (hk:∀j:Int,j<(L.length:Int)+2→j∉r.ids→nodeAt L' j=nodeAt L j)
 (ht:bq L' r'.root r'.l r'.ids∧bJ r'.l=true∧(0≤r'.seq∧r'.seq≤1000000)∧r'.own.Nodup)
 (hnew:∀j∈r'.own,j∈r.own∨(L.length:Int)+2≤j)
 (hsub:∀x∈r'.l,x.kind=2→qW x.key∧(∃r2,R (p++[x.key])=some r2∧x.val=gB r2.root.toNat r2.seq)∧∃(r0:Nat) (s0:Int),(r0=0∨2≤r0∧r0<4000)∧(0≤s0∧s0≤1000000)∧x.val=gB r0 s0)
 (hval:∀x∈r'.l,x.kind≠2→∃v,Sem L' x v)
 (hup:∀k r2,R (p++[k])=some r2→p++[k]≠o'→∃x∈r'.l,x.key=k∧x.kind=2)
 (he:e=[]∨∃k,e=p++[k]) (ho:o=[]∨∃k,o=p++[k]):xq L' (upd R p r') p o':=by
 have keep:∀q rq,q≠p→R q=some rq→∀j∈rq.own,nodeAt L' j=nodeAt L j:=fun q rq hq h j hj=>
  hk j (B.there h j hj).2 fun k=>B.apart q p rq r hq h hp j hj (bP.2 (.inl k))
 refine⟨fun q rq h=>?_,?_,fun q rq x h hx h2=>?_,fun q k r2 h hno=>?_,fun q rq x h hx h2=>?_,fun q rq h=>?_,fun q q' rq OW hne h h' j hj=>?_⟩
 ·by_cases hq:q=p
  ·subst hq
   rw [bV] at h
   cases h
   exact ht
  ·rw [upd_ne hq] at h
   obtain⟨a1,a2,a3,a4⟩:=B.tree q rq h
   exact⟨a1.keep fun j hj=>keep q rq hq h j (bP.2 (.inl hj)),a2,a3,a4⟩
 ·by_cases hq:([]:Path)=p
  ·subst hq
   exact⟨r',bV _ _ _⟩
  ·obtain⟨r0,h0⟩:=B.top
   exact⟨r0,by rw [upd_ne hq];exact h0⟩
 ·by_cases hq:q=p
  ·subst hq
   rw [bV] at h
   cases h
   obtain⟨b1,⟨r2,b2,b3⟩,b4⟩:=hsub x hx h2
   exact⟨b1,⟨r2,by rw [upd_ne (uW _ _)];exact b2,fun _=>b3⟩,b4⟩
  ·rw [upd_ne hq] at h
   obtain⟨b1,⟨r2,b2,b3⟩,b4⟩:=B.sub q rq x h hx h2
   refine⟨b1,?_,b4⟩
   by_cases hc:q++[x.key]=p
   ·exact⟨r',by rw [hc,bV],fun k=>absurd hc k⟩
   ·refine⟨r2,by rw [upd_ne hc];exact b2,fun _=>b3 fun k=>?_⟩
    rcases he with he |⟨k',he⟩
    ·rw [he] at k
     simp at k
    ·rw [he] at k
     exact hq (nS k).1
 ·by_cases hc:q++[k]=p
  ·have hq:q≠p:=fun z=>uW q k (by rw [hc,z])
   rw [←hc] at hp
   obtain⟨r0,x,a1,a2⟩:=B.up q k r hp (fun z=>by
    rcases ho with ho |⟨k',ho⟩
    ·rw [ho] at z
     simp at z
    ·rw [ho,←hc] at z
     exact uW _ _ z.symm)
   exact⟨r0,x,by rw [upd_ne hq];exact a1,a2⟩
  ·rw [upd_ne hc] at h
   by_cases hq:q=p
   ·subst hq
    obtain⟨x,a1,a2⟩:=hup k r2 h hno
    exact⟨r',x,bV _ _ _,a1,a2⟩
   ·obtain⟨r0,x,a1,a2⟩:=B.up q k r2 h (fun z=>by
     rcases ho with ho |⟨k',ho⟩
     ·rw [ho] at z
      simp at z
     ·rw [ho] at z
      exact hq (nS z).1)
    exact⟨r0,x,by rw [upd_ne hq];exact a1,a2⟩
 ·by_cases hq:q=p
  ·subst hq
   rw [bV] at h
   cases h
   exact hval x hx h2
  ·rw [upd_ne hq] at h
   obtain⟨v,hv⟩:=B.val q rq x h hx h2
   exact⟨v,hv.keep fun j hj=>keep q rq hq h j (bP.2 (.inr ⟨x,hx,hj⟩))⟩
 ·by_cases hq:q=p
  ·subst hq
   exact B.deep q r hp
  ·rw [upd_ne hq] at h
   exact B.deep q rq h
 ·by_cases hq:q=p
  ·subst hq
   rw [bV] at h
   cases h
   rw [upd_ne (fun z=>hne z.symm)] at h'
   intro k
   rcases hnew j hj with a | a
   ·exact B.apart q q' r OW hne hp h' j a k
   ·have:=(B.there h' j k).2
    omega
  ·rw [upd_ne hq] at h
   by_cases hq':q'=p
   ·subst hq'
    rw [bV] at h'
    cases h'
    intro k
    rcases hnew j k with a | a
    ·exact B.apart q q' rq r hne h hp j hj a
    ·have:=(B.there h j hj).2
     omega
   ·rw [upd_ne hq'] at h'
    exact B.apart q q' rq OW hne h h' j hj
def fH:Rec:=⟨0,0,[],[]⟩
theorem xq.orphan {L:List Node} {R:Path→Option Rec} {p:Path} {k:Bytes} (B:xq L R [] []) (hn:R (p++[k])=none) (hd:p.length<5):xq L (upd R (p++[k]) fH) [] (p++[k]):=by
 have TI:∀k',R (p++[k]++[k'])=none:=fun k'=>by
  cases h:R (p++[k]++[k']) with
  | none=>rfl
  | some r2=>
   obtain⟨r0,x,a1,_⟩:=B.up _ _ _ h (by simp)
   rw [hn] at a1
   cases a1
 refine⟨fun q rq h=>?_,?_,fun q rq x h hx h2=>?_,fun q k' r2 h hno=>?_,fun q rq x h hx h2=>?_,fun q rq h=>?_,fun q q' rq OW hne h h' j hj=>?_⟩
 ·by_cases hq:q=p++[k]
  ·subst hq
   rw [bV] at h
   cases h
   exact⟨.none,by decide,by decide,by decide⟩
  ·rw [upd_ne hq] at h
   exact B.tree q rq h
 ·obtain⟨r0,h0⟩:=B.top
  exact⟨r0,by rw [upd_ne (by simp)];exact h0⟩
 ·by_cases hq:q=p++[k]
  ·subst hq
   rw [bV] at h
   cases h
   cases hx
  ·rw [upd_ne hq] at h
   obtain⟨b1,⟨r2,b2,b3⟩,b4⟩:=B.sub q rq x h hx h2
   have hc:q++[x.key]≠p++[k]:=fun z=>by
    rw [z,hn] at b2
    cases b2
   exact⟨b1,⟨r2,by rw [upd_ne hc];exact b2,b3⟩,b4⟩
 ·rw [upd_ne hno] at h
  obtain⟨r0,x,a1,a2⟩:=B.up q k' r2 h (by simp)
  refine⟨r0,x,?_,a2⟩
  rw [upd_ne]
  ·exact a1
  ·intro z
   rw [z,hn] at a1
   cases a1
 ·by_cases hq:q=p++[k]
  ·subst hq
   rw [bV] at h
   cases h
   cases hx
  ·rw [upd_ne hq] at h
   exact B.val q rq x h hx h2
 ·by_cases hq:q=p++[k]
  ·subst hq
   simp
   omega
  ·rw [upd_ne hq] at h
   exact B.deep q rq h
 ·by_cases hq:q=p++[k]
  ·subst hq
   rw [bV] at h
   cases h
   cases hj
  ·rw [upd_ne hq] at h
   by_cases hq':q'=p++[k]
   ·subst hq'
    rw [bV] at h'
    cases h'
    intro z
    cases z
   ·rw [upd_ne hq'] at h'
    exact B.apart q q' rq OW hne h h' j hj
def prune (R:Path→Option Rec) (o:Path):Path→Option Rec:=fun q=>if o <+: q then none else R q
theorem gZ {R:Path→Option Rec} {o q:Path} {r:Rec} (h:prune R o q=some r):¬o <+: q∧R q=some r:=by
 unfold prune at h
 split at h
 ·cases h
 ·exact⟨by assumption,h⟩
theorem nT {R:Path→Option Rec} {o q:Path} {r:Rec} (h:¬o <+: q) (hr:R q=some r):prune R o q=some r:=by
 unfold prune
 rw [if_neg h]
 exact hr
theorem xq.prune {L:List Node} {R:Path→Option Rec} {e p:Path} {k:Bytes} {r:Rec} (B:xq L R e (p++[k])) (hp:R p=some r) (hk:∀x∈r.l,x.key=k→x.kind≠2):xq L (prune R (p++[k])) e []:=by
 refine⟨fun q rq h=>B.tree q rq (gZ h).2,?_,fun q rq x h hx h2=>?_,fun q k' r2 h _=>?_,fun q rq x h hx h2=>B.val q rq x (gZ h).2 hx h2,fun q rq h=>B.deep q rq (gZ h).2,fun q q' rq OW hne h h'=>B.apart q q' rq OW hne (gZ h).2 (gZ h').2⟩
 ·obtain⟨r0,h0⟩:=B.top
  exact⟨r0,nT (by simp) h0⟩
 ·obtain⟨h3,h4⟩:=gZ h
  obtain⟨b1,⟨r2,b2,b3⟩,b4⟩:=B.sub q rq x h4 hx h2
  refine⟨b1,⟨r2,nT (fun z=>?_) b2,b3⟩,b4⟩
  rcases List.prefix_concat_iff.1 z with z | z
  ·obtain⟨z1,z2⟩:=nS (by simpa using z)
   subst z1
   rw [hp] at h4
   cases h4
   exact hk x hx z2.symm h2
  ·exact h3 z
 ·obtain⟨h3,h4⟩:=gZ h
  obtain⟨r0,x,a1,a2⟩:=B.up q k' r2 h4 (fun z=>h3 (by rw [z];exact List.prefix_refl _))
  exact⟨r0,x,nT (fun z=>h3 (z.trans (List.prefix_append _ _))) a1,a2⟩
end
section
open Go.RowKit
structure Turn (S:aW) (r:Rec) (S':aW) (r':Rec) (few:Nat):Prop where
 moved:dL S r.own S' r'.own few
 other:∀j:Int,j<(S.L.length:Int)+2→j∉r.ids→nodeAt S'.L j=nodeAt S.L j
structure Held (S:aW) (R:Path→Option Rec) (e o:Path):Prop where
 dh:xq S.L R e o
 back:∀p r,R p=some r→¬(o≠[]∧o <+: p)→∀j∈r.own,j∉S.given
 there:∀j∈S.given,2≤j∧j<(S.L.length:Int)+2
 stop:S.stop=-1
 bad:S.bad=false
 twice:S.twice=false
 nodup:S.given.Nodup
theorem iF {p:Path} {k:Bytes}:¬(p++[k]) <+: p:=fun h=>by
 have:=h.length_le
 simp at this
 omega
theorem Held.write {S S':aW} {R:Path→Option Rec} {e o p:Path} {r r':Rec} {few:Nat} (H:Held S R e o) (hp:R p=some r) (T:Turn S r S' r' few)
 (ht:bq S'.L r'.root r'.l r'.ids∧bJ r'.l=true∧(0≤r'.seq∧r'.seq≤1000000)∧r'.own.Nodup)
 (hsub:∀x∈r'.l,x.kind=2→qW x.key∧(∃r2,R (p++[x.key])=some r2∧x.val=gB r2.root.toNat r2.seq)∧∃(r0:Nat) (s0:Int),(r0=0∨2≤r0∧r0<4000)∧(0≤s0∧s0≤1000000)∧x.val=gB r0 s0)
 (hval:∀x∈r'.l,x.kind≠2→∃v,Sem S'.L x v)
 (hup:∀k r2,R (p++[k])=some r2→p++[k]≠o→∃x∈r'.l,x.key=k∧x.kind=2)
 (he:e=[]∨∃k,e=p++[k]) (ho:o=[]∨∃k,o=p++[k]):Held S' (upd R p r') p o:=by
 have B:=H.dh
 obtain⟨gs,g1,g2,g3⟩:=T.moved.gone
 have hpo:¬(o≠[]∧o <+: p):=fun ⟨h1,h2⟩=>by
  rcases ho with ho |⟨k,ho⟩
  ·exact h1 ho
  ·rw [ho] at h2
   exact iF h2
 have hgr:=T.moved.grow
 have hnew:∀j∈r'.own,j∈r.own∨(S.L.length:Int)+2≤j:=fun j hj=>by
  rcases T.moved.new j hj with a | a
  ·exact .inl a
  ·exact .inr (by omega)
 refine⟨B.write hp T.other ht hnew hsub hval hup he ho,fun q rq h hno j hj z=>?_,fun j hj=>?_,T.moved.stop.trans H.stop,T.moved.bad.trans H.bad,(T.moved.twice (H.back p r hp hpo)).trans H.twice,by
  rw [g1]
  exact List.nodup_append.2 ⟨H.nodup,g3,fun a ha c hc e=>H.back p r hp hpo c ((g2 c).1 hc).1 (e▸ha)⟩⟩
 ·rw [g1] at z
  by_cases hq:q=p
  ·subst hq
   rw [bV] at h
   cases h
   rcases List.mem_append.1 z with z | z
   ·rcases hnew j hj with a | a
    ·exact H.back q r hp hpo j a z
    ·have:=H.there j z
     omega
   ·exact((g2 j).1 z).2 hj
  ·rw [upd_ne hq] at h
   rcases List.mem_append.1 z with z | z
   ·exact H.back q rq h hno j hj z
   ·exact B.apart q p rq r hq h hp j hj ((g2 j).1 z).1
 ·rw [g1] at hj
  rcases List.mem_append.1 hj with z | z
  ·have:=H.there j z
   omega
  ·have:=B.there hp j ((g2 j).1 z).1
   omega
theorem Held.orphan {S:aW} {R:Path→Option Rec} {p:Path} {k:Bytes} (H:Held S R [] []) (hn:R (p++[k])=none) (hd:p.length<5):Held S (upd R (p++[k]) fH) [] (p++[k]):=by
 refine⟨H.dh.orphan hn hd,fun q rq h hno j hj=>?_,H.there,H.stop,H.bad,H.twice,H.nodup⟩
 by_cases hq:q=p++[k]
 ·subst hq
  rw [bV] at h
  cases h
  cases hj
 ·rw [upd_ne hq] at h
  exact H.back q rq h (fun z=>z.1 rfl) j hj
theorem Held.come {S:aW} {R:Path→Option Rec} {e p:Path} {k:Bytes} (H:Held S R e (p++[k])) (h:∃r x,R p=some r∧x∈r.l∧x.key=k∧x.kind=2) (hb:∀q r,R q=some r→p++[k] <+: q→∀j∈r.own,j∉S.given):Held S R e []:=by
 obtain⟨b1,b2,b3,b4,b5,b6,b7⟩:=H.dh
 refine⟨⟨b1,b2,b3,fun q k' r' hq _=>?_,b5,b6,b7⟩,fun q r hq _=>?_,H.there,H.stop,H.bad,H.twice,H.nodup⟩
 ·by_cases hc:q++[k']=p++[k]
  ·obtain⟨rfl,rfl⟩:=nS hc
   exact h
  ·exact b4 q k' r' hq hc
 ·by_cases hc:p++[k] <+: q
  ·exact hb q r hq hc
  ·exact H.back q r hq fun z=>hc z.2
theorem Held.leave {S:aW} {R:Path→Option Rec} {e:Path} (H:Held S R e []) (o:Path):Held S R e o:=by
 obtain⟨b1,b2,b3,b4,b5,b6,b7⟩:=H.dh
 exact⟨⟨b1,b2,b3,fun q k' r' hq _=>b4 q k' r' hq (by simp),b5,b6,b7⟩,fun q r hq _=>H.back q r hq (fun z=>z.1 rfl),H.there,H.stop,H.bad,H.twice,H.nodup⟩
theorem Held.free {S S':aW} {R:Path→Option Rec} {e o:Path} {gs:List Int} (H:Held S R e o) (ho:o≠[]) (hL:S'.L=S.L) (hg:S'.given=S.given++gs) (hs:S'.stop=S.stop) (hb:S'.bad=S.bad) (ht:S'.twice=S.twice) (hin:∀j∈gs,∃q r,R q=some r∧o <+: q∧j∈r.own) (hnd:gs.Nodup) (hnew:∀j∈gs,j∉S.given):Held S' R e o:=by
 refine⟨by rw [hL];exact H.dh,fun q r h hno j hj z=>?_,fun j hj=>?_,hs.trans H.stop,hb.trans H.bad,ht.trans H.twice,by
  rw [hg]
  exact List.nodup_append.2 ⟨H.nodup,hnd,fun a ha c hc e=>hnew c hc (e▸ha)⟩⟩
 ·rw [hg] at z
  rcases List.mem_append.1 z with z | z
  ·exact H.back q r h hno j hj z
  ·obtain⟨q',r',h1,h2,h3⟩:=hin j z
   by_cases hq:q=q'
   ·subst hq
    exact hno ⟨ho,h2⟩
   ·exact H.dh.apart q q' r r' hq h h1 j hj h3
 ·rw [hg] at hj
  rw [hL]
  rcases List.mem_append.1 hj with z | z
  ·exact H.there j z
  ·obtain⟨q',r',h1,h2,h3⟩:=hin j z
   exact H.dh.there h1 j h3
theorem Held.prune {S:aW} {R:Path→Option Rec} {e p:Path} {k:Bytes} {r:Rec} (H:Held S R e (p++[k])) (hp:R p=some r) (hk:∀x∈r.l,x.key=k→x.kind≠2):Held S (prune R (p++[k])) e []:=
 ⟨H.dh.prune hp hk,fun q rq h _=>H.back q rq (gZ h).2 fun z=>(gZ h).1 z.2,H.there,H.stop,H.bad,H.twice,H.nodup⟩
def Full (S:aW) (R:Path→Option Rec):Prop:=∀j:Int,2≤j→j<(S.L.length:Int)+2→(∃p r,R p=some r∧j∈r.own)∨j∈S.given
theorem Full.write {S S':aW} {R:Path→Option Rec} {p:Path} {r r':Rec} {few:Nat} (F:Full S R) (hp:R p=some r) (T:Turn S r S' r' few):Full S' (upd R p r'):=by
 intro j h1 h2
 obtain⟨gs,g1,g2,g3⟩:=T.moved.gone
 by_cases hj:j<(S.L.length:Int)+2
 ·rcases F j h1 hj with ⟨q,rq,a,b⟩ | a
  ·by_cases hq:q=p
   ·subst hq
    rw [hp] at a
    cases a
    by_cases hin:j∈r'.own
    ·exact .inl ⟨q,r',bV _ _ _,hin⟩
    ·exact .inr (by rw [g1];exact List.mem_append_right _ ((g2 j).2 ⟨b,hin⟩))
   ·exact .inl ⟨q,rq,by rw [upd_ne hq];exact a,b⟩
  ·exact .inr (by rw [g1];exact List.mem_append_left _ a)
 ·exact .inl ⟨p,r',bV _ _ _,T.moved.all j (by omega) (by omega)⟩
theorem Full.orphan {S:aW} {R:Path→Option Rec} {q:Path} (F:Full S R) (hn:R q=none):Full S (upd R q fH):=by
 intro j h1 h2
 rcases F j h1 h2 with ⟨p,r,a,b⟩ | a
 ·refine .inl ⟨p,r,?_,b⟩
  rw [upd_ne]
  ·exact a
  ·intro z
   rw [z,hn] at a
   cases a
 ·exact .inr a
theorem Full.free {S S':aW} {R:Path→Option Rec} {gs:List Int} (F:Full S R) (hL:S'.L=S.L) (hg:S'.given=S.given++gs):Full S' R:=by
 intro j h1 h2
 rw [hL] at h2
 rw [hg]
 exact(F j h1 h2).imp id fun a=>List.mem_append_left _ a
theorem Full.prune {S:aW} {R:Path→Option Rec} {o:Path} (F:Full S R) (h:∀q r,R q=some r→o <+: q→∀j∈r.own,j∈S.given):Full S (prune R o):=by
 intro j h1 h2
 rcases F j h1 h2 with ⟨q,r,a,b⟩ | a
 ·by_cases ho:o <+: q
  ·exact .inr (h q r a ho j b)
  ·exact .inl ⟨q,r,nT ho a,b⟩
 ·exact .inr a
end
section
open Go.RowKit
def lI (S:aW) (cs:List Bytes):aW:={ S with L:=S.L++cs.map Node.over }
def fq (S:aW) (gs:List Int):aW:=gs.foldl fV S
theorem iL (S:aW) (gs:List Int):(fq S gs).given=S.given++gs∧(fq S gs).L=S.L∧(fq S gs).mine=S.mine∧(fq S gs).bad=S.bad∧(fq S gs).stop=S.stop:=by
 induction gs generalizing S with
 | nil=>exact⟨by simp [fq],rfl,rfl,rfl,rfl⟩
 | cons g gs ih=>
  obtain⟨h1,h2,h3,h4,h5⟩:=ih (fV S g)
  refine⟨?_,h2,h3,h4,h5⟩
  show (fq (fV S g) gs).given=_
  rw [h1]
  simp [fV]
theorem qX {S:aW} {gs:List Int} (h:∀j∈gs,j∉S.given) (hn:gs.Nodup):(fq S gs).twice=S.twice:=by
 induction gs generalizing S with
 | nil=>rfl
 | cons g gs ih=>
  rw [List.nodup_cons] at hn
  show (fq (fV S g) gs).twice=_
  rw [ih (fun j hj=>?_) hn.2]
  ·show (S.twice || S.given.any fun x=>x == g)=S.twice
   rw [any_false (h g (by simp)),Bool.or_false]
  ·show j∉S.given++[g]
   intro z
   rcases List.mem_append.1 z with z | z
   ·exact h j (by simp [hj]) z
   ·rw [List.mem_singleton] at z
    subst z
    exact hn.1 hj
def newL (S:aW) (n:Nat):List Int:=(List.range n).map fun k=>((S.L.length+2+k:Nat):Int)
theorem nU {S:aW} {n:Nat} {j:Int}:j∈newL S n↔(S.L.length:Int)+2≤j∧j<(S.L.length:Int)+2+n:=by
 unfold newL
 rw [List.mem_map]
 constructor
 ·rintro⟨k,hk,rfl⟩
  have:=List.mem_range.1 hk
  omega
 ·intro h
  exact⟨(j-(S.L.length:Int)-2).toNat,List.mem_range.2 (by omega),by omega⟩
theorem FU (S:aW) (n:Nat):(newL S n).Nodup:=by
 unfold newL
 exact List.Pairwise.map _ (fun a b (h:a≠b)=>by omega) List.nodup_range
theorem d9 {r:Rec} (hn:r.own.Nodup) {j:Int} {x:Item} (hx:x∈r.l) (hj:j∈aX x):j∉r.ids:=by
 unfold Rec.own at hn
 rw [List.nodup_append] at hn
 exact fun h=>hn.2.2 j h j (List.mem_flatMap.2 ⟨x,hx,hj⟩) rfl
theorem tT {l:List Item} (hn:(l.flatMap aX).Nodup) (hr:l.Pairwise fun a b=>a.key≠b.key) {x y:Item} (hx:x∈l) (hy:y∈l) (hne:x≠y) {j:Int} (hj:j∈aX x):j∉aX y:=by
 induction l with
 | nil=>cases hx
 | cons a l ih=>
  rw [List.flatMap_cons,List.nodup_append] at hn
  rw [List.pairwise_cons] at hr
  rcases List.mem_cons.1 hx with rfl | hx'
  ·rcases List.mem_cons.1 hy with rfl | hy'
   ·exact absurd rfl hne
   ·exact fun z=>hn.2.2 j hj j (List.mem_flatMap.2 ⟨y,hy',z⟩) rfl
  ·rcases List.mem_cons.1 hy with rfl | hy'
   ·exact fun z=>hn.2.2 j z j (List.mem_flatMap.2 ⟨x,hx',hj⟩) rfl
   ·exact ih hn.2.1 hr.2 hx' hy'
theorem jG {l:List Item} (h:bF l):l.Pairwise fun a b=>a.key≠b.key:=List.Pairwise.imp (fun {a b} (q:Keyed.key a<Keyed.key b) e=>by
 have q:a.key<b.key:=q
 rw [e] at q
 exact absurd q (List.lt_irrefl _)) h
theorem qY {l:List Item} (h:bF l) {x y:Item} (hx:x∈l) (hy:y∈l) (hk:x.key=y.key):x=y:=by
 have hp:=jG h
 induction l with
 | nil=>cases hx
 | cons a l ih=>
  rw [List.pairwise_cons] at hp
  rcases List.mem_cons.1 hx with rfl | hx'
  ·rcases List.mem_cons.1 hy with rfl | hy'
   ·rfl
   ·exact absurd hk (hp.1 y hy')
  ·rcases List.mem_cons.1 hy with rfl | hy'
   ·exact absurd hk.symm (hp.1 x hx')
   ·exact ih (List.pairwise_cons.1 h).2 hx' hy' hp.2
theorem y7 {α β:Type} (f:α→List β) {l m:List α} (h:l.Sublist m):(l.flatMap f).Sublist (m.flatMap f):=by
 induction h with
 | slnil=>exact List.Sublist.refl _
 | cons a _ ih=>rw [List.flatMap_cons];exact ih.trans (List.sublist_append_right _ _)
 | cons_cons a _ ih=>rw [List.flatMap_cons,List.flatMap_cons];exact List.Sublist.append (List.Sublist.refl _) ih
def gG (l:List Item) (k:Bytes):List Int:=(l.filter fun y=>y.key == k).flatMap aX
theorem pG {l:List Item} {k:Bytes} {j:Int}:j∈gG l k↔∃y∈l,y.key=k∧j∈aX y:=by
 unfold gG
 rw [List.mem_flatMap]
 constructor
 ·rintro⟨y,hy,hj⟩
  rw [List.mem_filter] at hy
  exact⟨y,hy.1,by simpa using hy.2,hj⟩
 ·rintro⟨y,hy,hk,hj⟩
  exact⟨y,List.mem_filter.2 ⟨hy,by simpa using hk⟩,hj⟩
theorem r9 {l:List Item} {k:Bytes} (h:(l.flatMap aX).Nodup):(gG l k).Nodup:=by
 unfold gG
 have hs:(l.filter fun y=>y.key == k).Sublist l:=List.filter_sublist
 exact List.Nodup.sublist (y7 aX hs) h
theorem I8 {l:List Item} (x:Item) (h:(l.flatMap aX).Nodup) (hx:(aX x).Nodup) (hd:∀j∈aX x,j∉l.flatMap aX):((dS l x).flatMap aX).Nodup:=by
 rw [GU,List.flatMap_append,List.flatMap_cons]
 refine(List.perm_append_comm_assoc _ _ _).nodup_iff.2 ?_
 rw [←List.flatMap_append]
 have hs:(l.take (findAt l x.key)++l.drop (findAt l x.key+if pX l x.key=true then 1 else 0)).Sublist l:=by
  conv=>rhs;rw [←List.take_append_drop (findAt l x.key) l]
  refine List.Sublist.append (List.Sublist.refl _) ?_
  rw [←List.drop_drop]
  exact List.drop_sublist _ _
 have hs2:=y7 aX hs
 rw [List.nodup_append]
 refine⟨hx,h.sublist hs2,fun a ha b hb e=>?_⟩
 subst e
 exact hd a ha (hs2.subset hb)
theorem qx (S:aW) (cs:List Bytes):(lI S cs).L.length=S.L.length+cs.length:=by simp [lI]
theorem Ei {S S2:aW} {r:Rec} {x:Item} {cs:List Bytes} {root':Int} {bE:List Int} {few:Nat} (hn:r.own.Nodup) (hl:bJ r.l=true) (hown:∀j∈r.own,2≤j∧j<(S.L.length:Int)+2) (hx:aX x=newL S cs.length)
 (M:dL (lI S cs) r.ids S2 bE few) (hnd:bE.Nodup) :
 Turn S r (fq S2 (gG r.l x.key)) ⟨root',r.seq,dS r.l x,bE⟩ (cs.length+few)∧(Rec.own ⟨root',r.seq,dS r.l x,bE⟩).Nodup:=by
 obtain⟨f1,f2,f3,f4,f5⟩:=iL S2 (gG r.l x.key)
 have hll:=qx S cs
 have hm:=uT ((aH _).1 hl).2 x
 have hfl:(r.l.flatMap aX).Nodup:=by
  unfold Rec.own at hn
  rw [List.nodup_append] at hn
  exact hn.2.1
 obtain⟨gs,g1,g2,g3⟩:=M.gone
 have hown':∀j,j∈(Rec.own ⟨root',r.seq,dS r.l x,bE⟩)↔j∈bE∨j∈newL S cs.length∨∃y∈r.l,y.key≠x.key∧j∈aX y:=fun j=>by
  rw [bP,←hx]
  constructor
  ·rintro(q |⟨y,hy,q⟩)
   ·exact .inl q
   ·rcases(hm y).1 hy with rfl |⟨h1,h2⟩
    ·exact .inr (.inl q)
    ·exact .inr (.inr ⟨y,h1,h2,q⟩)
  ·rintro(q | q |⟨y,h1,h2,q⟩)
   ·exact .inl q
   ·exact .inr ⟨x,(hm x).2 (.inl rfl),q⟩
   ·exact .inr ⟨y,(hm y).2 (.inr ⟨h1,h2⟩),q⟩
 have gP:∀j∈bE,j∈r.ids∨(S.L.length:Int)+cs.length+2≤j:=fun j hj=>by
  rcases M.new j hj with a | a
  ·exact .inl a
  ·rw [hll] at a
   exact .inr (by omega)
 have Lm:∀j:Int,j<(S.L.length:Int)+2→eD (lI S cs) j=eD S j:=fun j hj=>by
  unfold eD
  rw [hll]
  congr 1
  show (S.mine≤j∧j-2<((S.L.length+cs.length:Nat):Int)∧2≤j)=(S.mine≤j∧j-2<(S.L.length:Int)∧2≤j)
  rw [eq_iff_iff]
  omega
 have hsame:∀j:Int,j<(S.L.length:Int)+2→j∉r.ids∨eD S j=false→nodeAt (fq S2 (gG r.l x.key)).L j=nodeAt S.L j:=fun j hj q=>by
  rw [f2,M.other j (by rw [hll];omega) (q.imp id fun q=>by rw [Lm j hj];exact q)]
  exact lU (by omega)
 refine⟨⟨⟨fun j hj=>?_,fun j hj q=>hsame j (by omega) (q.imp (fun q k=>q (bP.2 (.inl k))) id),?_,?_,⟨gs++gG r.l x.key,?_,fun j=>?_,?_⟩,fun hg=>?_,f3.trans M.mine,f4.trans M.bad,f5.trans M.stop,fun j h1 h2=>?_⟩,fun j hj q=>hsame j hj (.inl q)⟩,?_⟩
 ·rcases(hown' j).1 hj with q | q |⟨y,h1,_,q⟩
  ·rcases gP j q with a | a
   ·exact .inl (bP.2 (.inl a))
   ·exact .inr (by omega)
  ·exact .inr (by have:=(nU.1 q).1;omega)
  ·exact .inl (bP.2 (.inr ⟨y,h1,q⟩))
 ·rw [f2]
  have:=M.grow
  omega
 ·rw [f2]
  have:=M.few
  omega
 ·rw [f1,g1,List.append_assoc]
  rfl
 ·rw [List.mem_append,g2,pG,hown']
  constructor
  ·rintro(⟨h1,h2⟩ |⟨y,h1,h2,h3⟩)
   ·refine⟨bP.2 (.inl h1),?_⟩
    have:=(hown j (bP.2 (.inl h1))).2
    rintro(q | q |⟨y,k1,_,q⟩)
    ·exact h2 q
    ·have:=(nU.1 q).1
     omega
    ·exact d9 hn k1 q h1
   ·have hj:=bP.2 (.inr ⟨y,h1,h3⟩:j∈r.ids∨∃y∈r.l,j∈aX y)
    have:=(hown j hj).2
    refine⟨hj,?_⟩
    rintro(q | q |⟨z,k1,k2,q⟩)
    ·rcases gP j q with a | a
     ·exact d9 hn h1 h3 a
     ·omega
    ·have:=(nU.1 q).1
     omega
    ·exact tT hfl (jG ((aH _).1 hl).2) h1 k1 (fun e=>k2 (by rw [←e];exact h2)) h3 q
  ·rintro⟨h1,h2⟩
   rcases bP.1 h1 with q |⟨y,k1,q⟩
   ·exact .inl ⟨q,fun z=>h2 (.inl z)⟩
   ·refine .inr ⟨y,k1,?_,q⟩
    apply Classical.byContradiction
    intro k2
    exact h2 (.inr (.inr ⟨y,k1,k2,q⟩))
 ·rw [List.nodup_append]
  refine⟨g3,r9 hfl,fun a ha b hb e=>?_⟩
  subst e
  obtain⟨y,h1,_,h3⟩:=pG.1 hb
  exact d9 hn h1 h3 ((g2 a).1 ha).1
 ·rw [qX (fun j hj z=>?_) (r9 hfl)]
  ·exact M.twice fun j hj=>hg j (bP.2 (.inl hj))
  ·obtain⟨y,h1,_,h3⟩:=pG.1 hj
   rw [g1] at z
   rcases List.mem_append.1 z with z | z
   ·exact hg j (bP.2 (.inr ⟨y,h1,h3⟩)) z
   ·exact d9 hn h1 h3 ((g2 j).1 z).1
 ·rw [f2] at h2
  rw [hown']
  by_cases hj:j<(S.L.length:Int)+2+cs.length
  ·exact .inr (.inl (nU.2 ⟨by omega,hj⟩))
  ·exact .inl (M.all j (by rw [hll];omega) h2)
 ·unfold Rec.own
  rw [List.nodup_append]
  refine⟨hnd,I8 x hfl (by rw [hx];exact FU _ _) (fun j hj z=>?_),fun a ha b hb e=>?_⟩
  ·obtain⟨y,hy,q⟩:=List.mem_flatMap.1 z
   rw [hx] at hj
   have:=(nU.1 hj).1
   have:=(hown j (bP.2 (.inr ⟨y,hy,q⟩))).2
   omega
  ·subst e
   obtain⟨y,hy,q⟩:=List.mem_flatMap.1 hb
   rcases(hm y).1 hy with rfl |⟨h1,h2⟩
   ·rw [hx] at q
    have h5:=nU.1 q
    rcases gP a ha with z | z
    ·have:=(hown a (bP.2 (.inl z))).2
     omega
    ·omega
   ·rcases gP a ha with z | z
    ·exact d9 hn h1 q z
    ·have:=(hown a (bP.2 (.inr ⟨y,h1,q⟩))).2
     omega
theorem vS {h:List Item} (hr:bF h) (k:Bytes) (y:Item):y∈(bU h k).1↔y∈h∧y.key≠k:=by
 have ha:=nD h k
 have hb:=lu hr k
 have hbr:bF (behind h k):=by
  have h2:=hr
  unfold bF at h2 ⊢
  rw [←bZ h k,List.pairwise_append] at h2
  exact h2.2.1
 have hne:∀z,z∈ahead h k→z.key≠k:=fun z hz e=>by
  have:=ha z hz
  rw [show Keyed.key z=k from e] at this
  exact List.lt_irrefl _ this
 have hm:=nQ (l:=h) (k:=k) (y:=y)
 unfold bU
 cases QO:behind h k with
 | nil=>
  rw [QO] at hm
  simp only [List.not_mem_nil,or_false] at hm
  simp only
  exact⟨fun q=>⟨q,hne y (hm.1 q)⟩,fun q=>q.1⟩
 | cons z r=>
  rw [QO] at hbr hm
  unfold bF at hbr
  rw [List.pairwise_cons] at hbr
  have U9:∀u∈r,u.key≠z.key:=fun u hu e=>by
   have:=hbr.1 u hu
   rw [show Keyed.key u=Keyed.key z from e] at this
   exact List.lt_irrefl _ this
  by_cases hz:z.key=k
  ·simp only [if_pos hz]
   rw [List.mem_append,hm]
   constructor
   ·rintro(q | q)
    ·exact⟨.inl q,hne y q⟩
    ·exact⟨.inr (List.mem_cons_of_mem _ q),fun e=>U9 y q (by rw [hz];exact e)⟩
   ·rintro⟨q | q,e⟩
    ·exact .inl q
    ·rcases List.mem_cons.1 q with rfl | q
     ·exact absurd hz e
     ·exact .inr q
  ·simp only [if_neg hz]
   have hall:∀u∈z :: r,u.key≠k:=by
    intro u hu e
    have h1:¬Keyed.key z<k:=hb z (by rw [QO];simp)
    rcases List.mem_cons.1 hu with rfl | hu
    ·exact hz e
    ·have h3:Keyed.key z<Keyed.key u:=hbr.1 u hu
     rw [show Keyed.key u=k from e] at h3
     exact h1 h3
   exact⟨fun q=>⟨q,(hm.1 q).elim (hne y) (hall y)⟩,fun q=>q.1⟩
theorem Lp (l:List Item) (k:Bytes):(bU l k).1.Sublist l:=by
 rw [vR]
 split
 ·conv=>rhs;rw [←List.take_append_drop (findAt l k) l]
  refine List.Sublist.append (List.Sublist.refl _) ?_
  rw [←List.drop_drop]
  exact List.drop_sublist _ _
 ·exact List.Sublist.refl _
theorem Ej {S S2:aW} {r:Rec} {k:Bytes} {root':Int} {bE:List Int} {few:Nat} (hn:r.own.Nodup) (hl:bJ r.l=true) (hown:∀j∈r.own,2≤j∧j<(S.L.length:Int)+2)
 (M:dL (fq S (gG r.l k)) r.ids S2 bE few) (hnd:bE.Nodup) :
 Turn S r S2 ⟨root',r.seq,(bU r.l k).1,bE⟩ few∧(Rec.own ⟨root',r.seq,(bU r.l k).1,bE⟩).Nodup:=by
 obtain⟨f1,f2,f3,f4,f5⟩:=iL S (gG r.l k)
 have hris:=((aH _).1 hl).2
 have hm:=vS hris k
 have hfl:(r.l.flatMap aX).Nodup:=by
  unfold Rec.own at hn
  rw [List.nodup_append] at hn
  exact hn.2.1
 obtain⟨gs,g1,g2,g3⟩:=M.gone
 have hown':∀j,j∈(Rec.own ⟨root',r.seq,(bU r.l k).1,bE⟩)↔j∈bE∨∃y∈r.l,y.key≠k∧j∈aX y:=fun j=>by
  rw [bP]
  constructor
  ·rintro(q |⟨y,hy,q⟩)
   ·exact .inl q
   ·exact .inr ⟨y,((hm y).1 hy).1,((hm y).1 hy).2,q⟩
  ·rintro(q |⟨y,h1,h2,q⟩)
   ·exact .inl q
   ·exact .inr ⟨y,(hm y).2 ⟨h1,h2⟩,q⟩
 have gP:∀j∈bE,j∈r.ids∨(S.L.length:Int)+2≤j:=fun j hj=>by
  rcases M.new j hj with a | a
  ·exact .inl a
  ·rw [f2] at a
   exact .inr (by omega)
 have Lm:∀j:Int,eD (fq S (gG r.l k)) j=eD S j:=fun j=>by
  unfold eD
  rw [f2,f3]
 have hsame:∀j:Int,j<(S.L.length:Int)+2→j∉r.ids∨eD S j=false→nodeAt S2.L j=nodeAt S.L j:=fun j hj q=>by
  rw [M.other j (by rw [f2];omega) (q.imp id fun q=>by rw [Lm j];exact q),f2]
 refine⟨⟨⟨fun j hj=>?_,fun j hj q=>hsame j (by omega) (q.imp (fun q k=>q (bP.2 (.inl k))) id),?_,?_,⟨gG r.l k++gs,?_,fun j=>?_,?_⟩,fun hg=>?_,M.mine.trans f3,M.bad.trans f4,M.stop.trans f5,fun j h1 h2=>?_⟩,fun j hj q=>hsame j hj (.inl q)⟩,?_⟩
 ·rcases(hown' j).1 hj with q |⟨y,h1,_,q⟩
  ·rcases gP j q with a | a
   ·exact .inl (bP.2 (.inl a))
   ·exact .inr (by omega)
  ·exact .inl (bP.2 (.inr ⟨y,h1,q⟩))
 ·have:=M.grow
  rw [f2] at this
  exact this
 ·have:=M.few
  rw [f2] at this
  exact this
 ·rw [g1,f1,List.append_assoc]
 ·rw [List.mem_append,g2,pG,hown']
  constructor
  ·rintro(⟨y,h1,h2,h3⟩ |⟨h1,h2⟩)
   ·have hj:=bP.2 (.inr ⟨y,h1,h3⟩:j∈r.ids∨∃y∈r.l,j∈aX y)
    have:=(hown j hj).2
    refine⟨hj,?_⟩
    rintro(q |⟨z,k1,k2,q⟩)
    ·rcases gP j q with a | a
     ·exact d9 hn h1 h3 a
     ·omega
    ·exact tT hfl (jG hris) h1 k1 (fun e=>k2 (by rw [←e];exact h2)) h3 q
   ·refine⟨bP.2 (.inl h1),?_⟩
    rintro(q |⟨y,k1,_,q⟩)
    ·exact h2 q
    ·exact d9 hn k1 q h1
  ·rintro⟨h1,h2⟩
   rcases bP.1 h1 with q |⟨y,k1,q⟩
   ·exact .inr ⟨q,fun z=>h2 (.inl z)⟩
   ·refine .inl ⟨y,k1,?_,q⟩
    apply Classical.byContradiction
    intro k2
    exact h2 (.inr ⟨y,k1,k2,q⟩)
 ·rw [List.nodup_append]
  refine⟨r9 hfl,g3,fun a ha b hb e=>?_⟩
  subst e
  obtain⟨y,h1,_,h3⟩:=pG.1 ha
  exact d9 hn h1 h3 ((g2 a).1 hb).1
 ·have h4:(fq S (gG r.l k)).twice=S.twice:=qX (fun j hj z=>by
   obtain⟨y,h1,_,h3⟩:=pG.1 hj
   exact hg j (bP.2 (.inr ⟨y,h1,h3⟩)) z) (r9 hfl)
  rw [M.twice (fun j hj z=>?_),h4]
  rw [f1] at z
  rcases List.mem_append.1 z with z | z
  ·exact hg j (bP.2 (.inl hj)) z
  ·obtain⟨y,h1,_,h3⟩:=pG.1 z
   exact d9 hn h1 h3 hj
 ·rw [hown']
  exact .inl (M.all j (by rw [f2];omega) h2)
 ·unfold Rec.own
  rw [List.nodup_append]
  refine⟨hnd,hfl.sublist (y7 aX (Lp r.l k)),fun a ha b hb e=>?_⟩
  subst e
  obtain⟨y,hy,q⟩:=List.mem_flatMap.1 hb
  have h1:=((hm y).1 hy).1
  rcases gP a ha with z | z
  ·exact d9 hn h1 q z
  ·have:=(hown a (bP.2 (.inr ⟨y,h1,q⟩))).2
   omega
theorem Lr (S:aW) (r:Rec) (seq:Int):Turn S r S ⟨r.root,seq,r.l,r.ids⟩ 0:=⟨dL.refl S r.own,fun _ _ _=>rfl⟩
end
end Go.Proofs.YtbhiamcmiopnoaaGreatDoor
