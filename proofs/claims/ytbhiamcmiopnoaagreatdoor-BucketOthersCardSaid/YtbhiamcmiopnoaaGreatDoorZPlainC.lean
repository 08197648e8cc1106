/- Plain laws: the parts of a delete below a twig; how much a delete gives back. No program in sight. -/
import Derived.Test.YtbhiamcmiopnoaaGreatDoorZPlainB
import Derived.Test.YtbhiamcmiopnoaaGreatDoorZPlain
namespace Go.Proofs.YtbhiamcmiopnoaaGreatDoor
section
open Go.RowKit
/-! ### The parts of a delete below a twig -/
theorem wK (p:aW) (kids:List Kid) (a:Nat) (one:Kid) (depth:Int):(sF p kids a one depth).2.given.length≤p.given.length+1:=by
 unfold sF
 split
 ·exact Nat.le_succ _
 ·split
  ·rename_i kb kl _ _
   have hl:=congrArg List.length (qM p kb.page depth)
   split
   ·rename_i h;rw [h] at hl;simp only at hl ⊢;omega
   ·rename_i h;rw [h] at hl;simp only at hl ⊢;omega
   ·rename_i ks p1 h
    rw [h] at hl
    simp only at hl
    have h2:=kY p1 kb.page (if a=0 then one :: setHead kb.key ks else ks++[one])
    split
    ·rename_i h3;rw [h3] at h2;simp only at h2 ⊢;omega
    ·rename_i h3;rw [h3] at h2;simp only at h2 ⊢;omega
   ·rename_i h;rw [h] at hl;simp only at hl ⊢;omega
  ·exact Nat.le_succ _
def KO (id:Int):xI (List Kid)→xI Rest
 |(.error e,p)=>(.error e,p)
 |(.ok l,p)=>if l.length=1 then (.ok ⟨l,true,true⟩,fV p id) else match eP p id l with
  |(.error e,p)=>(.error e,p)
  |(.ok w,p)=>(.ok ⟨w,false,true⟩,p)
theorem DU (id:Int) (q:xI (List Kid)):(KO id q).2.given.length≤q.2.given.length+1:=by
 obtain⟨q1,q2⟩:=q
 cases q1 with
 | error e=>exact Nat.le_succ _
 | ok l=>
  unfold KO
  simp only
  split
  ·simp [fV]
  ·have h5:=kY q2 id l
   split
   ·rename_i h6;rw [h6] at h5;exact h5
   ·rename_i h6;rw [h6] at h5;exact h5
theorem sS (key:Bytes) (f:Nat):∀(p:aW) (id depth:Int),(qy f p id key depth).2.given.length≤p.given.length+2 * f:=by
 induction f with
 | zero=>intro p id depth;exact Nat.le_refl _
 | succ f ih=>
  intro p id depth
  have hl:=congrArg List.length (qM p id depth)
  rw [qy]
  split
  ·rename_i h;rw [h] at hl;simp only at hl ⊢;omega
  ·rename_i l p1 h
   rw [h] at hl
   simp only at hl
   have h2:=kH p1 id (bU l key).1
   split
   ·split
    ·rename_i h3;rw [h3] at h2;simp only at h2 ⊢;omega
    ·rename_i h3;rw [h3] at h2;simp only at h2 ⊢;omega
   ·simp only;omega
  ·rename_i kids p1 h
   rw [h] at hl
   simp only at hl
   split
   ·simp only;omega
   ·rename_i k _
    have h1:=ih p1 k.page (depth+1)
    split
    ·rename_i h2;rw [h2] at h1;simp only at h1 ⊢;omega
    ·rename_i r p2 h2
     rw [h2] at h1
     simp only at h1
     split
     ·have fin:∀q:xI (List Kid),q.2.given.length≤p.given.length+2 * f+1→(KO id q).2.given.length≤p.given.length+2 * (f+1):=fun q hq=>by
       have:=DU id q
       omega
      refine fin _ ?_
      split
      ·split
       ·rename_i one rest hr
        have:=wK p2 kids (eH kids key) ⟨k.key,one.page⟩ (depth+1)
        omega
       ·simp only;omega
      ·simp only;omega
     ·simp only;omega
  ·rename_i h;rw [h] at hl;simp only at hl ⊢;omega
theorem sI (p:aW) (root:Int) (key:Bytes):(jk p root key).2.given.length≤p.given.length+46:=by
 unfold jk
 split
 ·simp only;omega
 ·have h:=sS key 13 p root 1
  split
  ·rename_i h2;rw [h2] at h;simp only at h ⊢;omega
  ·rename_i r p1 h2
   rw [h2] at h
   simp only at h
   split
   ·have h3:=yU 20 p1 r.kids
    split
    ·rename_i h4;rw [h4] at h3;simp only at h3 ⊢;omega
    ·rename_i h4;rw [h4] at h3;simp only at h3 ⊢;omega
   ·simp only;omega
def BQ (id:Int) (l:List Kid) (p2 S2:aW) (r:Rest):Prop:=(l.length=1∧r=⟨l,true,true⟩∧S2=fV p2 id)∨(2≤l.length∧∃w,eP p2 id l=(.ok w,S2)∧r=⟨w,false,true⟩)
theorem yt (key:Bytes) (n f:Nat) (S S2:aW) (id:Int) (b:Bytes) (l:List Item) (ids:List Int) (depth:Int) (r:Rest) (h:Tree S.L (n+1) id b l ids) (hf:n<f) (hd:depth+(n+1:Nat)≤12) (hs:S.stop<0) (hL:S.L.length+3+2 * (n+1)≤3998)
 (hk:qy (f+1) S id key depth=(.ok r,S2)) :
 ∃kids k rk p1,nodeAt S.L id=some (.cZ kids)∧kids≠[]∧mP (.cZ kids)∧2≤kids.length∧kids[eH kids key]? = some k∧(∃b' l' bE,Tree S.L n k.page b' l' bE)∧qy f S k.page key (depth+1)=(.ok rk,p1)∧
  p1.L.length≤S.L.length+1+2 * n∧p1.stop=S.stop∧S.L.length≤p1.L.length∧p1.given.length≤S.given.length+2 * f∧
  ((rk=⟨[],false,false⟩∧r=⟨[],false,false⟩∧p1=S∧S2=S)∨
   (rk.found=true∧((rk.thin=false∧rk.kids.length≤2∧bJ rk.kids=true∧BQ id (fO kids (eH kids key) (setHead k.key rk.kids)) p1 S2 r)∨
    (rk.thin=true∧∃one l2 p2,rk.kids=[one]∧fF one=true∧sF p1 kids (eH kids key) ⟨k.key,one.page⟩ (depth+1)=(.ok l2,p2)∧aT l2≤392∧p2.L.length≤p1.L.length+2∧p1.L.length≤p2.L.length∧p2.given.length≤p1.given.length+1∧p2.stop=p1.stop∧BQ id l2 p2 S2 r)))):=by
 cases h with
 | cZ _ _ ts h two ok sub bd nd=>
  have iT:=(aH _).1 ok.1
  have hne:ts.map au.kid≠[]:=by intro q;rw [List.map_eq_nil_iff] at q;subst q;simp at two
  obtain⟨A',x,C',e1,e2,e3,e4⟩:=nH iT.2 hne key
  obtain⟨A,rr,rfl,rfl,er⟩:=List.map_eq_append_iff.1 e1
  obtain⟨t,C,rfl,rfl,rfl⟩:=List.map_eq_cons_iff.1 er
  have uw:((A++t :: C).map au.kid)[eH ((A++t :: C).map au.kid) key]? = some t.kid:=by
   rw [e2,List.map_append,List.getElem?_append_right (by simp)]
   simp
  have hT:=sub t (by simp)
  have h2k:2≤((A++t :: C).map au.kid).length:=by rw [List.length_map];exact two
  have J9:eH ((A++t :: C).map au.kid) key<((A++t :: C).map au.kid).length:=(List.getElem?_eq_some_iff.1 uw).1
  rw [qy,iB h (by omega) hs] at hk
  simp only at hk
  rw [uw] at hk
  simp only at hk
  have hg:=sS key f S t.kid.page (depth+1)
  have last:∀(l2:List Kid) (p2:aW),l2≠[]→(if l2.length=1 then (.ok ⟨l2,true,true⟩,fV p2 id) else match eP p2 id l2 with
   |(.error e,p)=>(.error e,p)
   |(.ok w,p)=>((.ok ⟨w,false,true⟩,p):xI Rest))=(.ok r,S2)→BQ id l2 p2 S2 r:=by
   intro l2 p2 hne2 hq
   have hpos:=List.length_pos_iff.2 hne2
   split at hq
   ·rename_i h1
    cases hq
    exact .inl ⟨h1,rfl,rfl⟩
   ·rename_i h1
    split at hq
    ·cases hq
    ·rename_i w p3 h3
     cases hq
     exact .inr ⟨by omega,w,h3,rfl⟩
  rcases Bp key n S t.kid.page t.low t.items t.ids (depth+1) f hT (by omega) (by omega) hs (by omega) with ⟨i1,i2⟩ |⟨i1,w,p1,thin,i2,i3,M,i5,i6⟩
  ·rw [i2] at hk hg
   simp only [Bool.false_eq_true,if_false] at hk
   cases hk
   exact⟨_,t.kid,_,_,h,hne,ok,h2k,uw,⟨_,_,_,hT⟩,i2,by omega,rfl,Nat.le_refl _,hg,.inl ⟨rfl,rfl,rfl,rfl⟩⟩
  ·rw [i2] at hk hg
   simp only [if_true] at hk
   refine⟨_,t.kid,_,p1,h,hne,ok,h2k,uw,⟨_,_,_,hT⟩,i2,by have:=M.few;omega,M.stop,M.grow,hg,.inr ⟨rfl,?_⟩⟩
   rcases i6 with ⟨rfl,W,hw2,_⟩ |⟨rfl,m,o,rfl,rfl,O,_⟩
   ·refine .inl ⟨rfl,by rw [List.length_map];exact hw2,W.ok,?_⟩
    simp only [Bool.false_eq_true,if_false] at hk
    refine last _ _ ?_ hk
    intro q
    have:=congrArg List.length q
    have h3:=uQ _ (setHead t.kid.key (w.map au.kid)) _ J9
    simp only [List.length_nil] at this
    omega
   ·simp only [if_true,List.map_cons,List.map_nil] at hk
    rw [List.nodup_cons] at nd
    have F:bR S.L (m+1) (A++t :: C):=⟨sub,bd,ok.1,nd.2⟩
    have hlen:eH ((A++t :: C).map au.kid) key=A.length:=by rw [e2,List.length_map]
    simp only [List.flatMap_cons,List.flatMap_nil,List.append_nil] at i3 M
    obtain⟨ls,p2,pages,x,s1,s2,s3,s4,s5,_,_,_,_,s10⟩:=join_step (depth:=depth+1) F two ok.2.1 M O (fun i hi=>(rG t.items key).subset (by rw [←i3];exact hi)) (fun b' hb=>i5 b' hb o (by simp)) (by omega) (by rw [M.stop];exact hs) (by have:=M.few;omega)
    rw [←hlen] at s1
    rw [s1] at hk
    have hgj:=wK p1 ((A++t :: C).map au.kid) (eH ((A++t :: C).map au.kid) key) ⟨t.kid.key,o.kid.page⟩ (depth+1)
    rw [s1] at hgj
    refine .inr ⟨rfl,o.kid,ls.map au.kid,p2,rfl,((aH _).1 O.ok).1 _ (by simp),s1,s10,s5.few,s5.grow,hgj,s5.stop,last _ _ (by simpa using s4) hk⟩
end
section
open Go.RowKit
/-! ### The parts of a join -/
theorem Aa {p p':aW} {old:Int} {l ks:List Kid} (h:eP p old l=(.ok ks,p')) (hne:l≠[]) (hL:p.L.length+(bY l).length≤3998) (ho:old<(p.L.length+2:Nat)):ks≠[]∧ks.length=(bY l).length:=by
 have hr:=iU h
 unfold eP at h
 rw [if_pos hr] at h
 obtain⟨bE,p2,h1,K⟩:=nE p old ((bY l).map Node.cZ) (by simpa using hL) ho
 rw [h1] at h
 simp only at h
 cases h
 have hl:(jr (bY l) bE).length=(bY l).length:=by unfold jr;rw [List.length_zipWith,K.len,List.length_map,Nat.min_self]
 refine⟨fun q=>?_,hl⟩
 rw [q] at hl
 have hc:bY l≠[]:=by
  unfold bY
  intro q2
  have:=congrArg List.length q2
  rw [pE] at this
  have h3:=List.eq_nil_of_length_eq_zero this
  have h4:=fB l
  rw [h3] at h4
  exact hne h4.symm
 have:=List.length_pos_iff.2 hc
 simp only [List.length_nil] at hl
 omega
theorem EW {p p2:aW} {kids l2:List Kid} {a:Nat} {one:Kid} {depth:Int} (hs:p.stop<0) (hd:depth≤12) (h:sF p kids a one depth=(.ok l2,p2)) :
 2≤kids.length∧∃kb kl ks wk,kids[if a=0 then 1 else a-1]? = some kb∧kids[a-1]? = some kl∧nodeAt p.L kb.page=some (.cZ ks)∧eP p kb.page (if a=0 then one :: setHead kb.key ks else ks++[one])=(.ok wk,p2)∧
  l2=kids.take (a-1)++setHead kl.key wk++kids.drop (a-1+2):=by
 unfold sF at h
 by_cases hl:kids.length<2
 ·rw [if_pos hl] at h;cases h
 ·rw [if_neg hl] at h
  refine⟨by omega,?_⟩
  cases h1:kids[if a=0 then 1 else a-1]? with
  | none=>rw [h1] at h;cases h
  | some kb=>
   cases h2:kids[a-1]? with
   | none=>rw [h1,h2] at h;cases h
   | some kl=>
    rw [h1,h2] at h
    simp only at h
    cases hn:nodeAt p.L kb.page with
    | none=>
     unfold uI uj at h
     rw [if_neg (by omega),if_neg (by omega),hn] at h
     cases h
    | some n=>
     rw [iB hn (by omega) hs] at h
     cases n with
     | leaf l=>cases h
     | over b=>cases h
     | cZ ks=>
      simp only at h
      cases h3:eP p kb.page (if a=0 then one :: setHead kb.key ks else ks++[one]) with
      | mk q p3=>
       rw [h3] at h
       cases q with
       | error e=>cases h
       | ok wk=>cases h;exact⟨kb,kl,ks,wk,rfl,rfl,hn,h3,rfl⟩
end
end Go.Proofs.YtbhiamcmiopnoaaGreatDoor
