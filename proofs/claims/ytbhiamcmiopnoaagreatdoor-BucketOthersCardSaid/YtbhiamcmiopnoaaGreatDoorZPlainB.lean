/- Plain laws: pages are kept one by one. No program in sight. -/
import Derived.Test.YtbhiamcmiopnoaaGreatDoorZPlain
namespace Go.Proofs.YtbhiamcmiopnoaaGreatDoor
section
open Go.RowKit
/-! ### Pages are kept one by one -/
inductive KP (S:aW) (old:Int) (ns:List Node):Nat→aW→List Int→Int→Prop
 | zero:KP S old ns 0 S [] old
 | set (n:Node) (h:ns[0]? = some n) (ho:old≠0) (hm:eD S old=true):KP S old ns 1 { S with L:=S.L.set (old-2).toNat n } [old] 0
 | new (k:Nat) (S':aW) (ids:List Int) (o:Int) (n:Node) (h:KP S old ns k S' ids o) (hk:ns[k]? = some n) (hnot:k=0→¬(old≠0∧eD S old=true)) :
  KP S old ns (k+1) { S' with L:=S'.L++[n] } (ids++[((S'.L.length+2:Nat):Int)]) o
theorem wL (n k:Nat):gX n (k+1)=gX n k++[((n+2+k:Nat):Int)]:=by
 apply List.ext_getElem?
 intro i
 rw [List.getElem?_append,kG]
 by_cases h:i<k
 ·rw [if_pos h,lV _ _ _ h,lV _ _ _ (by omega)]
 ·rw [if_neg h]
  by_cases h2:i=k
  ·subst h2;rw [lV _ _ _ (by omega)];simp
  ·rw [List.getElem?_eq_none (by rw [kG];omega),List.getElem?_eq_none (by simp;omega)]
theorem KP.form {S:aW} {old:Int} {ns:List Node} {k:Nat} {S':aW} {ids:List Int} {o:Int} (h:KP S old ns k S' ids o):k≤ns.length∧
 ((¬(old≠0∧eD S old=true)∨k=0)∧S' = { S with L:=S.L++ns.take k }∧ids=gX S.L.length k∧o=old∨
 (old≠0∧eD S old=true)∧∃m n0 r,k=m+1∧ns=n0 :: r∧S' = { S with L:=S.L.set (old-2).toNat n0++r.take m }∧ids=old :: gX S.L.length m∧o=0):=by
 induction h with
 | zero=>exact⟨Nat.zero_le _,.inl ⟨.inr rfl,by simp,rfl,rfl⟩⟩
 | set n h ho hm=>
  obtain⟨hl,_⟩:=List.getElem?_eq_some_iff.1 h
  refine⟨hl,.inr ⟨⟨ho,hm⟩,0,n,ns.drop 1,rfl,?_,by simp,rfl,rfl⟩⟩
  cases ns with
  | nil=>simp at hl
  | cons a r=>simp at h;subst h;rfl
 | new k S' ids o n h hk hnot ih=>
  obtain⟨hl,_⟩:=List.getElem?_eq_some_iff.1 hk
  refine⟨hl,?_⟩
  rcases ih.2 with ⟨h1,rfl,rfl,rfl⟩ |⟨h1,m,n0,r,rfl,rfl,rfl,rfl,rfl⟩
  ·left
   refine⟨.inl (h1.elim id hnot),?_,?_,rfl⟩
   ·simp only [List.append_assoc]
    rw [List.take_add_one,hk]
    rfl
   ·rw [wL]
    simp only [List.length_append,List.length_take]
    congr 2
    have:min k ns.length=k:=by omega
    rw [this]
    omega
  ·right
   refine⟨h1,m+1,n0,r,rfl,rfl,?_,?_,rfl⟩
   ·rw [List.getElem?_cons_succ] at hk
    simp only [List.append_assoc]
    rw [List.take_add_one,hk]
    rfl
   ·rw [List.getElem?_cons_succ] at hk
    obtain⟨hl2,_⟩:=List.getElem?_eq_some_iff.1 hk
    rw [wL]
    simp only [List.length_append,List.length_set,List.length_take,List.cons_append]
    have:min m r.length=m:=by omega
    rw [this]
    congr 3
    omega
theorem KP.done {S:aW} {old:Int} {ns:List Node} {S':aW} {ids:List Int} {o:Int} (h:KP S old ns ns.length S' ids o) (hl:S.L.length+ns.length≤3998):lT S old ns=(.ok ids,if o≠0 then fV S' o else S'):=by
 rcases h.form.2 with ⟨h1,rfl,rfl,rfl⟩ |⟨h1,m,n0,r,h2,rfl,rfl,rfl,rfl⟩
 ·have e:lT S o ns=mG S o ns:=by
   cases ns with
   | nil=>rfl
   | cons n r=>
    rw [lT,if_neg (h1.resolve_right (by simp))]
  rw [e]
  unfold mG
  rw [uK ns S hl,List.take_length]
 ·rw [lT,if_pos h1]
  have hm:=h1.2
  simp only [eD,decide_eq_true_eq] at hm
  rw [List.length_cons] at h2 hl
  rw [Nj,if_neg (by omega)]
  simp only
  rw [uK r _ (by simp;omega)]
  have hrm:m=r.length:=by omega
  subst hrm
  simp only [List.length_set,List.take_length]
  rfl
theorem KP.keeps {S:aW} {old:Int} {ns:List Node} {k:Nat} {S':aW} {ids:List Int} {o:Int} (h:KP S old ns k S' ids o):S'.L.length≤S.L.length+k∧S'.stop=S.stop∧S'.given=S.given∧S'.mine=S.mine∧ids.length=k:=by
 induction h with
 | zero=>exact⟨Nat.le_refl _,rfl,rfl,rfl,rfl⟩
 | set=>exact⟨by simp,rfl,rfl,rfl,rfl⟩
 | new k S' ids o n h hk hnot ih=>exact⟨by simp;omega,ih.2.1,ih.2.2.1,ih.2.2.2.1,by simp [ih.2.2.2.2]⟩
end
section
open Go.RowKit
/-! ### How much is given back; how large a twig grows -/
theorem wM (ns:List Node):∀p:aW,(wE p ns).2.given=p.given:=by
 induction ns with
 | nil=>intro p;rfl
 | cons n ns ih=>
  intro p
  rw [wE,newP]
  split
  ·rename_i h;split at h<;>cases h;rfl
  ·rename_i h
   split at h
   ·cases h
   ·cases h
    have:=ih { p with L:=p.L++[n] }
    split
    ·rename_i h2;rw [h2] at this;exact this
    ·rename_i h2;rw [h2] at this;exact this
theorem sJ (p:aW) (old:Int) (ns:List Node):(mG p old ns).2.given.length≤p.given.length+1:=by
 have h:=wM ns p
 unfold mG
 split
 ·rename_i h2;rw [h2] at h;have:=congrArg List.length h;simp only at this ⊢;omega
 ·rename_i h2
  rw [h2] at h
  have:=congrArg List.length h
  simp only at this ⊢
  split
  ·simp [fV];omega
  ·omega
theorem wN (p:aW) (old:Int) (ns:List Node):(lT p old ns).2.given.length≤p.given.length+1:=by
 cases ns with
 | nil=>exact sJ p old []
 | cons n ns=>
  rw [lT]
  split
  ·rw [Nj]
   split
   ·rename_i h;split at h<;>cases h;exact Nat.le_succ _
   ·rename_i h
    split at h
    ·cases h
    ·cases h
     have h:=wM ns { p with L:=p.L.set (old-2).toNat n }
     split
     ·rename_i h2;rw [h2] at h;have:=congrArg List.length h;simp only at this ⊢;omega
     ·rename_i h2;rw [h2] at h;have:=congrArg List.length h;simp only at this ⊢;omega
  ·exact sJ p old (n :: ns)
theorem kH (p:aW) (old:Int) (l:List Item):(jl p old l).2.given.length≤p.given.length+1:=by
 have h:=wN p old ((gF l).map Node.leaf)
 unfold jl
 split
 ·split
  ·rename_i h2;rw [h2] at h;exact h
  ·rename_i h2;rw [h2] at h;exact h
 ·exact Nat.le_succ _
theorem kY (p:aW) (old:Int) (l:List Kid):(eP p old l).2.given.length≤p.given.length+1:=by
 have h:=wN p old ((bY l).map Node.cZ)
 unfold eP
 split
 ·split
  ·rename_i h2;rw [h2] at h;exact h
  ·rename_i h2;rw [h2] at h;exact h
 ·exact Nat.le_succ _
theorem qM (p:aW) (id depth:Int):(uI p id depth).2.given=p.given:=by
 unfold uI uj
 split
 ·rfl
 ·split
  ·rfl
  ·split<;>(simp only;split<;>rfl)
theorem tN (i:Item) (f:Nat):∀(p:aW) (id depth:Int),(tC f p id i depth).2.given.length≤p.given.length+f:=by
 induction f with
 | zero=>intro p id depth;exact Nat.le_refl _
 | succ f ih=>
  intro p id depth
  have hl:=congrArg List.length (qM p id depth)
  rw [tC]
  split
  ·rename_i h;rw [h] at hl;simp only at hl ⊢;omega
  ·rename_i l p1 h
   rw [h] at hl
   have:=kH p1 id (dS l i)
   simp only at hl;omega
  ·rename_i kids p1 h
   rw [h] at hl
   simp only at hl
   split
   ·simp only;omega
   ·rename_i k _
    have h1:=ih p1 k.page (depth+1)
    split
    ·rename_i h2;rw [h2] at h1;simp only at h1 ⊢;omega
    ·rename_i w p2 h2
     rw [h2] at h1
     have:=kY p2 id (fO kids (eH kids i.key) (dZ k.key w))
     simp only at h1;omega
  ·rename_i h;rw [h] at hl;simp only at hl ⊢;omega
theorem yU (f:Nat):∀(p:aW) (l:List Kid),(sw f p l).2.given.length≤p.given.length+f:=by
 induction f with
 | zero=>intro p l;exact Nat.le_refl _
 | succ f ih=>
  intro p l
  match l with
  | []=>exact Nat.le_add_right _ _
  | [k]=>exact Nat.le_add_right _ _
  | a :: b :: r=>
   have h:=kY p 0 (a :: b :: r)
   have e:sw (f+1) p (a :: b :: r)=(match eP p 0 (a :: b :: r) with |(.error e,p)=>(.error e,p) |(.ok up,p)=>sw f p up):=by
    rw [sw]<;>first | rfl |(intro k q;simp at q) |(intro q;simp at q)
   rw [e]
   split
   ·rename_i h2;rw [h2] at h;simp only at h ⊢;omega
   ·rename_i up p1 h2
    rw [h2] at h
    have:=ih p1 up
    simp only at h;omega
theorem kE (p:aW) (root:Int) (i:Item):(gV p root i).2.given.length≤p.given.length+33:=by
 unfold gV
 split
 ·have h:((if root=0 then jl p 0 [i] else tC 13 p root i 1):xI (List Kid)).2.given.length≤p.given.length+13:=by
   split
   ·have:=kH p 0 [i];omega
   ·exact tN i 13 p root 1
  split
  ·rename_i h2;rw [h2] at h;simp only at h ⊢;omega
  ·rename_i l p1 h2
   rw [h2] at h
   have:=yU 20 p1 l
   simp only at h;omega
 ·simp only;omega
theorem yu (l w:List Kid) (a:Nat):aT (fO l a w)≤aT l+aT w:=by
 unfold fO
 have h1:=dn (l.take a++w) (l.drop (a+1))
 have h2:=dn (l.take a) w
 have h3:=dn (l.take a) (l.drop a)
 rw [List.take_append_drop] at h3
 have h4:aT (l.drop (a+1))≤aT (l.drop a):=by
  refine rH ?_
  rw [←List.drop_drop]
  exact List.drop_sublist _ _
 have:=gQ (l.drop a)
 have:=gQ w
 omega
theorem uQ (l w:List Kid) (a:Nat) (h:a<l.length):(fO l a w).length+1=l.length+w.length:=by
 unfold fO
 simp only [List.length_append,List.length_take,List.length_drop]
 omega
theorem kg (k:Bytes) (w:List Kid):(dZ k w).length=w.length:=by cases w<;>rfl
theorem ni {l:List Kid} (hr:bJ l=true) (hs:aT l≤392):(bY l).length≤2:=by
 have iT:=(aH _).1 hr
 unfold bY
 rw [pE]
 exact vD _ (fun x hx=>(dY (iT.1 x hx)).1) (fun x hx=>(dY (iT.1 x hx)).2) hs
theorem iU {p p':aW} {old:Int} {l ks:List Kid} (h:eP p old l=(.ok ks,p')):bJ l=true:=by
 unfold eP at h
 by_cases hr:bJ l=true
 ·exact hr
 ·rw [if_neg hr] at h;cases h
end
section
open Go.RowKit
/-! ### The parts of a put below a twig -/
theorem yV (i:Item) (hi:dK i=true) (n f:Nat) (S S2:aW) (id:Int) (b:Bytes) (l:List Item) (ids:List Int) (depth:Int) (ks:List Kid) (h:Tree S.L (n+1) id b l ids) (hf:n<f) (hd:depth+(n+1:Nat)≤12) (hs:S.stop<0) (hL:S.L.length+3+2 * (n+1)≤3998)
 (hk:tC (f+1) S id i depth=(.ok ks,S2)) :
 ∃kids k w p1,nodeAt S.L id=some (.cZ kids)∧kids≠[]∧mP (.cZ kids)∧2≤kids.length∧kids[eH kids i.key]? = some k∧(∃b' l' bE,Tree S.L n k.page b' l' bE)∧tC f S k.page i (depth+1)=(.ok w,p1)∧w≠[]∧w.length≤3∧
  p1.L.length≤S.L.length+3+2 * n∧p1.stop=S.stop∧S.L.length≤p1.L.length∧p1.given.length≤S.given.length+f∧bJ w=true∧eP p1 id (fO kids (eH kids i.key) (dZ k.key w))=(.ok ks,S2):=by
 cases h with
 | cZ _ _ ts h two ok sub bd nd=>
  have iT:=(aH _).1 ok.1
  have hne:ts.map au.kid≠[]:=by intro q;rw [List.map_eq_nil_iff] at q;subst q;simp at two
  obtain⟨A',x,C',e1,e2,e3,e4⟩:=nH iT.2 hne i.key
  obtain⟨A,r,rfl,rfl,er⟩:=List.map_eq_append_iff.1 e1
  obtain⟨t,C,rfl,rfl,rfl⟩:=List.map_eq_cons_iff.1 er
  have uw:((A++t :: C).map au.kid)[eH ((A++t :: C).map au.kid) i.key]? = some t.kid:=by
   rw [e2,List.map_append,List.getElem?_append_right (by simp)]
   simp
  have hT:=sub t (by simp)
  obtain⟨w,p1,g1,W,g3,g4,g5,M,g7⟩:=BA i hi n S t.kid.page t.low t.items t.ids (depth+1) f hT (by omega) (by omega) hs (by omega)
  have hg:=tN i f S t.kid.page (depth+1)
  rw [g1] at hg
  refine⟨_,t.kid,w.map au.kid,p1,h,hne,ok,by rw [List.length_map];exact two,uw,⟨_,_,_,hT⟩,g1,by simpa using g4,by rw [List.length_map];exact g5,by have:=M.few;omega,M.stop,M.grow,hg,W.ok,?_⟩
  rw [tC,iB h (by omega) hs] at hk
  simp only at hk
  rw [uw] at hk
  simp only at hk
  rw [g1] at hk
  exact hk
end
end Go.Proofs.YtbhiamcmiopnoaaGreatDoor
