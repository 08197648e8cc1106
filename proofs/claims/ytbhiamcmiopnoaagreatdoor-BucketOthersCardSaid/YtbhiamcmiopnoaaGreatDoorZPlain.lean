/- Plain laws on things with keys: which lists may be, how many bytes they need, where a key stands, how a list is cut into parts. No program in sight. -/
import Derived.Test.YtbhiamcmiopnoaaGreatDoorZBase
import Derived.Sort.Walk0
namespace Go.Proofs.YtbhiamcmiopnoaaGreatDoor
section
open Go.RowKit
class Keyed (α:Type) where
 key:α→Bytes
 cost:α→Nat
 ok:α→Bool
structure Item where
 key:Bytes
 val:Bytes
 kind:Int
deriving DecidableEq
def dK (i:Item):Bool:=decide (1≤(i.key.length:Int)∧(i.key.length:Int)≤32∧0≤i.kind∧i.kind≤2∧(i.val.length:Int)≤96)
instance:Keyed Item:=⟨Item.key,fun i=>5+i.key.length+i.val.length,dK⟩
structure Kid where
 key:Bytes
 page:Int
deriving DecidableEq
def fF (k:Kid):Bool:=decide ((k.key.length:Int)≤32∧2≤k.page∧k.page<4000)
instance:Keyed Kid:=⟨Kid.key,fun k=>4+k.key.length,fF⟩
section
variable {α : Type} [Keyed α]
def aT (l:List α):Nat:=l.foldr (fun i n=>Keyed.cost i+n) 1
theorem bC (x:α) (l:List α):aT (x :: l)=Keyed.cost x+aT l:=rfl
theorem gQ (l:List α):1≤aT l:=by
 induction l with
 | nil=>simp [aT]
 | cons a l ih=>rw [bC];omega
theorem dn (l m:List α):aT (l++m)+1=aT l+aT m:=by
 induction l with
 | nil=>simp [aT];omega
 | cons a l ih=>rw [List.cons_append,bC,bC];omega
theorem tq (l:List α) (k:Nat) (hk:k<l.length):aT (l.take (k+1))=aT (l.take k)+Keyed.cost l[k]:=by
 have h:=dn (l.take k) [l[k]]
 rw [←List.take_succ_eq_append_getElem hk] at h
 simp only [bC] at h
 simp [aT] at h ⊢
 omega
theorem lQ (l:List α) (k:Nat):aT (l.take k)≤aT l:=by
 have h:=dn (l.take k) (l.drop k)
 rw [List.take_append_drop] at h
 have:=gQ (l.drop k)
 omega
theorem oZ (l:List α) (k:Nat):aT (l.drop k)≤aT l:=by
 have h:=dn (l.take k) (l.drop k)
 rw [List.take_append_drop] at h
 have:=gQ (l.take k)
 omega
def qb (l:List α) (k:Nat):Bool:=
 match l[k]? with
 | none=>true
 | some x=>Keyed.ok x && (match k with
  | 0=>true
  | j+1=>match l[j]? with
   | none=>true
   | some y=>!(Op.bytesLess (Keyed.key x) (Keyed.key y) || Keyed.key x == Keyed.key y))
def bJ (l:List α):Bool:=decide (∀k,k<l.length→qb l k=true)
theorem rP {l:List α} {x:α} (hx:l[0]? = some x):qb l 0=Keyed.ok x:=by simp [qb,hx]
theorem iV {l:List α} {k:Nat} {x y:α} (hx:l[k+1]? = some x) (hy:l[k]? = some y):qb l (k+1)=(Keyed.ok x && !(Op.bytesLess (Keyed.key x) (Keyed.key y) || Keyed.key x == Keyed.key y)):=by simp [qb,hx,hy]
theorem rQ {l:List α} {k:Nat} (hk:k<l.length) (h:qb l k=false):bJ l=false:=decide_eq_false fun q=>by rw [q k hk] at h;exact Bool.noConfusion h
def bF (l:List α):Prop:=l.Pairwise fun a b=>Keyed.key a<Keyed.key b
theorem lS (x y:Bytes):(!(Op.bytesLess x y || x == y))=decide (y<x):=by
 rw [bytesLess_eq]
 by_cases h1:x<y
 ·have:¬y<x:=List.lt_asymm h1
  simp [h1,this]
 ·by_cases h2:x=y
  ·subst h2;simp [List.lt_irrefl]
  ·have:y<x:=by
    apply Classical.byContradiction
    intro h3
    exact h2 (List.le_antisymm h3 h1)
   simp [h1,h2,this]
theorem pq:bJ ([]:List α)=true:=decide_eq_true fun k hk=>by simp at hk
theorem qA (x:α) (l:List α):bJ (x :: l)=true↔Keyed.ok x=true∧(∀y,l.head? = some y→Keyed.key x<Keyed.key y)∧bJ l=true:=by
 simp only [bJ,decide_eq_true_eq]
 constructor
 ·intro h
  refine⟨by simpa [qb] using h 0 (by simp),fun y hy=>?_,fun k hk=>?_⟩
  ·have hl:0<l.length:=by cases l<;>simp_all
   have h1:=h 1 (by simp;omega)
   rw [iV (x:=y) (y:=x) (by rw [List.getElem?_cons_succ,←List.head?_eq_getElem?];exact hy) rfl,lS] at h1
   simp only [Bool.and_eq_true,decide_eq_true_eq] at h1
   exact h1.2
  ·have h1:=h (k+1) (by simp;omega)
   cases k with
   | zero=>
    obtain⟨y,hy⟩:∃y,l[0]? = some y:=⟨l[0],List.getElem?_eq_getElem hk⟩
    rw [iV (x:=y) (y:=x) (by simpa using hy) rfl] at h1
    rw [rP hy]
    simp only [Bool.and_eq_true] at h1
    exact h1.1
   | succ j=>
    obtain⟨y,hy⟩:∃y,l[j+1]? = some y:=⟨l[j+1],List.getElem?_eq_getElem hk⟩
    obtain⟨z,hz⟩:∃z,l[j]? = some z:=⟨l[j],List.getElem?_eq_getElem (by omega)⟩
    rw [iV (x:=y) (y:=z) (by simpa using hy) (by simpa using hz)] at h1
    rw [iV hy hz]
    exact h1
 ·rintro⟨h0,h1,h2⟩ k hk
  cases k with
  | zero=>simpa [qb] using h0
  | succ k=>
   have hk':k<l.length:=by simpa using hk
   have h3:=h2 k hk'
   cases k with
   | zero=>
    obtain⟨y,hy⟩:∃y,l[0]? = some y:=⟨l[0],List.getElem?_eq_getElem hk'⟩
    rw [iV (x:=y) (y:=x) (by simpa using hy) rfl,lS]
    rw [rP hy] at h3
    simp [h3,h1 y (by rw [List.head?_eq_getElem?];exact hy)]
   | succ j=>
    obtain⟨y,hy⟩:∃y,l[j+1]? = some y:=⟨l[j+1],List.getElem?_eq_getElem hk'⟩
    obtain⟨z,hz⟩:∃z,l[j]? = some z:=⟨l[j],List.getElem?_eq_getElem (by omega)⟩
    rw [iV (x:=y) (y:=z) (by simpa using hy) (by simpa using hz)]
    rw [iV hy hz] at h3
    exact h3
theorem aH (l:List α):bJ l=true↔(∀x∈l,Keyed.ok x=true)∧bF l:=by
 induction l with
 | nil=>simp [pq,bF]
 | cons x l ih=>
  rw [qA,ih]
  unfold bF
  rw [List.pairwise_cons]
  constructor
  ·rintro⟨h0,h1,h2,h3⟩
   refine⟨fun y hy=>?_,fun y hy=>?_,h3⟩
   ·rcases List.mem_cons.1 hy with rfl | hy
    ·exact h0
    ·exact h2 y hy
   ·cases l with
    | nil=>simp at hy
    | cons z l=>
     have hz:=h1 z rfl
     rcases List.mem_cons.1 hy with rfl | hy
     ·exact hz
     ·exact List.lt_trans hz ((List.pairwise_cons.1 h3).1 y hy)
  ·rintro⟨h0,h1,h2⟩
   exact⟨h0 x (by simp),fun y hy=>h1 y (List.mem_of_head? hy),fun y hy=>h0 y (by simp [hy]),h2⟩
def Fits (d:List α) (c:Nat):Prop:=c<d.length∧c<255∧aT (d.take (c+1))≤232
instance (d:List α) (c:Nat):Decidable (Fits d c):=by unfold Fits;infer_instance
def cutFrom (d:List α):Nat→Nat→Nat
 | 0,c=>c
 | f+1,c=>if Fits d c then cutFrom d f (c+1) else c
def dU (d:List α):Nat:=cutFrom d (d.length-1) 1
theorem uH {d:List α} {c:Nat} (h:Fits d c):cutFrom d (d.length-c) c=cutFrom d (d.length-(c+1)) (c+1):=by
 have:d.length-c=(d.length-(c+1))+1:=by have:=h.1;omega
 rw [this,cutFrom,if_pos h]
theorem iW {d:List α} {c:Nat} (f:Nat) (h:¬Fits d c):cutFrom d f c=c:=by
 cases f with
 | zero=>rfl
 | succ f=>rw [cutFrom,if_neg h]
theorem E9 (d:List α) (f c:Nat) (h:c+f≤d.length):c≤cutFrom d f c∧cutFrom d f c≤c+f:=by
 induction f generalizing c with
 | zero=>exact⟨Nat.le_refl _,Nat.le_refl _⟩
 | succ f ih=>
  rw [cutFrom]
  split
  ·have:=ih (c+1) (by omega);omega
  ·omega
theorem Fa (d:List α) (f c:Nat) (h1:c≤255) (h2:aT (d.take c)≤232):cutFrom d f c≤255∧aT (d.take (cutFrom d f c))≤232:=by
 induction f generalizing c with
 | zero=>exact⟨h1,h2⟩
 | succ f ih=>
  rw [cutFrom]
  split
  ·rename_i h;exact ih (c+1) (by have:=h.2.1;omega) h.2.2
  ·exact⟨h1,h2⟩
theorem Dj (d:List α) (f c:Nat) (h:d.length≤c+f):¬Fits d (cutFrom d f c):=by
 induction f generalizing c with
 | zero=>rintro⟨q,_⟩;simp only [cutFrom] at q;omega
 | succ f ih=>
  rw [cutFrom]
  split
  ·exact ih (c+1) (by omega)
  ·assumption
theorem mF (d:List α) (h:d≠[]):1≤dU d∧dU d≤d.length:=by
 have:0<d.length:=List.length_pos_iff.2 h
 have:=E9 d (d.length-1) 1 (by omega)
 unfold dU
 omega
theorem Dk (d:List α):¬Fits d (dU d):=Dj d _ _ (by omega)
theorem Ni (d:List α) (h:aT (d.take 1)≤232):dU d≤255∧aT (d.take (dU d))≤232:=Fa d _ _ (by omega) h
def tu:Nat→List α→List (List α)
 | 0,_=>[]
 | _+1,[]=>[]
 | f+1,x :: d=>(x :: d).take (dU (x :: d)) :: tu f ((x :: d).drop (dU (x :: d)))
theorem Dl (f:Nat) (d:List α) (h:d.length≤f):tu f d=tu d.length d:=by
 induction f using Nat.strongRecOn generalizing d with
 | _ f ih=>
  cases d with
  | nil=>cases f<;>rfl
  | cons x d=>
   cases f with
   | zero=>simp at h
   | succ f=>
    have hc:=mF (x :: d) (by simp)
    rw [List.length_cons,tu,tu]
    have hl:((x :: d).drop (dU (x :: d))).length≤d.length:=by rw [List.length_drop,List.length_cons];omega
    rw [List.length_cons] at h
    congr 1
    rw [ih f (by omega) _ (by omega),←ih d.length (by omega) _ hl]
def gF (l:List α):List (List α):=tu l.length l
theorem gJ:gF ([]:List α)=[]:=rfl
theorem fK (d:List α) (h:d≠[]):gF d=d.take (dU d) :: gF (d.drop (dU d)):=by
 cases d with
 | nil=>exact absurd rfl h
 | cons x d=>
  have hc:=mF (x :: d) (by simp)
  unfold gF
  rw [List.length_cons,tu]
  congr 1
  exact Dl _ _ (by rw [List.length_drop,List.length_cons];omega)
theorem qB {P:List α→Prop} (h0:P []) (h1:∀d,d≠[]→P (d.drop (dU d))→P d) (l:List α):P l:=by
 generalize hn:l.length=n
 induction n using Nat.strongRecOn generalizing l with
 | _ n ih=>
  by_cases h:l=[]
  ·subst h;exact h0
  ·have hc:=mF l h
   exact h1 l h (ih _ (by rw [List.length_drop];omega) _ rfl)
theorem fB (l:List α):(gF l).flatten=l:=by
 induction l using qB with
 | h0=>rfl
 | h1 d h ih=>rw [fK d h,List.flatten_cons,ih,List.take_append_drop]
theorem xH (l:List α):∀p∈gF l,p≠[]:=by
 induction l using qB with
 | h0=>intro p hp;cases hp
 | h1 d h ih=>
  intro p hp
  rw [fK d h] at hp
  rcases List.mem_cons.1 hp with rfl | hp
  ·have hc:=mF d h
   intro q
   have:=congrArg List.length q
   rw [List.length_take,List.length_nil] at this
   omega
  ·exact ih p hp
theorem qC (l:List α) (hl:∀x∈l,Keyed.cost x≤231):∀p∈gF l,p.length≤255∧aT p≤232:=by
 induction l using qB with
 | h0=>intro p hp;cases hp
 | h1 d h ih=>
  intro p hp
  rw [fK d h] at hp
  rcases List.mem_cons.1 hp with rfl | hp
  ·have h1:aT (d.take 1)≤232:=by
    cases d with
    | nil=>exact absurd rfl h
    | cons x d=>have:=hl x (by simp);simp [aT];omega
   have:=Ni d h1
   refine⟨by rw [List.length_take];omega,this.2⟩
  ·exact ih (fun x hx=>hl x (List.mem_of_mem_drop hx)) p hp
def ahead (l:List α) (k:Bytes):List α:=l.takeWhile fun x=>decide (Keyed.key x<k)
def behind (l:List α) (k:Bytes):List α:=l.dropWhile fun x=>decide (Keyed.key x<k)
def findAt (l:List α) (k:Bytes):Nat:=(ahead l k).length
theorem bZ (l:List α) (k:Bytes):ahead l k++behind l k=l:=List.takeWhile_append_dropWhile
theorem lq (l:List α) (k:Bytes):findAt l k≤l.length:=by
 have:=congrArg List.length (bZ l k)
 rw [List.length_append] at this
 unfold findAt
 omega
theorem rO (l:List α) (k:Bytes):l.take (findAt l k)=ahead l k:=by
 have h:=List.take_left (l₁:=ahead l k) (l₂:=behind l k)
 rwa [bZ] at h
theorem j6 (l:List α) (k:Bytes):l.drop (findAt l k)=behind l k:=by
 have h:=List.drop_left (l₁:=ahead l k) (l₂:=behind l k)
 rwa [bZ] at h
theorem nD (l:List α) (k:Bytes):∀x∈ahead l k,Keyed.key x<k:=by
 induction l with
 | nil=>intro x hx;simp [ahead] at hx
 | cons y l ih=>
  intro x hx
  unfold ahead at hx ih
  rw [List.takeWhile_cons] at hx
  split at hx
  ·rename_i hy
   rcases List.mem_cons.1 hx with rfl | hx
   ·simpa using hy
   ·exact ih x hx
  ·cases hx
theorem lu {l:List α} (hr:bF l) (k:Bytes):∀x∈behind l k,¬Keyed.key x<k:=by
 intro x hx
 induction l with
 | nil=>simp [behind] at hx
 | cons y l ih=>
  unfold behind at hx ih
  rw [List.dropWhile_cons] at hx
  unfold bF at hr
  rw [List.pairwise_cons] at hr
  split at hx
  ·exact ih hr.2 hx
  ·rename_i hy
   simp only [decide_eq_true_eq] at hy
   rcases List.mem_cons.1 hx with rfl | hx
   ·exact hy
   ·exact fun q=>hy (List.lt_trans (hr.1 x hx) q)
theorem Ad {l:List α} (hr:bF l) (k:Bytes) (i:Nat) (x:α) (hx:l[i]? = some x):i<findAt l k↔Keyed.key x<k:=by
 constructor
 ·intro h
  refine nD l k x ?_
  rw [←rO l k]
  exact List.mem_of_getElem? (i:=i) (by rw [List.getElem?_take,if_pos h];exact hx)
 ·intro h
  apply Classical.byContradiction
  intro hn
  refine lu hr k x ?_ h
  rw [←j6 l k]
  exact List.mem_of_getElem? (i:=i-findAt l k) (by rw [List.getElem?_drop,show findAt l k+(i-findAt l k)=i from by omega];exact hx)
end
end
section
open Go.RowKit
inductive Node
 | leaf (l:List Item)
 | cZ (l:List Kid)
 | over (b:Bytes)
structure aW where
 L:List Node
 mine:Int
 given:List Int
 bad:Bool
 twice:Bool
 stop:Int
abbrev xI (α:Type):=Except Int α×aW
def nodeAt (L:List Node) (id:Int):Option Node:=if 2≤id then L[(id-2).toNat]? else none
def uj (p:aW) (id:Int):xI Node:=
 if p.stop=0 then (.error 14,p) else
  match nodeAt p.L id with
  | some n=>(.ok n,if 0<p.stop then { p with stop:=p.stop-1 } else p)
  | none=>(.error 8,if 0<p.stop then { p with stop:=p.stop-1 } else p)
def uI (p:aW) (id:Int) (depth:Int):xI Node:=if 12<depth then (.error 25,p) else uj p id
def newP (p:aW) (n:Node):xI Int:=if 3998≤p.L.length then (.error 20,p) else (.ok (p.L.length+2:Nat),{ p with L:=p.L++[n] })
def eD (p:aW) (id:Int):Bool:=decide (p.mine≤id∧id-2<(p.L.length:Int)∧2≤id)
def Nj (p:aW) (id:Int) (n:Node):xI Unit:=
 if id<p.mine∨(p.L.length:Int)≤id-2∨id<2 then (.error 1,{ p with bad:=true }) else (.ok (),{ p with L:=p.L.set (id-2).toNat n })
def fV (p:aW) (id:Int):aW:={ p with twice:=p.twice || p.given.any (fun g=>g == id),given:=p.given++[id] }
def wE (p:aW):List Node→xI (List Int)
 | []=>(.ok [],p)
 | n :: ns=>match newP p n with
  |(.error e,p)=>(.error e,p)
  |(.ok id,p)=>match wE p ns with
   |(.error e,p)=>(.error e,p)
   |(.ok ids,p)=>(.ok (id :: ids),p)
def mG (p:aW) (old:Int) (ns:List Node):xI (List Int):=
 match wE p ns with
 |(.error e,p)=>(.error e,p)
 |(.ok ids,p)=>(.ok ids,if old≠0 then fV p old else p)
def lT (p:aW) (old:Int):List Node→xI (List Int)
 | []=>mG p old []
 | n :: ns=>
  if old≠0∧eD p old=true then
   match Nj p old n with
   |(.error e,p)=>(.error e,p)
   |(.ok _,p)=>match wE p ns with
    |(.error e,p)=>(.error e,p)
    |(.ok ids,p)=>(.ok (old :: ids),p)
  else mG p old (n :: ns)
def jr {α:Type} [Keyed α] (parts:List (List α)) (ids:List Int):List Kid:=List.zipWith (fun x id=>⟨(x.head?.map Keyed.key).getD [],id⟩) parts ids
def jl (p:aW) (old:Int) (l:List Item):xI (List Kid):=
 if bJ l=true then
  match lT p old ((gF l).map Node.leaf) with
  |(.error e,p)=>(.error e,p)
  |(.ok ids,p)=>(.ok (jr (gF l) ids),p)
 else (.error 1,p)
def eO:List (List Kid)→List (List Kid)
 | []=>[]
 | [a]=>[a]
 | [a,b]=>if b.length=1 then [a.dropLast,a.getLast?.toList++b] else [a,b]
 | a :: b :: c :: l=>a :: eO (b :: c :: l)
def bY (l:List Kid):List (List Kid):=eO (gF l)
def eP (p:aW) (old:Int) (l:List Kid):xI (List Kid):=
 if bJ l=true then
  match lT p old ((bY l).map Node.cZ) with
  |(.error e,p)=>(.error e,p)
  |(.ok ids,p)=>(.ok (jr (bY l) ids),p)
 else (.error 25,p)
def eH (l:List Kid) (k:Bytes):Nat:=(l.takeWhile fun x=>!decide (k<x.key)).length-1
def dS (l:List Item) (i:Item):List Item:=
 ahead l i.key++i :: (match behind l i.key with
  | []=>[]
  | x :: r=>if x.key=i.key then r else x :: r)
def bU (l:List Item) (k:Bytes):List Item×Bool:=
 match behind l k with
 | x :: r=>if x.key=k then (ahead l k++r,true) else (l,false)
 | []=>(l,false)
def fO (l:List Kid) (at_:Nat) (w:List Kid):List Kid:=l.take at_++w++l.drop (at_+1)
def jv (a b:Bytes):Bytes:=if b<a then b else a
def dZ (k:Bytes):List Kid→List Kid
 | []=>[]
 | x :: l=>⟨jv x.key k,x.page⟩ :: l
def tC:Nat→aW→Int→Item→Int→xI (List Kid)
 | 0,p,_,_,_=>(.error 25,p)
 | f+1,p,id,i,depth=>
  match uI p id depth with
  |(.error e,p)=>(.error e,p)
  |(.ok (.leaf l),p)=>jl p id (dS l i)
  |(.ok (.cZ kids),p)=>
   match kids[eH kids i.key]? with
   | none=>(.error 0,p)
   | some k=>match tC f p k.page i (depth+1) with
    |(.error e,p)=>(.error e,p)
    |(.ok w,p)=>eP p id (fO kids (eH kids i.key) (dZ k.key w))
  |(.ok (.over _),p)=>(.error 25,p)
def sw:Nat→aW→List Kid→xI Int
 | 0,p,_=>(.error 0,p)
 | _+1,p,[]=>(.ok 0,p)
 | _+1,p,[k]=>(.ok k.page,p)
 | f+1,p,l=>match eP p 0 l with
  |(.error e,p)=>(.error e,p)
  |(.ok up,p)=>sw f p up
def gV (p:aW) (root:Int) (i:Item):xI Int:=
 if dK i=true then
  match (if root=0 then jl p 0 [i] else tC 13 p root i 1) with
  |(.error e,p)=>(.error e,p)
  |(.ok l,p)=>sw 20 p l
 else (.error 1,p)
/-! ### What is kept -/
theorem cB {L:List Node} {id:Int} {n:Node} (h:nodeAt L id=some n):2≤id∧id<(L.length+2:Nat):=by
 unfold nodeAt at h
 split at h
 ·rename_i h2
  obtain⟨hl,_⟩:=List.getElem?_eq_some_iff.1 h
  omega
 ·cases h
theorem lU {L M:List Node} {id:Int} (h:id<(L.length+2:Nat)):nodeAt (L++M) id=nodeAt L id:=by
 unfold nodeAt
 split
 ·rw [List.getElem?_append_left (by omega)]
 ·rfl
theorem tF (L M:List Node) (k:Nat):nodeAt (L++M) ((L.length+2+k:Nat):Int)=M[k]?:=by
 unfold nodeAt
 rw [if_pos (by omega),List.getElem?_append_right (by omega)]
 congr 1
 omega
theorem Fb {L:List Node} {id j:Int} {n:Node} (hj:j≠id) (h2:2≤id):nodeAt (L.set (id-2).toNat n) j=nodeAt L j:=by
 unfold nodeAt
 split
 ·rw [List.getElem?_set_ne (by omega)]
 ·rfl
theorem Dm {L:List Node} {id:Int} {n:Node} (h2:2≤id) (h:id<(L.length+2:Nat)):nodeAt (L.set (id-2).toNat n) id=some n:=by
 unfold nodeAt
 rw [if_pos h2,List.getElem?_set_self (by omega)]
def gX (n m:Nat):List Int:=(List.range m).map fun k=>((n+2+k:Nat):Int)
theorem kG (n m:Nat):(gX n m).length=m:=by simp [gX]
theorem lV (n m k:Nat) (h:k<m):(gX n m)[k]? = some ((n+2+k:Nat):Int):=by simp [gX,h]
theorem lW (n m:Nat) (j:Int):j∈gX n m↔(n+2:Nat)≤j∧j<(n+2+m:Nat):=by
 simp only [gX,List.mem_map,List.mem_range]
 constructor
 ·rintro⟨k,hk,rfl⟩;omega
 ·rintro⟨h1,h2⟩;exact⟨(j-(n+2:Nat)).toNat,by omega,by omega⟩
theorem wF (n m:Nat):gX n (m+1)=((n+2:Nat):Int) :: gX (n+1) m:=by
 simp only [gX,List.range_succ_eq_map,List.map_cons,List.map_map]
 congr 1
 apply List.map_congr_left
 intro a _
 simp only [Function.comp]
 congr 1
 omega
theorem uJ (n m:Nat):(gX n m).Nodup:=by
 induction m generalizing n with
 | zero=>simp [gX]
 | succ m ih=>
  rw [wF,List.nodup_cons]
  refine⟨fun h=>?_,ih _⟩
  rw [lW] at h
  omega
theorem uK (ns:List Node) (p:aW) (h:p.L.length+ns.length≤3998):wE p ns=(.ok (gX p.L.length ns.length),{ p with L:=p.L++ns }):=by
 induction ns generalizing p with
 | nil=>simp [wE,gX]
 | cons n ns ih=>
  rw [List.length_cons] at h
  rw [wE,newP,if_neg (by omega)]
  simp only
  rw [ih _ (by simp;omega)]
  simp [wF]
structure Kept (p:aW) (old:Int) (ns:List Node) (ids:List Int) (p':aW):Prop where
 len:ids.length=ns.length
 at_:∀(k:Nat) (n:Node),ns[k]? = some n→∃id,ids[k]? = some id∧nodeAt p'.L id=some n
 nd:ids.Nodup
 new:∀j∈ids,j=old∧eD p old=true∨(p.L.length+2:Nat)≤j
 pos:∀j∈ids,2≤j∧j<4000
 other:∀j:Int,j<(p.L.length+2:Nat)→j≠old∨eD p j=false→nodeAt p'.L j=nodeAt p.L j
 grow:p.L.length≤p'.L.length
 few:p'.L.length≤p.L.length+ns.length
 given:(old∈ids∨old=0)∧p'.given=p.given∧p'.twice=p.twice∨old∉ids∧old≠0∧p'.given=p.given++[old]∧p'.twice=(p.twice || p.given.any fun g=>g == old)
 mine:p'.mine=p.mine
 bad:p'.bad=p.bad
 stop:p'.stop=p.stop
 all:∀j:Int,(p.L.length+2:Nat)≤j→j<(p'.L.length+2:Nat)→j∈ids
theorem yH (p:aW) (old:Int) (ns:List Node) (h:p.L.length+ns.length≤3998) (ho:old<(p.L.length+2:Nat)):∃ids p',mG p old ns=(.ok ids,p')∧Kept p old ns ids p':=by
 refine⟨_,_,by unfold mG;rw [uK ns p h],?_⟩
 have hmem:∀j,j∈gX p.L.length ns.length→(p.L.length+2:Nat)≤j∧j<4000:=fun j hj=>by rw [lW] at hj;omega
 have hL:(if old≠0 then fV { p with L:=p.L++ns } old else { p with L:=p.L++ns }).L=p.L++ns:=by split<;>rfl
 refine⟨kG _ _,fun k n hk=>?_,uJ _ _,fun j hj=>.inr (hmem j hj).1,fun j hj=>?_,fun j hj _=>?_,?_,?_,?_,?_,?_,?_,fun j h1 h2=>by rw [hL,List.length_append] at h2;rw [lW];omega⟩
 ·obtain⟨hk',_⟩:=List.getElem?_eq_some_iff.1 hk
  exact⟨_,lV _ _ _ hk',by rw [hL,tF];exact hk⟩
 ·have:=hmem j hj;omega
 ·rw [hL];exact lU hj
 ·rw [hL];simp
 ·rw [hL];simp
 ·by_cases h0:old=0
  ·rw [if_neg (by simpa using h0)];exact .inl ⟨.inr h0,rfl,rfl⟩
  ·rw [if_pos (by simpa using h0)];exact .inr ⟨fun q=>by have:=(hmem _ q).1;omega,h0,rfl,rfl⟩
 all_goals split<;>rfl
theorem nE (p:aW) (old:Int) (ns:List Node) (h:p.L.length+ns.length≤3998) (ho:old<(p.L.length+2:Nat)):∃ids p',lT p old ns=(.ok ids,p')∧Kept p old ns ids p':=by
 cases ns with
 | nil=>exact yH p old [] h ho
 | cons n ns=>
  rw [lT]
  by_cases hm:old≠0∧eD p old=true
  ·rw [if_pos hm]
   have hm':=hm.2
   simp only [eD,decide_eq_true_eq] at hm'
   rw [List.length_cons] at h
   rw [Nj,if_neg (by omega)]
   simp only
   rw [uK ns _ (by simp;omega)]
   refine⟨_,_,rfl,?_⟩
   simp only [List.length_set]
   have hmem:∀j,j∈gX p.L.length ns.length→(p.L.length+2:Nat)≤j∧j<4000:=fun j hj=>by rw [lW] at hj;omega
   have hn:nodeAt (p.L.set (old-2).toNat n++ns) old=some n:=by rw [lU (by rw [List.length_set];exact ho)];exact Dm hm'.2.2 ho
   refine⟨by simp [kG],fun k m hk=>?_,?_,fun j hj=>?_,fun j hj=>?_,fun j hj ho2=>?_,by simp,by simp,?_,rfl,rfl,rfl,fun j h1 h2=>List.mem_cons_of_mem _ (by simp only [List.length_append,List.length_set] at h2;rw [lW];omega)⟩
   ·cases k with
    | zero=>simp only [List.getElem?_cons_zero,Option.some.injEq] at hk;subst hk;exact⟨old,rfl,hn⟩
    | succ k=>
     rw [List.getElem?_cons_succ] at hk
     obtain⟨hk',_⟩:=List.getElem?_eq_some_iff.1 hk
     refine⟨_,by rw [List.getElem?_cons_succ];exact lV _ _ _ hk',?_⟩
     have q:=tF (p.L.set (old-2).toNat n) ns k
     rw [List.length_set] at q
     rw [q];exact hk
   ·rw [List.nodup_cons]
    exact⟨fun q=>by have:=(hmem _ q).1;omega,uJ _ _⟩
   ·rcases List.mem_cons.1 hj with rfl | hj
    ·exact .inl ⟨rfl,hm.2⟩
    ·exact .inr (hmem _ hj).1
   ·rcases List.mem_cons.1 hj with rfl | hj
    ·omega
    ·have:=hmem _ hj;omega
   ·rw [lU (by rw [List.length_set];exact hj),Fb (fun e=>by rcases ho2 with q | q;exact q e;subst e;rw [hm.2] at q;cases q) hm'.2.2]
   ·exact .inl ⟨.inl (by simp),rfl,rfl⟩
  ·rw [if_neg hm];exact yH p old (n :: ns) h ho
/-! ### Trees -/
theorem bT {a b k:Bytes} (h1:a<k) (h2:¬b<k):a<b:=by
 apply Classical.byContradiction
 intro h3
 by_cases h4:b<a
 ·exact h2 (List.lt_trans h4 h1)
 ·have:=List.le_antisymm h3 h4
  subst this
  exact h2 h1
theorem not_lt_trans {a b c:Bytes} (h1:¬b<a) (h2:¬c<b):¬c<a:=fun h=>h1 (by
 apply Classical.byContradiction
 intro h3
 exact h2 (bT h h3))
structure au where
 kid:Kid
 low:Bytes
 items:List Item
 ids:List Int
def mP:Node→Prop
 | .leaf l=>bJ l=true∧aT l≤232∧l.length≤255
 | .cZ l=>bJ l=true∧aT l≤232∧l.length≤255
 | .over b=>b.length≤232
structure Bounds (ts:List au):Prop where
 lo:∀t∈ts,¬t.low<t.kid.key
 hi:ts.Pairwise fun s t=>∀i∈s.items,i.key<t.kid.key
def hd {α:Type} [Keyed α] (l:List α):Bytes:=(l.head?.map Keyed.key).getD []
theorem yI {α:Type} [Keyed α] {l:List α} (hr:bF l):∀x∈l,¬Keyed.key x<hd l:=by
 intro x hx
 cases l with
 | nil=>cases hx
 | cons y l=>
  rcases List.mem_cons.1 hx with rfl | hx
  ·exact List.lt_irrefl _
  ·exact List.lt_asymm ((List.pairwise_cons.1 hr).1 x hx)
theorem qD {α:Type} [Keyed α] {l:List α} (h:l≠[]):∃x∈l,Keyed.key x=hd l:=by
 cases l with
 | nil=>exact absurd rfl h
 | cons y l=>exact⟨y,by simp,rfl⟩
inductive Tree (L:List Node):Nat→Int→Bytes→List Item→List Int→Prop
 | leaf (id:Int) (l:List Item) (h:nodeAt L id=some (.leaf l)) (ne:l≠[]) (ok:mP (.leaf l)):Tree L 0 id (hd l) l [id]
 | cZ (n:Nat) (id:Int) (ts:List au) (h:nodeAt L id=some (.cZ (ts.map au.kid))) (two:2≤ts.length) (ok:mP (.cZ (ts.map au.kid)))
  (sub:∀t∈ts,Tree L n t.kid.page t.low t.items t.ids) (bd:Bounds ts) (nd:(id :: ts.flatMap au.ids).Nodup):Tree L (n+1) id (hd (ts.map au.kid)) (ts.flatMap au.items) (id :: ts.flatMap au.ids)
structure bR (L:List Node) (n:Nat) (ts:List au):Prop where
 sub:∀t∈ts,Tree L n t.kid.page t.low t.items t.ids
 bd:Bounds ts
 ok:bJ (ts.map au.kid)=true
 nd:(ts.flatMap au.ids).Nodup
theorem Tree.keep {L L':List Node} {n:Nat} {id:Int} {b:Bytes} {l:List Item} {ids:List Int} (h:Tree L n id b l ids) (hk:∀j∈ids,nodeAt L' j=nodeAt L j):Tree L' n id b l ids:=by
 induction h with
 | leaf id l h ne ok=>exact .leaf id l ((hk id (by simp)).trans h) ne ok
 | cZ n id ts h two ok sub bd nd ih=>
  exact .cZ n id ts ((hk id (by simp)).trans h) two ok (fun t ht=>ih t ht fun j hj=>hk j (List.mem_cons_of_mem _ (List.mem_flatMap.2 ⟨t,ht,hj⟩))) bd nd
theorem Tree.ne {L:List Node} {n:Nat} {id:Int} {b:Bytes} {l:List Item} {ids:List Int} (h:Tree L n id b l ids):l≠[]:=by
 induction h with
 | leaf id l h ne ok=>exact ne
 | cZ n id ts h two ok sub bd nd ih=>
  intro q
  cases ts with
  | nil=>simp at two
  | cons t ts=>
   rw [List.flatMap_cons,List.append_eq_nil_iff] at q
   exact ih t (by simp) q.1
theorem Tree.tH {L:List Node} {n:Nat} {id:Int} {b:Bytes} {l:List Item} {ids:List Int} (h:Tree L n id b l ids):∀i∈l,¬i.key<b:=by
 induction h with
 | leaf id l h ne ok=>exact yI ((aH _).1 ok.1).2
 | cZ n id ts h two ok sub bd nd ih=>
  intro i hi
  obtain⟨t,ht,hi⟩:=List.mem_flatMap.1 hi
  exact not_lt_trans (not_lt_trans (yI ((aH _).1 ok.1).2 t.kid (List.mem_map_of_mem ht)) (bd.lo t ht)) (ih t ht i hi)
theorem Tree.self {L:List Node} {n:Nat} {id:Int} {b:Bytes} {l:List Item} {ids:List Int} (h:Tree L n id b l ids):id∈ids:=by cases h<;>simp
theorem Tree.there {L:List Node} {n:Nat} {id:Int} {b:Bytes} {l:List Item} {ids:List Int} (h:Tree L n id b l ids):∀j∈ids,2≤j∧j<(L.length+2:Nat):=by
 induction h with
 | leaf id l h ne ok=>intro j hj;rw [List.mem_singleton] at hj;subst hj;exact cB h
 | cZ n id ts h two ok sub bd nd ih=>
  intro j hj
  rcases List.mem_cons.1 hj with rfl | hj
  ·exact cB h
  ·obtain⟨t,ht,hj⟩:=List.mem_flatMap.1 hj
   exact ih t ht j hj
theorem Tree.nodup {L:List Node} {n:Nat} {id:Int} {b:Bytes} {l:List Item} {ids:List Int} (h:Tree L n id b l ids):ids.Nodup:=by
 cases h with
 | leaf=>simp
 | cZ n id ts h two ok sub bd nd=>exact nd
theorem Dn {α β:Type} (f:α→List β) (m:Nat) (ts:List α) (h:∀t∈ts,m≤(f t).length):ts.length * m≤(ts.flatMap f).length:=by
 induction ts with
 | nil=>simp
 | cons t ts ih=>
  rw [List.flatMap_cons,List.length_append,List.length_cons,Nat.succ_mul]
  have h1:=h t (by simp)
  have h2:=ih fun t ht=>h t (by simp [ht])
  omega
theorem Tree.many {L:List Node} {n:Nat} {id:Int} {b:Bytes} {l:List Item} {ids:List Int} (h:Tree L n id b l ids):2 ^ n≤l.length:=by
 induction h with
 | leaf id l h ne ok=>have:=List.length_pos_iff.2 ne;rw [Nat.pow_zero];omega
 | cZ n id ts h two ok sub bd nd ih=>
  have h1:=Dn au.items (2 ^ n) ts ih
  have h2:2 * 2 ^ n≤ts.length * 2 ^ n:=Nat.mul_le_mul_right _ two
  rw [Nat.pow_succ]
  omega
theorem Bounds.cons {t:au} {ts:List au} (h:Bounds (t :: ts)):Bounds ts:=⟨fun s hs=>h.lo s (by simp [hs]),(List.pairwise_cons.1 h.hi).2⟩
theorem zA {ts:List au} (bd:Bounds ts) (h:∀t∈ts,bF t.items∧∀i∈t.items,¬i.key<t.low):bF (ts.flatMap au.items):=by
 induction ts with
 | nil=>exact List.Pairwise.nil
 | cons t ts ih=>
  rw [List.flatMap_cons]
  unfold bF
  rw [List.pairwise_append]
  refine⟨(h t (by simp)).1,ih bd.cons fun s hs=>h s (by simp [hs]),fun a ha b hb=>?_⟩
  obtain⟨s,hs,hb⟩:=List.mem_flatMap.1 hb
  have h1:=(List.pairwise_cons.1 bd.hi).1 s hs a ha
  have h2:=not_lt_trans (bd.lo s (by simp [hs])) ((h s (by simp [hs])).2 b hb)
  exact bT h1 h2
theorem Tree.right {L:List Node} {n:Nat} {id:Int} {b:Bytes} {l:List Item} {ids:List Int} (h:Tree L n id b l ids):bJ l=true:=by
 induction h with
 | leaf id l h ne ok=>exact ok.1
 | cZ n id ts h two ok sub bd nd ih=>
  rw [aH]
  refine⟨fun x hx=>?_,zA bd fun t ht=>⟨((aH _).1 (ih t ht)).2,(sub t ht).tH⟩⟩
  obtain⟨t,ht,hx⟩:=List.mem_flatMap.1 hx
  exact((aH _).1 (ih t ht)).1 x hx
theorem Fe {α β:Type} (f:α→β) (pp:List (List β)) (ts:List α) (h:pp.flatten=ts.map f):∃qq:List (List α),qq.map (fun q=>q.map f)=pp∧qq.flatten=ts:=by
 induction pp generalizing ts with
 | nil=>exact⟨[],rfl,by simpa using h⟩
 | cons p pp ih=>
  rw [List.flatten_cons] at h
  obtain⟨a,b,rfl,rfl,hb⟩:=List.map_eq_append_iff.1 h.symm
  obtain⟨qq,h1,h2⟩:=ih b hb.symm
  exact⟨a :: qq,by rw [List.map_cons,h1],by rw [List.flatten_cons,h2]⟩
theorem Ae {α β:Type} (a:List α) (b:List β) (h:a.length=b.length):∃zs:List (α×β),zs.map Prod.fst=a∧zs.map Prod.snd=b:=by
 refine⟨a.zip b,?_,?_⟩
 ·exact List.map_fst_zip (by omega)
 ·exact List.map_snd_zip (by omega)
theorem bF.sub {α:Type} [Keyed α] {l m:List α} (h:bF l) (hs:m.Sublist l):bF m:=List.Pairwise.sublist hs h
theorem iM {α:Type} [Keyed α] {l m:List α} (h:bJ l=true) (hs:m.Sublist l):bJ m=true:=by
 rw [aH] at h ⊢
 exact⟨fun x hx=>h.1 x (hs.subset hx),h.2.sub hs⟩
theorem qE {α:Type} {pp:List (List α)} {p:List α} (h:p∈pp):p.Sublist pp.flatten:=List.sublist_flatten_of_mem h
theorem jC {x:Item} (h:dK x=true):4≤Keyed.cost x∧Keyed.cost x≤133:=by
 simp only [dK,decide_eq_true_eq] at h
 show 4≤5+x.key.length+x.val.length∧5+x.key.length+x.val.length≤133
 omega
theorem dY {x:Kid} (h:fF x=true):4≤Keyed.cost x∧Keyed.cost x≤36:=by
 simp only [fF,decide_eq_true_eq] at h
 show 4≤4+x.key.length∧4+x.key.length≤36
 omega
section
variable {α : Type} [Keyed α]
theorem Kt (l:List α) (h:∀x∈l,4≤Keyed.cost x):1+4 * l.length≤aT l:=by
 induction l with
 | nil=>simp [aT]
 | cons a l ih=>
  rw [bC,List.length_cons]
  have:=ih fun x hx=>h x (by simp [hx])
  have:=h a (by simp)
  omega
theorem gW (l:List α) (h:∀x∈l,Keyed.cost x≤36):aT l≤1+36 * l.length:=by
 induction l with
 | nil=>simp [aT]
 | cons a l ih=>
  rw [bC,List.length_cons]
  have:=ih fun x hx=>h x (by simp [hx])
  have:=h a (by simp)
  omega
theorem Dp {d:List α} (hc:∀x∈d,4≤Keyed.cost x) {x:α} {r:List α} (h:d.drop (dU d)=x :: r):232<aT (d.take (dU d))+Keyed.cost x:=by
 have hl:dU d<d.length:=by
  have:=congrArg List.length h
  rw [List.length_drop,List.length_cons] at this
  omega
 have hx:d[dU d]=x:=by
  have:=List.drop_eq_getElem_cons hl
  rw [h] at this
  exact(List.cons.inj this).1.symm
 have hm:=Dk d
 have hs:=tq d (dU d) hl
 rw [hx] at hs
 by_cases h5:dU d<255
 ·have:¬aT (d.take (dU d+1))≤232:=fun q=>hm ⟨hl,h5,q⟩
  omega
 ·have:=Kt (d.take (dU d)) fun y hy=>hc y (List.mem_of_mem_take hy)
  rw [List.length_take] at this
  omega
theorem uL (d:List α):aT d+1=aT (d.take (dU d))+aT (d.drop (dU d)):=by
 have:=dn (d.take (dU d)) (d.drop (dU d))
 rwa [List.take_append_drop] at this
theorem Gx {d:List α} (hc:∀x∈d,4≤Keyed.cost x) (h1:d.drop (dU d)≠[]):232+aT ((d.drop (dU d)).drop (dU (d.drop (dU d))))≤aT d:=by
 have e1:=uL d
 have e2:=uL (d.drop (dU d))
 have hle:=mF _ h1
 generalize hd1:d.drop (dU d)=d1 at *
 cases d1 with
 | nil=>exact absurd rfl h1
 | cons x r=>
  have h3:=Dp hc hd1
  obtain⟨m,hm⟩:∃m,dU (x :: r)=m+1:=⟨dU (x :: r)-1,by omega⟩
  rw [hm,List.take_succ_cons,bC x (r.take m)] at e2
  rw [hm]
  have:=gQ (r.take m)
  omega
theorem kJ (d:List α) (h:d≠[]):(gF d).length=(gF (d.drop (dU d))).length+1:=by rw [fK d h,List.length_cons]
theorem Af (l:List α) (hc:∀x∈l,4≤Keyed.cost x) (hs:aT l≤464):(gF l).length≤3:=by
 by_cases h0:l=[]
 ·subst h0;simp [gJ]
 rw [kJ l h0]
 by_cases h1:l.drop (dU l)=[]
 ·rw [h1];simp [gJ]
 rw [kJ _ h1]
 have e1:=Gx hc h1
 have hc2:∀x∈(l.drop (dU l)).drop (dU (l.drop (dU l))),4≤Keyed.cost x:=fun x hx=>hc x (List.mem_of_mem_drop (List.mem_of_mem_drop hx))
 generalize (l.drop (dU l)).drop (dU (l.drop (dU l)))=d2 at *
 by_cases h2:d2=[]
 ·subst h2;simp [gJ]
 rw [kJ d2 h2]
 by_cases h3:d2.drop (dU d2)=[]
 ·rw [h3];simp [gJ]
 have e2:=Gx hc2 h3
 have:=gQ ((d2.drop (dU d2)).drop (dU (d2.drop (dU d2))))
 omega
theorem Bz {d:List α} (hc:∀x∈d,4≤Keyed.cost x) (hm:∀x∈d,Keyed.cost x≤36) (h1:d.drop (dU d)≠[]):197≤aT (d.take (dU d)):=by
 generalize hd1:d.drop (dU d)=d1 at *
 cases d1 with
 | nil=>exact absurd rfl h1
 | cons x r=>
  have h3:=Dp hc hd1
  have:=hm x (List.mem_of_mem_drop (i:=dU d) (by rw [hd1];simp))
  omega
theorem vD (l:List α) (hc:∀x∈l,4≤Keyed.cost x) (hm:∀x∈l,Keyed.cost x≤36) (hs:aT l≤392):(gF l).length≤2:=by
 by_cases h0:l=[]
 ·subst h0;simp [gJ]
 rw [kJ l h0]
 by_cases h1:l.drop (dU l)=[]
 ·rw [h1];simp [gJ]
 have e1:=Bz hc hm h1
 have s1:=uL l
 have hc2:∀x∈l.drop (dU l),4≤Keyed.cost x:=fun x hx=>hc x (List.mem_of_mem_drop hx)
 have hm2:∀x∈l.drop (dU l),Keyed.cost x≤36:=fun x hx=>hm x (List.mem_of_mem_drop hx)
 generalize l.drop (dU l)=d at *
 rw [kJ _ h1]
 by_cases h2:d.drop (dU d)=[]
 ·rw [h2];simp [gJ]
 have e2:=Bz hc2 hm2 h2
 have s2:=uL d
 have:=gQ (d.drop (dU d))
 omega
def Big:List (List α)→Prop
 | []=>True
 | [a]=>a≠[]
 | a :: b :: l=>3≤a.length∧Big (b :: l)
theorem yJ (l:List α) (hc:∀x∈l,4≤Keyed.cost x) (hm:∀x∈l,Keyed.cost x≤36):Big (gF l):=by
 induction l using qB with
 | h0=>trivial
 | h1 d h ih=>
  have ih:=ih (fun x hx=>hc x (List.mem_of_mem_drop hx)) (fun x hx=>hm x (List.mem_of_mem_drop hx))
  rw [fK d h]
  by_cases h1:d.drop (dU d)=[]
  ·rw [h1,gJ]
   have:=mF d h
   intro q
   have:=congrArg List.length q
   rw [List.length_take,List.length_nil] at this
   omega
  ·rw [fK _ h1] at ih ⊢
   refine⟨?_,ih⟩
   have e:=Bz hc hm h1
   have:=gW (d.take (dU d)) fun y hy=>hm y (List.mem_of_mem_take hy)
   omega
end
theorem uM (pp:List (List Kid)) (hb:Big pp) (h2:2≤pp.flatten.length) (hm:∀x∈pp.flatten,Keyed.cost x≤36) (hs:∀p∈pp,p.length≤255∧aT p≤232) :
 (eO pp).flatten=pp.flatten∧(eO pp).length=pp.length∧(∀p∈eO pp,2≤p.length)∧∀p∈eO pp,p.length≤255∧aT p≤232:=by
 match pp,hb,h2,hm,hs with
 | [],_,h2,_,_=>simp at h2
 | [a],_,h2,_,hs=>exact⟨rfl,rfl,fun p hp=>by simp [eO] at hp;subst hp;simpa using h2,hs⟩
 | [a,b],hb,h2,hm,hs=>
  rw [eO]
  have ha:=hb.1
  have hsa:=hs a (by simp)
  have hsb:=hs b (by simp)
  by_cases h1:b.length=1
  ·rw [if_pos h1]
   have hne:a≠[]:=by intro q;subst q;simp at ha
   have hla:a.getLast? = some (a.getLast hne):=List.getLast?_eq_some_getLast hne
   have hd:a.dropLast++[a.getLast hne]=a:=List.dropLast_concat_getLast hne
   have hab:a.dropLast++([a.getLast hne]++b)=a++b:=by rw [←List.append_assoc,hd]
   rw [hla]
   refine⟨by simpa using hab,rfl,fun p hp=>?_,fun p hp=>?_⟩
   ·simp only [List.mem_cons,List.not_mem_nil,or_false] at hp
    rcases hp with rfl | rfl
    ·rw [List.length_dropLast];omega
    ·simp [h1]
   ·simp only [List.mem_cons,List.not_mem_nil,or_false] at hp
    rcases hp with rfl | rfl
    ·have:=dn a.dropLast [a.getLast hne]
     rw [hd] at this
     have:=gQ [a.getLast hne]
     rw [List.length_dropLast]
     omega
    ·have:=gW ([a.getLast hne]++b) fun x hx=>hm x (by
      rcases List.mem_append.1 hx with hx | hx
      ·rw [List.mem_singleton] at hx;subst hx;simp
      ·simp [hx])
     simp only [Option.toList,List.length_append,List.length_cons,List.length_nil] at this ⊢
     omega
  ·rw [if_neg h1]
   refine⟨rfl,rfl,fun p hp=>?_,hs⟩
   simp only [List.mem_cons,List.not_mem_nil,or_false] at hp
   have hbn:b≠[]:=hb.2
   have:=List.length_pos_iff.2 hbn
   rcases hp with rfl | rfl<;>omega
 | a :: b :: c :: l,hb,h2,hm,hs=>
  rw [eO]
  have hb1:=hb.2
  have hb2:=hb1.1
  obtain⟨i1,i2,i3,i4⟩:=uM (b :: c :: l) hb1 (by rw [List.flatten_cons,List.length_append];omega) (fun x hx=>hm x (by rw [List.flatten_cons];exact List.mem_append_right _ hx)) (fun p hp=>hs p (by simp [hp]))
  refine⟨by rw [List.flatten_cons,i1];rfl,by rw [List.length_cons,i2];rfl,fun p hp=>?_,fun p hp=>?_⟩
  ·rcases List.mem_cons.1 hp with rfl | hp
   ·have:=hb.1;omega
   ·exact i3 p hp
  ·rcases List.mem_cons.1 hp with rfl | hp
   ·exact hs _ (by simp)
   ·exact i4 p hp
/-! ### Lists kept as pages -/
theorem yK {α:Type} [Keyed α] (zs:List (List α×Int)):jr (zs.map Prod.fst) (zs.map Prod.snd)=zs.map fun z=>(⟨hd z.1,z.2⟩:Kid):=by
 induction zs with
 | nil=>rfl
 | cons z zs ih=>
  have:jr ((z :: zs).map Prod.fst) ((z :: zs).map Prod.snd)=⟨hd z.1,z.2⟩ :: jr (zs.map Prod.fst) (zs.map Prod.snd):=rfl
  rw [this,ih,List.map_cons]
theorem uN {α β:Type} (f:α→β) (l:List α):(l.flatMap fun z=>[f z])=l.map f:=by
 induction l with
 | nil=>rfl
 | cons a l ih=>rw [List.flatMap_cons,ih];rfl
theorem nG {α β γ:Type} (f:α→β) (g:β→List γ) (l:List α):(l.map f).flatMap g=l.flatMap fun a=>g (f a):=by
 induction l with
 | nil=>rfl
 | cons a l ih=>simp [ih]
theorem yL {α:Type} [Keyed α] {zs:List (List α×Int)} (hr:bF (zs.map Prod.fst).flatten) (hne:∀z∈zs,z.1≠[]):zs.Pairwise fun z y=>hd z.1<hd y.1:=by
 unfold bF at hr
 rw [List.pairwise_flatten,List.pairwise_map] at hr
 refine hr.2.imp_of_mem fun {z y} hz hy h=>?_
 obtain⟨a,ha,ea⟩:=qD (hne z hz)
 obtain⟨b,hb,eb⟩:=qD (hne y hy)
 rw [←ea,←eb]
 exact h a ha b hb
theorem pz (p:aW) (old:Int) (l:List Item) (hr:bJ l=true) (hs:aT l≤464) (hL:p.L.length+3≤3998) (ho:old<(p.L.length+2:Nat)) :
 ∃ts p',jl p old l=(.ok (ts.map au.kid),p')∧bR p'.L 0 ts∧ts.flatMap au.items=l∧ts.length≤3∧Kept p old ((gF l).map Node.leaf) (ts.flatMap au.ids) p'∧(∀t∈ts,∃x∈t.items,x.key=t.kid.key)∧ts.length=(gF l).length:=by
 have iT:=(aH l).1 hr
 have lX:∀x∈l,4≤Keyed.cost x:=fun x hx=>(jC (iT.1 x hx)).1
 have h3:=Af l lX hs
 obtain⟨ids,p',hk,K⟩:=nE p old ((gF l).map Node.leaf) (by rw [List.length_map];omega) ho
 obtain⟨zs,hz1,hz2⟩:=Ae (gF l) ids (by rw [K.len,List.length_map])
 refine⟨zs.map fun z=>⟨⟨hd z.1,z.2⟩,hd z.1,z.1,[z.2]⟩,p',?_,?_,?_,?_,?_,?_,?_⟩
 ·unfold jl
  rw [if_pos hr,hk]
  simp only
  rw [←hz1,←hz2,yK,List.map_map]
  rfl
 ·have hmem:∀z∈zs,z.1∈gF l:=fun z hz=>by rw [←hz1];exact List.mem_map_of_mem hz
  have Dq:∀z∈zs,z.2∈ids:=fun z hz=>by rw [←hz2];exact List.mem_map_of_mem hz
  have hne:∀z∈zs,z.1≠[]:=fun z hz=>xH l z.1 (hmem z hz)
  have hsub:∀z∈zs,z.1.Sublist l:=fun z hz=>by have:=qE (hmem z hz);rwa [fB] at this
  have hfit:=qC l fun x hx=>by have:=(jC (iT.1 x hx)).2;omega
  have jh:bF (zs.map Prod.fst).flatten:=by rw [hz1,fB];exact iT.2
  have hrise:=yL jh hne
  refine⟨fun t ht=>?_,⟨fun t ht=>?_,?_⟩,?_,?_⟩
  ·obtain⟨z,hz,rfl⟩:=List.mem_map.1 ht
   obtain⟨k,hk⟩:=List.getElem?_of_mem hz
   obtain⟨id,h1,h2⟩:=K.at_ k (.leaf z.1) (by rw [←hz1,List.map_map,List.getElem?_map,hk];rfl)
   rw [←hz2,List.getElem?_map,hk] at h1
   obtain rfl:z.2=id:=by simpa using h1
   exact .leaf z.2 z.1 h2 (hne z hz) ⟨iM hr (hsub z hz),(hfit z.1 (hmem z hz)).2,(hfit z.1 (hmem z hz)).1⟩
  ·obtain⟨z,hz,rfl⟩:=List.mem_map.1 ht
   exact List.lt_irrefl _
  ·rw [List.pairwise_map]
   have hf:=jh
   unfold bF at hf
   rw [List.pairwise_flatten,List.pairwise_map] at hf
   refine hf.2.imp_of_mem fun {z y} hz hy h i hi=>?_
   obtain⟨b,hb,eb⟩:=qD (hne y hy)
   show Keyed.key i<hd y.1
   rw [←eb]
   exact h i hi b hb
  ·rw [aH]
   refine⟨fun k hk=>?_,?_⟩
   ·obtain⟨t,ht,rfl⟩:=List.mem_map.1 hk
    obtain⟨z,hz,rfl⟩:=List.mem_map.1 ht
    obtain⟨a,ha,ea⟩:=qD (hne z hz)
    have h1:=iT.1 a ((hsub z hz).subset ha)
    have h2:=K.pos z.2 (Dq z hz)
    show fF ⟨hd z.1,z.2⟩=true
    rw [←ea]
    change dK a=true at h1
    simp only [dK,decide_eq_true_eq] at h1
    simp only [fF,decide_eq_true_eq]
    exact⟨h1.2.1,h2.1,h2.2⟩
   ·unfold bF
    rw [List.map_map,List.pairwise_map]
    exact hrise
  ·rw [nG,uN,hz2];exact K.nd
 ·rw [nG,List.flatMap_def,hz1,fB]
 ·rw [List.length_map]
  have:=congrArg List.length hz1
  rw [List.length_map] at this
  omega
 ·rw [nG,uN,hz2];exact K
 ·intro t ht
  obtain⟨z,hz,rfl⟩:=List.mem_map.1 ht
  exact qD (xH l z.1 (by rw [←hz1];exact List.mem_map_of_mem hz))
 ·rw [List.length_map,←hz1,List.length_map]
theorem IB {α β:Type} (g:α→List β) (qq:List (List α)):(qq.map fun q=>q.flatMap g).flatten=qq.flatten.flatMap g:=by
 induction qq with
 | nil=>rfl
 | cons q qq ih=>rw [List.map_cons,List.flatten_cons,ih,List.flatten_cons,List.flatMap_append]
theorem Dr {α β γ:Type} (g:α→List γ) (zs:List (List α×β)):(zs.flatMap fun z=>z.1.flatMap g)=(zs.map Prod.fst).flatten.flatMap g:=by
 rw [←IB,List.map_map,List.flatMap_def]
 rfl
theorem Ku (g:au→List Int) (zs:List (List au×Int)) (hnd:(zs.map fun z=>z.1.flatMap g).flatten.Nodup) (IC:(zs.map Prod.snd).Nodup) (hx:∀z∈zs,∀y∈zs,z.2∉y.1.flatMap g) :
 (zs.flatMap fun z=>z.2 :: z.1.flatMap g).Nodup:=by
 induction zs with
 | nil=>simp
 | cons z zs ih=>
  rw [List.flatMap_cons]
  rw [List.map_cons,List.nodup_cons] at IC
  rw [List.map_cons,List.flatten_cons,List.nodup_append] at hnd
  have ih:=ih hnd.2.1 IC.2 (fun a ha b hb=>hx a (by simp [ha]) b (by simp [hb]))
  rw [List.nodup_append]
  refine⟨?_,ih,?_⟩
  ·rw [List.nodup_cons];exact⟨hx z (by simp) z (by simp),hnd.1⟩
  ·intro a ha b hb e
   subst e
   obtain⟨y,hy,hb⟩:=List.mem_flatMap.1 hb
   rcases List.mem_cons.1 ha with rfl | ha
   ·rcases List.mem_cons.1 hb with hb | hb
    ·exact IC.1 (by rw [hb];exact List.mem_map_of_mem hy)
    ·exact hx z (by simp) y (by simp [hy]) hb
   ·rcases List.mem_cons.1 hb with rfl | hb
    ·exact hx y (by simp [hy]) z (by simp) ha
    ·exact hnd.2.2 a ha a (List.mem_flatten.2 ⟨_,List.mem_map_of_mem hy,hb⟩) rfl
theorem yM (p:aW) (old:Int) (n:Nat) (ts:List au) (F:bR p.L n ts) (h2:2≤ts.length) (hs:aT (ts.map au.kid)≤392) (hL:p.L.length+(bY (ts.map au.kid)).length≤3998) (ho:old<(p.L.length+2:Nat)) (hold:old∉ts.flatMap au.ids) :
 ∃us p' pages,eP p old (ts.map au.kid)=(.ok (us.map au.kid),p')∧bR p'.L (n+1) us∧us.flatMap au.items=ts.flatMap au.items∧us.length≤2∧us≠[]∧Kept p old ((bY (ts.map au.kid)).map Node.cZ) pages p'∧pages.length=us.length∧
  (∀j,j∈us.flatMap au.ids↔j∈pages∨j∈ts.flatMap au.ids)∧∀u∈us,∃t∈ts,t.kid.key=u.kid.key:=by
 have iT:=(aH _).1 F.ok
 have lX:∀x∈ts.map au.kid,4≤Keyed.cost x:=fun x hx=>(dY (iT.1 x hx)).1
 have mH:∀x∈ts.map au.kid,Keyed.cost x≤36:=fun x hx=>(dY (iT.1 x hx)).2
 have gy:=vD _ lX mH hs
 have Fg:=fB (ts.map au.kid)
 obtain⟨f1,f2,f3,f4⟩:=uM (gF (ts.map au.kid)) (yJ _ lX mH) (by rw [Fg,List.length_map];exact h2) (by rw [Fg];exact mH) (qC _ fun x hx=>by have:=mH x hx;omega)
 rw [Fg] at f1
 change (bY (ts.map au.kid)).flatten=_ at f1
 change (bY (ts.map au.kid)).length=_ at f2
 change ∀p∈bY (ts.map au.kid),_ at f3
 change ∀p∈bY (ts.map au.kid),_ at f4
 obtain⟨ids,p',hk,K⟩:=nE p old ((bY (ts.map au.kid)).map Node.cZ) (by rw [List.length_map];omega) ho
 obtain⟨qq,hq1,hq2⟩:=Fe au.kid (bY (ts.map au.kid)) ts f1
 have QD:qq.length=(bY (ts.map au.kid)).length:=by rw [←hq1,List.length_map]
 obtain⟨zs,hz1,hz2⟩:=Ae qq ids (by rw [K.len,List.length_map];exact QD)
 have hzl:zs.length=qq.length:=by rw [←hz1,List.length_map]
 have hmem:∀z∈zs,z.1∈qq:=fun z hz=>by rw [←hz1];exact List.mem_map_of_mem hz
 have Kv:∀z∈zs,z.1.map au.kid∈bY (ts.map au.kid):=fun z hz=>by rw [←hq1];exact List.mem_map_of_mem (hmem z hz)
 have Dq:∀z∈zs,z.2∈ids:=fun z hz=>by rw [←hz2];exact List.mem_map_of_mem hz
 have hsub:∀z∈zs,z.1.Sublist ts:=fun z hz=>by have:=qE (hmem z hz);rwa [hq2] at this
 have hlen:∀z∈zs,2≤z.1.length:=fun z hz=>by have:=f3 _ (Kv z hz);rwa [List.length_map] at this
 have hne:∀z∈zs,z.1≠[]:=fun z hz q=>by have:=hlen z hz;rw [q] at this;simp at this
 have dP:∀t∈ts,∀j∈t.ids,2≤j∧j<(p.L.length+2:Nat):=fun t ht=>(F.sub t ht).there
 have hsame:∀j∈ts.flatMap au.ids,nodeAt p'.L j=nodeAt p.L j:=fun j hj=>by
  obtain⟨t,ht,hjt⟩:=List.mem_flatMap.1 hj
  exact K.other j (dP t ht j hjt).2 (.inl fun e=>hold (e▸hj))
 have hnot:∀j∈ts.flatMap au.ids,j∉ids:=fun j hj hi=>by
  obtain⟨t,ht,hjt⟩:=List.mem_flatMap.1 hj
  rcases K.new j hi with ⟨rfl,_⟩ | q
  ·exact hold hj
  ·have:=(dP t ht j hjt).2;omega
 let mk:List au×Int→au:=fun z=>⟨⟨hd (z.1.map au.kid),z.2⟩,hd (z.1.map au.kid),z.1.flatMap au.items,z.2 :: z.1.flatMap au.ids⟩
 have Kw:∀z∈zs,∀j∈z.1.flatMap au.ids,j∈ts.flatMap au.ids:=fun z hz j hj=>by
  obtain⟨t,ht,hjt⟩:=List.mem_flatMap.1 hj
  exact List.mem_flatMap.2 ⟨t,(hsub z hz).subset ht,hjt⟩
 have yN:(zs.map fun z=>z.1.flatMap au.ids).flatten=ts.flatMap au.ids:=by
  rw [←List.flatMap_def,Dr,hz1,hq2]
 have gP:∀j,j∈(zs.map mk).flatMap au.ids↔j∈ids∨j∈ts.flatMap au.ids:=fun j=>by
  rw [←yN,←hz2,nG,List.mem_flatMap,List.mem_flatten]
  constructor
  ·rintro⟨z,hz,hj⟩
   rcases List.mem_cons.1 hj with rfl | hj
   ·exact .inl (List.mem_map_of_mem hz)
   ·exact .inr ⟨_,List.mem_map_of_mem hz,hj⟩
  ·rintro(h |⟨l,hl,hj⟩)
   ·obtain⟨z,hz,rfl⟩:=List.mem_map.1 h
    exact⟨z,hz,by simp [mk]⟩
   ·obtain⟨z,hz,rfl⟩:=List.mem_map.1 hl
    exact⟨z,hz,List.mem_cons_of_mem _ hj⟩
 have PN:(zs.map mk).flatMap au.items=ts.flatMap au.items:=by
  rw [nG,←hq2,←hz1]
  exact Dr au.items zs
 have jh:bF (((zs.map fun z=>(z.1.map au.kid,z.2)).map Prod.fst).flatten):=by
  have:((zs.map fun z=>(z.1.map au.kid,z.2)).map Prod.fst)=bY (ts.map au.kid):=by rw [←hq1,←hz1,List.map_map,List.map_map];rfl
  rw [this,f1];exact iT.2
 have hrise:=yL jh (fun y hy=>by obtain⟨z,hz,rfl⟩:=List.mem_map.1 hy;simpa using hne z hz)
 rw [List.pairwise_map] at hrise
 refine⟨zs.map mk,p',ids,?_,?_,PN,?_,?_,K,?_,gP,?_⟩
 ·unfold eP
  rw [if_pos F.ok,hk]
  simp only
  have e1:bY (ts.map au.kid)=(zs.map fun z=>(z.1.map au.kid,z.2)).map Prod.fst:=by rw [←hq1,←hz1,List.map_map,List.map_map];rfl
  have e2:ids=(zs.map fun z=>(z.1.map au.kid,z.2)).map Prod.snd:=by rw [←hz2,List.map_map];rfl
  rw [e1,e2,yK,List.map_map,List.map_map]
  rfl
 ·refine⟨fun t ht=>?_,⟨fun t ht=>?_,?_⟩,?_,?_⟩
  ·obtain⟨z,hz,rfl⟩:=List.mem_map.1 ht
   obtain⟨k,hk⟩:=List.getElem?_of_mem hz
   obtain⟨id,g1,g2⟩:=K.at_ k (.cZ (z.1.map au.kid)) (by rw [←hq1,←hz1,List.map_map,List.map_map,List.getElem?_map,hk];rfl)
   rw [←hz2,List.getElem?_map,hk] at g1
   obtain rfl:z.2=id:=by simpa using g1
   have hb:Bounds z.1:=⟨fun t ht=>F.bd.lo t ((hsub z hz).subset ht),F.bd.hi.sublist (hsub z hz)⟩
   refine .cZ n z.2 z.1 g2 (hlen z hz) ⟨iM F.ok ((hsub z hz).map _),(f4 _ (Kv z hz)).2,(f4 _ (Kv z hz)).1⟩ (fun t ht=>(F.sub t ((hsub z hz).subset ht)).keep fun j hj=>hsame j (List.mem_flatMap.2 ⟨t,(hsub z hz).subset ht,hj⟩)) hb ?_
   rw [List.nodup_cons]
   refine⟨fun q=>hnot _ (Kw z hz _ q) (Dq z hz),F.nd.sublist ?_⟩
   have:=qE (pp:=zs.map fun z=>z.1.flatMap au.ids) (List.mem_map_of_mem hz)
   rwa [yN] at this
  ·obtain⟨z,hz,rfl⟩:=List.mem_map.1 ht
   exact List.lt_irrefl _
  ·rw [List.pairwise_map]
   have hf:=F.bd.hi
   rw [←hq2,List.pairwise_flatten,←hz1,List.pairwise_map] at hf
   refine hf.2.imp_of_mem fun {z y} hz hy h i hi=>?_
   obtain⟨s,hs,hi⟩:=List.mem_flatMap.1 hi
   obtain⟨b,hb,eb⟩:=qD (l:=y.1.map au.kid) (by simpa using hne y hy)
   obtain⟨t,ht,rfl⟩:=List.mem_map.1 hb
   show i.key<hd (y.1.map au.kid)
   rw [←eb]
   exact h s hs t ht i hi
  ·rw [aH]
   refine⟨fun k hk=>?_,?_⟩
   ·obtain⟨t,ht,rfl⟩:=List.mem_map.1 hk
    obtain⟨z,hz,rfl⟩:=List.mem_map.1 ht
    obtain⟨a,ha,ea⟩:=qD (l:=z.1.map au.kid) (by simpa using hne z hz)
    have g1:=iT.1 a (((hsub z hz).map _).subset ha)
    have g2:=K.pos z.2 (Dq z hz)
    show fF ⟨hd (z.1.map au.kid),z.2⟩=true
    rw [←ea]
    change fF a=true at g1
    simp only [fF,decide_eq_true_eq] at g1 ⊢
    exact⟨g1.1,g2.1,g2.2⟩
   ·unfold bF
    rw [List.map_map,List.pairwise_map]
    exact hrise
  ·have:(zs.map mk).flatMap au.ids=zs.flatMap fun z=>z.2 :: z.1.flatMap au.ids:=nG _ _ _
   rw [this]
   have hnd:=F.nd
   rw [←yN] at hnd
   have IC:=K.nd
   rw [←hz2] at IC
   have hx:∀z∈zs,∀y∈zs,z.2∉y.1.flatMap au.ids:=fun z hz y hy q=>hnot _ (Kw y hy _ q) (Dq z hz)
   exact Ku _ zs hnd IC hx
 ·rw [List.length_map];omega
 ·intro q
  have h0:zs=[]:=by simpa using q
  rw [h0] at hz1
  simp at hz1
  rw [hz1] at hq2
  simp at hq2
  rw [hq2] at h2
  simp at h2
 ·rw [←hz2,List.length_map,List.length_map]
 ·intro u hu
  obtain⟨z,hz,rfl⟩:=List.mem_map.1 hu
  obtain⟨a,ha,ea⟩:=qD (l:=z.1.map au.kid) (by simpa using hne z hz)
  obtain⟨t,ht,rfl⟩:=List.mem_map.1 ha
  exact⟨t,(hsub z hz).subset ht,ea⟩
theorem pE (pp:List (List Kid)):(eO pp).length=pp.length:=by
 match pp with
 | []=>rfl
 | [a]=>rfl
 | [a,b]=>rw [eO];split<;>rfl
 | a :: b :: c :: l=>rw [eO,List.length_cons,pE (b :: c :: l)];rfl
theorem rR (p:aW) (old:Int) (n:Nat) (ts:List au) (F:bR p.L n ts) (h2:2≤ts.length) (hs:aT (ts.map au.kid)≤392) (hL:p.L.length+2≤3998) (ho:old<(p.L.length+2:Nat)) (hold:old∉ts.flatMap au.ids) :
 ∃us p' pages,eP p old (ts.map au.kid)=(.ok (us.map au.kid),p')∧bR p'.L (n+1) us∧us.flatMap au.items=ts.flatMap au.items∧us.length≤2∧us≠[]∧Kept p old ((bY (ts.map au.kid)).map Node.cZ) pages p'∧pages.length=us.length∧
  (∀j,j∈us.flatMap au.ids↔j∈pages∨j∈ts.flatMap au.ids)∧∀u∈us,∃t∈ts,t.kid.key=u.kid.key:=by
 refine yM p old n ts F h2 hs ?_ ho hold
 have iT:=(aH _).1 F.ok
 have gy:=vD _ (fun x hx=>(dY (iT.1 x hx)).1) (fun x hx=>(dY (iT.1 x hx)).2) hs
 unfold bY
 rw [pE]
 omega
/-! ### An item is put -/
theorem sG {α:Type} (f:α→Bool) (a b:List α) (h:∀x∈a,f x=true):(a++b).takeWhile f=a++b.takeWhile f:=by
 induction a with
 | nil=>rfl
 | cons x a ih=>rw [List.cons_append,List.takeWhile_cons,if_pos (h x (by simp)),ih fun y hy=>h y (by simp [hy])];rfl
theorem mR {α:Type} (f:α→Bool) (a b:List α) (h:∀x∈a,f x=true):(a++b).dropWhile f=b.dropWhile f:=by
 induction a with
 | nil=>rfl
 | cons x a ih=>rw [List.cons_append,List.dropWhile_cons,if_pos (h x (by simp)),ih fun y hy=>h y (by simp [hy])]
theorem qF {α:Type} (f:α→Bool) (a b:List α) (h:∀x∈b,f x=false):(a++b).takeWhile f=a.takeWhile f:=by
 induction a with
 | nil=>
  cases b with
  | nil=>rfl
  | cons y b=>rw [List.nil_append,List.takeWhile_cons,if_neg (by rw [h y (by simp)];simp)];rfl
 | cons x a ih=>rw [List.cons_append,List.takeWhile_cons,List.takeWhile_cons,ih]
theorem lY {α:Type} (f:α→Bool) (a b:List α) (h:∀x∈b,f x=false):(a++b).dropWhile f=a.dropWhile f++b:=by
 induction a with
 | nil=>
  cases b with
  | nil=>rfl
  | cons y b=>rw [List.nil_append,List.dropWhile_cons,if_neg (by rw [h y (by simp)];simp)];rfl
 | cons x a ih=>
  rw [List.cons_append,List.dropWhile_cons,List.dropWhile_cons]
  split
  ·exact ih
  ·rfl
theorem Ky (A B C:List Item) (i:Item) (hA:∀a∈A,a.key<i.key) (hC:∀c∈C,i.key<c.key):dS (A++B++C) i=A++dS B i++C:=by
 have fA:∀x∈A,(fun x:Item=>decide (Keyed.key x<i.key)) x=true:=fun x hx=>decide_eq_true (hA x hx)
 have fC:∀x∈C,(fun x:Item=>decide (Keyed.key x<i.key)) x=false:=fun x hx=>decide_eq_false (List.lt_asymm (hC x hx))
 have e1:ahead (A++B++C) i.key=A++ahead B i.key:=by
  unfold ahead
  rw [qF _ _ _ fC,sG _ _ _ fA]
 have e2:behind (A++B++C) i.key=behind B i.key++C:=by
  unfold behind
  rw [lY _ _ _ fC,mR _ _ _ fA]
 unfold dS
 rw [e1,e2]
 cases hb:behind B i.key with
 | nil=>
  cases C with
  | nil=>simp
  | cons c C=>
   have:c.key≠i.key:=fun q=>by have:=hC c (by simp);rw [q] at this;exact List.lt_irrefl _ this
   simp [this]
 | cons x r=>
  by_cases hx:x.key=i.key
  ·simp [hx]
  ·simp [hx]
theorem yO (l:List Item) (i x:Item) (h:x∈dS l i):x=i∨x∈l:=by
 unfold dS at h
 rcases List.mem_append.1 h with h | h
 ·exact .inr (by rw [←bZ l i.key];exact List.mem_append_left _ h)
 ·rcases List.mem_cons.1 h with h | h
  ·exact .inl h
  ·right
   rw [←bZ l i.key]
   refine List.mem_append_right _ ?_
   cases hb:behind l i.key with
   | nil=>rw [hb] at h;cases h
   | cons y r=>
    rw [hb] at h
    simp only at h
    split at h
    ·exact List.mem_cons_of_mem _ h
    ·exact h
theorem Nk (l:List Item) (i:Item):dS l i≠[]:=by unfold dS;simp
theorem jw {l:List Item} {i:Item} (h:bJ l=true) (hi:dK i=true):bJ (dS l i)=true:=by
 rw [aH] at h ⊢
 refine⟨fun x hx=>by rcases yO l i x hx with rfl | hx;exact hi;exact h.1 x hx,?_⟩
 have hr:=h.2
 have hg:=lu h.2 i.key
 have hl:=nD l i.key
 rw [←bZ l i.key] at hr
 unfold bF dS
 unfold bF at hr
 rw [List.pairwise_append] at hr
 obtain⟨h1,h2,h3⟩:=hr
 have h4:∀x∈(match behind l i.key with | []=>[] | x :: r=>if x.key=i.key then r else x :: r),x∈behind l i.key∧i.key<x.key:=by
  intro x hx
  cases hb:behind l i.key with
  | nil=>rw [hb] at hx;cases hx
  | cons y r=>
   rw [hb] at hx h2 hg
   simp only at hx
   have QE:=(List.pairwise_cons.1 h2).1
   split at hx
   ·rename_i hy
    exact⟨List.mem_cons_of_mem _ hx,by have:=QE x hx;change y.key<x.key at this;rwa [hy] at this⟩
   ·rename_i hy
    have:i.key<y.key:=by
     apply Classical.byContradiction
     intro q
     exact hy (List.le_antisymm q (hg y (by simp)))
    rcases List.mem_cons.1 hx with rfl | hx
    ·exact⟨by simp,this⟩
    ·exact⟨List.mem_cons_of_mem _ hx,List.lt_trans this (QE x hx)⟩
 rw [List.pairwise_append]
 refine⟨h1,?_,fun a ha b hb=>?_⟩
 ·rw [List.pairwise_cons]
  refine⟨fun b hb=>(h4 b hb).2,?_⟩
  cases hb:behind l i.key with
  | nil=>exact List.Pairwise.nil
  | cons y r=>
   rw [hb] at h2
   simp only
   split
   ·exact(List.pairwise_cons.1 h2).2
   ·exact h2
 ·rcases List.mem_cons.1 hb with rfl | hb
  ·exact hl a ha
  ·exact h3 a ha b (h4 b hb).1
theorem rH {α:Type} [Keyed α] {l m:List α} (h:m.Sublist l):aT m≤aT l:=by
 induction h with
 | slnil=>exact Nat.le_refl _
 | cons a h ih=>rw [bC];omega
 | cons_cons a h ih=>rw [bC,bC];omega
theorem Ag (l:List Item) (i:Item):aT (dS l i)≤aT l+Keyed.cost i:=by
 have e:=dn (ahead l i.key) (behind l i.key)
 rw [bZ] at e
 unfold dS
 have f:=dn (ahead l i.key) (i :: (match behind l i.key with | []=>[] | x :: r=>if x.key=i.key then r else x :: r))
 rw [bC] at f
 have g:aT (match behind l i.key with | []=>[] | x :: r=>if x.key=i.key then r else x :: r)≤aT (behind l i.key):=by
  refine rH ?_
  cases hb:behind l i.key with
  | nil=>exact List.Sublist.refl _
  | cons y r=>
   simp only
   split
   ·exact List.sublist_cons_self y r
   ·exact List.Sublist.refl _
 omega
theorem nH {ks:List Kid} (hr:bF ks) (hne:ks≠[]) (k:Bytes):∃A x C,ks=A++x :: C∧eH ks k=A.length∧(∀c∈C,k<c.key)∧(A=[]∨¬k<x.key):=by
 have e:ks.takeWhile (fun x=>!decide (k<x.key))++ks.dropWhile (fun x=>!decide (k<x.key))=ks:=List.takeWhile_append_dropWhile
 have hT:∀x∈ks.takeWhile (fun x=>!decide (k<x.key)),¬k<x.key:=by
  clear e hr hne
  induction ks with
  | nil=>intro x hx;cases hx
  | cons y ks ih=>
   intro x hx
   rw [List.takeWhile_cons] at hx
   split at hx
   ·rename_i hy
    rcases List.mem_cons.1 hx with rfl | hx
    ·simpa using hy
    ·exact ih x hx
   ·cases hx
 have hD:∀x∈ks.dropWhile (fun x=>!decide (k<x.key)),k<x.key:=by
  clear e hT hne
  induction ks with
  | nil=>intro x hx;cases hx
  | cons y ks ih=>
   intro x hx
   have hp:=List.pairwise_cons.1 hr
   rw [List.dropWhile_cons] at hx
   split at hx
   ·exact ih hp.2 x hx
   ·rename_i hy
    have hy:k<y.key:=by simpa using hy
    rcases List.mem_cons.1 hx with rfl | hx
    ·exact hy
    ·exact List.lt_trans hy (hp.1 x hx)
 unfold eH
 generalize ks.takeWhile (fun x=>!decide (k<x.key))=T at *
 generalize ks.dropWhile (fun x=>!decide (k<x.key))=D at *
 cases hl:T.getLast? with
 | none=>
  obtain rfl:T=[]:=by simpa using hl
  cases D with
  | nil=>simp at e;exact absurd e.symm (by simpa using hne)
  | cons d D=>exact⟨[],d,D,by simpa using e.symm,rfl,fun c hc=>hD c (by simp [hc]),.inl rfl⟩
 | some x=>
  have TB:T≠[]:=by intro q;subst q;simp at hl
  have hx:T.dropLast++[x]=T:=by
   have:=List.dropLast_concat_getLast TB
   rw [List.getLast?_eq_some_getLast TB] at hl
   rwa [Option.some.inj hl] at this
  have happ:ks=T.dropLast++x :: D:=by
   rw [←e]
   have:=congrArg (· ++ D) hx
   simpa using this.symm
  refine⟨T.dropLast,x,D,happ,by rw [List.length_dropLast],hD,.inr (hT x ?_)⟩
  rw [←hx];simp
structure dL (p:aW) (ids:List Int) (p':aW) (bE:List Int) (few:Nat):Prop where
 new:∀j∈bE,j∈ids∨(p.L.length+2:Nat)≤j
 other:∀j:Int,j<(p.L.length+2:Nat)→j∉ids∨eD p j=false→nodeAt p'.L j=nodeAt p.L j
 grow:p.L.length≤p'.L.length
 few:p'.L.length≤p.L.length+few
 gone:∃gs,p'.given=p.given++gs∧(∀j,j∈gs↔j∈ids∧j∉bE)∧gs.Nodup
 twice:(∀j∈ids,j∉p.given)→p'.twice=p.twice
 mine:p'.mine=p.mine
 bad:p'.bad=p.bad
 stop:p'.stop=p.stop
 all:∀j:Int,(p.L.length+2:Nat)≤j→j<(p'.L.length+2:Nat)→j∈bE
theorem any_false {l:List Int} {j:Int} (h:j∉l):(l.any fun g=>g == j)=false:=by
 rw [List.any_eq_false]
 intro x hx q
 exact h (by rwa [←(by simpa using q:x=j)])
theorem Kept.moved {p p':aW} {old:Int} {ns:List Node} {ids:List Int} (K:Kept p old ns ids p') (ho:old≠0) (few:Nat) (hf:ns.length≤few):dL p [old] p' ids few:=by
 refine⟨fun j hj=>(K.new j hj).imp (fun q=>by simp [q.1]) id,fun j hj q=>K.other j hj (q.imp (fun q=>by simpa using q) id),K.grow,by have:=K.few;omega,?_,fun hg=>?_,K.mine,K.bad,K.stop,K.all⟩
 ·rcases K.given with ⟨h1 | h1,h2,h3⟩ |⟨h1,h2,h3,h4⟩
  ·exact⟨[],by simpa using h2,fun j=>⟨fun q=>by (cases q),fun q=>by have:=List.mem_singleton.1 q.1;subst this;exact absurd h1 q.2⟩,List.nodup_nil⟩
  ·exact absurd h1 ho
  ·exact⟨[old],h3,fun j=>⟨fun q=>by have:=List.mem_singleton.1 q;subst this;exact⟨q,h1⟩,fun q=>q.1⟩,by simp⟩
 ·rcases K.given with ⟨h1,h2,h3⟩ |⟨h1,h2,h3,h4⟩
  ·exact h3
  ·rw [h4,any_false (hg old (by simp)),Bool.or_false]
theorem wG {p p':aW} (hm:p'.mine=p.mine) (hg:p.L.length≤p'.L.length) {j:Int} (hj:j<(p.L.length+2:Nat)):eD p' j=eD p j:=by
 unfold eD
 rw [hm]
 by_cases h:p.mine≤j∧2≤j
 ·rw [decide_eq_true ⟨h.1,by omega,h.2⟩,decide_eq_true ⟨h.1,by omega,h.2⟩]
 ·rw [decide_eq_false (fun q=>h ⟨q.1,q.2.2⟩),decide_eq_false (fun q=>h ⟨q.1,q.2.2⟩)]
theorem Dt {L L':List Node} {n:Nat} {A C:List au} {t:au} {w0:au} {ws:List au} {i:Item} (F:bR L n (A++t :: C)) (W:bR L' n (w0 :: ws)) (N:Nat) (hN:∀s∈A++t :: C,∀j∈s.ids,j<(N:Int))
 (hsame:∀s∈A++C,∀j∈s.ids,nodeAt L' j=nodeAt L j) (hit:∀x∈(w0 :: ws).flatMap au.items,x=i∨x∈t.items) (gP:∀j∈(w0 :: ws).flatMap au.ids,j∈t.ids∨(N:Int)≤j)
 (hC:∀c∈C,i.key<c.kid.key) (hA:A=[]∨¬i.key<t.kid.key) (hlow:∀b:Bytes,¬t.low<b→¬i.key<b→∀s∈w0 :: ws,¬s.kid.key<b) :
 bR L' n (A ++ ⟨⟨jv w0.kid.key t.kid.key,w0.kid.page⟩,w0.low,w0.items,w0.ids⟩ :: ws++C):=by
 have RA:¬w0.kid.key<jv w0.kid.key t.kid.key:=by
  unfold jv;split
  ·rename_i h;exact List.lt_asymm h
  ·exact List.lt_irrefl _
 have hk:=(aH _).1 F.ok
 have hw:=(aH _).1 W.ok
 have hkr:=hk.2
 unfold bF at hkr
 rw [List.pairwise_map,List.pairwise_append,List.pairwise_cons] at hkr
 have hwr:=hw.2
 unfold bF at hwr
 rw [List.pairwise_map,List.pairwise_cons] at hwr
 have hhi:=F.bd.hi
 rw [List.pairwise_append,List.pairwise_cons] at hhi
 have hwi:=W.bd.hi
 rw [List.pairwise_cons] at hwi
 have hit2:∀s∈w0 :: ws,∀x∈s.items,∀c∈C,x.key<c.kid.key:=fun s hs x hx c hc=>by
  rcases hit x (List.mem_flatMap.2 ⟨s,hs,hx⟩) with rfl | hx
  ·exact hC c hc
  ·exact hhi.2.1.1 c hc x hx
 have hwk:∀s∈w0 :: ws,∀c∈C,s.kid.key<c.kid.key:=fun s hs c hc=>by
  obtain⟨x,hx⟩:=List.exists_mem_of_ne_nil _ (W.sub s hs).ne
  have h1:=hit2 s hs x hx c hc
  have h2:=not_lt_trans (W.bd.lo s hs) ((W.sub s hs).tH x hx)
  apply Classical.byContradiction
  intro q
  exact h2 (bT h1 q)
 have Rv:A≠[]→∀s∈w0 :: ws,¬s.kid.key<t.kid.key:=fun hn=>hlow t.kid.key (F.bd.lo t (by simp)) (hA.resolve_left hn)
 have OC:A≠[]→¬jv w0.kid.key t.kid.key<t.kid.key:=fun hn=>by
  unfold jv;split
  ·exact List.lt_irrefl _
  ·exact Rv hn w0 (by simp)
 have OD:∀k:Bytes,w0.kid.key<k→jv w0.kid.key t.kid.key<k:=fun k hlt=>by
  unfold jv;split
  ·rename_i h;exact List.lt_trans h hlt
  ·exact hlt
 have old_new:∀x:Bytes,x<t.kid.key→∀y:Bytes,¬y<t.kid.key→x<y:=fun x hx y hy=>bT hx hy
 refine⟨fun s hs=>?_,⟨fun s hs=>?_,?_⟩,?_,?_⟩
 ·simp only [List.append_assoc,List.cons_append,List.mem_append,List.mem_cons] at hs
  rcases hs with hs | rfl | hs | hs
  ·exact(F.sub s (by simp [hs])).keep fun j hj=>hsame s (by simp [hs]) j hj
  ·exact W.sub w0 (by simp)
  ·exact W.sub s (by simp [hs])
  ·exact(F.sub s (by simp [hs])).keep fun j hj=>hsame s (by simp [hs]) j hj
 ·simp only [List.append_assoc,List.cons_append,List.mem_append,List.mem_cons] at hs
  rcases hs with hs | rfl | hs | hs
  ·exact F.bd.lo s (by simp [hs])
  ·exact not_lt_trans RA (W.bd.lo w0 (by simp))
  ·exact W.bd.lo s (by simp [hs])
  ·exact F.bd.lo s (by simp [hs])
 ·rw [List.append_assoc,List.pairwise_append,List.cons_append,List.pairwise_cons,List.pairwise_append]
  refine⟨hhi.1,⟨fun s hs x hx=>?_,hwi.2,hhi.2.1.2,fun s hs c hc x hx=>hit2 s (by simp [hs]) x hx c hc⟩,fun a ha s hs x hx=>?_⟩
  ·rcases List.mem_append.1 hs with hs | hs
   ·exact hwi.1 s hs x hx
   ·exact hit2 w0 (by simp) x hx s hs
  ·have hn:A≠[]:=by intro q;subst q;cases ha
   have h1:=hhi.2.2 a ha t (by simp) x hx
   rcases List.mem_cons.1 hs with rfl | hs
   ·exact old_new _ h1 _ (OC hn)
   ·rcases List.mem_append.1 hs with hs | hs
    ·exact old_new _ h1 _ (Rv hn s (by simp [hs]))
    ·exact hhi.2.2 a ha s (by simp [hs]) x hx
 ·rw [aH]
  refine⟨fun k hk2=>?_,?_⟩
  ·obtain⟨s,hs,rfl⟩:=List.mem_map.1 hk2
   simp only [List.append_assoc,List.cons_append,List.mem_append,List.mem_cons] at hs
   rcases hs with hs | rfl | hs | hs
   ·exact hk.1 _ (List.mem_map_of_mem (by simp [hs]))
   ·have g1:fF w0.kid=true:=hw.1 _ (List.mem_map_of_mem (by simp))
    have g2:fF t.kid=true:=hk.1 _ (List.mem_map_of_mem (by simp))
    show fF ⟨jv w0.kid.key t.kid.key,w0.kid.page⟩=true
    simp only [fF,decide_eq_true_eq] at g1 g2 ⊢
    refine⟨?_,g1.2⟩
    unfold jv;split
    ·exact g2.1
    ·exact g1.1
   ·exact hw.1 _ (List.mem_map_of_mem (by simp [hs]))
   ·exact hk.1 _ (List.mem_map_of_mem (by simp [hs]))
  ·unfold bF
   rw [List.pairwise_map,List.append_assoc,List.pairwise_append,List.cons_append,List.pairwise_cons,List.pairwise_append]
   refine⟨hkr.1,⟨fun s hs=>?_,hwr.2,hkr.2.1.2,fun s hs c hc=>hwk s (by simp [hs]) c hc⟩,fun a ha s hs=>?_⟩
   ·rcases List.mem_append.1 hs with hs | hs
    ·exact OD _ (hwr.1 s hs)
    ·exact OD _ (hwk w0 (by simp) s hs)
   ·have hn:A≠[]:=by intro q;subst q;cases ha
    have h1:a.kid.key<t.kid.key:=hkr.2.2 a ha t (by simp)
    rcases List.mem_cons.1 hs with rfl | hs
    ·exact old_new _ h1 _ (OC hn)
    ·rcases List.mem_append.1 hs with hs | hs
     ·exact old_new _ h1 _ (Rv hn s (by simp [hs]))
     ·exact hkr.2.2 a ha s (by simp [hs])
 ·have hnd:=F.nd
  have hwn:=W.nd
  rw [List.flatMap_append,List.flatMap_cons] at hnd
  have Xq:∀j∈A.flatMap au.ids,j<(N:Int):=fun j hj=>by obtain⟨s,hs,hj⟩:=List.mem_flatMap.1 hj;exact hN s (by simp [hs]) j hj
  have Xr:∀j∈C.flatMap au.ids,j<(N:Int):=fun j hj=>by obtain⟨s,hs,hj⟩:=List.mem_flatMap.1 hj;exact hN s (by simp [hs]) j hj
  have e:(A ++ ⟨⟨jv w0.kid.key t.kid.key,w0.kid.page⟩,w0.low,w0.items,w0.ids⟩ :: ws++C).flatMap au.ids=A.flatMap au.ids++((w0 :: ws).flatMap au.ids++C.flatMap au.ids):=by simp
  rw [e]
  generalize A.flatMap au.ids=a at *
  generalize C.flatMap au.ids=c at *
  generalize (w0 :: ws).flatMap au.ids=w at *
  rw [List.nodup_append,List.nodup_append] at hnd
  rw [List.nodup_append,List.nodup_append]
  refine⟨hnd.1,⟨hwn,hnd.2.1.2.1,fun x hx y hy e=>?_⟩,fun x hx y hy e=>?_⟩
  ·subst e
   rcases gP x hx with q | q
   ·exact hnd.2.1.2.2 x q x hy rfl
   ·have:=Xr x hy;omega
  ·subst e
   rcases List.mem_append.1 hy with hy | hy
   ·rcases gP x hy with q | q
    ·exact hnd.2.2 x hx x (List.mem_append_left _ q) rfl
    ·have:=Xq x hx;omega
   ·exact hnd.2.2 x hx x (List.mem_append_right _ hy) rfl
theorem iB {p:aW} {id:Int} {n:Node} {depth:Int} (h:nodeAt p.L id=some n) (hd:depth≤12) (hs:p.stop<0):uI p id depth=(.ok n,p):=by
 unfold uI uj
 rw [if_neg (by omega),if_neg (by omega),h]
 simp only
 rw [if_neg (by omega)]
theorem BA (i:Item) (hi:dK i=true) (n:Nat):∀(p:aW) (id:Int) (b:Bytes) (l:List Item) (ids:List Int) (depth:Int) (f:Nat),Tree p.L n id b l ids→n<f→depth+n≤12→p.stop<0→p.L.length+3+2 * n≤3998→
 ∃ts p',tC f p id i depth=(.ok (ts.map au.kid),p')∧bR p'.L n ts∧ts.flatMap au.items=dS l i∧ts≠[]∧ts.length≤3∧dL p ids p' (ts.flatMap au.ids) (3+2 * n)∧
  ∀b':Bytes,¬b<b'→¬i.key<b'→∀s∈ts,¬s.kid.key<b':=by
 induction n with
 | zero=>
  intro p id b l ids depth f h hf hd hs hL
  obtain⟨f,rfl⟩:∃g,f=g+1:=⟨f-1,by omega⟩
  cases h with
  | leaf id l h ne ok=>
   have hid:=cB h
   have hc:=(jC hi).2
   have hsz:=Ag l i
   have Xt:=ok.2.1
   obtain⟨ts,p',h1,h2,h3,h4,h5,h6,h7⟩:=pz p id (dS l i) (jw ok.1 hi) (by omega) (by omega) hid.2
   refine⟨ts,p',?_,h2,h3,?_,h4,h5.moved (by omega) _ (by rw [List.length_map];omega),fun b' hb hib s hs=>?_⟩
   ·rw [tC,iB h (by omega) hs]
    exact h1
   ·intro q;subst q;exact Nk l i h3.symm
   ·obtain⟨x,hx,ex⟩:=h6 s hs
    rw [←ex]
    have hx2:x∈dS l i:=by rw [←h3];exact List.mem_flatMap.2 ⟨s,hs,hx⟩
    rcases yO l i x hx2 with rfl | hx2
    ·exact hib
    ·exact not_lt_trans hb (yI ((aH _).1 ok.1).2 x hx2)
 | succ n ih=>
  intro p id b l ids depth f h hf hd hs hL
  obtain⟨f,rfl⟩:∃g,f=g+1:=⟨f-1,by omega⟩
  cases h with
  | cZ _ _ ts h two ok sub bd nd=>
   have hid:=cB h
   have iT:=(aH _).1 ok.1
   rw [List.nodup_cons] at nd
   have F:bR p.L n ts:=⟨sub,bd,ok.1,nd.2⟩
   obtain⟨A',x,C',e1,e2,e3,e4⟩:=nH iT.2 (by intro q;rw [List.map_eq_nil_iff] at q;subst q;simp at two) i.key
   obtain⟨A,r,rfl,rfl,er⟩:=List.map_eq_append_iff.1 e1
   obtain⟨t,C,rfl,rfl,rfl⟩:=List.map_eq_cons_iff.1 er
   have dP:∀s∈A++t :: C,∀j∈s.ids,j<((p.L.length+2:Nat):Int):=fun s hs j hj=>((sub s hs).there j hj).2
   have hsep:∀s∈A++C,∀j∈s.ids,j∉t.ids:=by
    intro s hs j hj q
    have hn:=nd.2
    rw [List.flatMap_append,List.flatMap_cons,List.nodup_append,List.nodup_append] at hn
    rcases List.mem_append.1 hs with hs | hs
    ·exact hn.2.2 j (List.mem_flatMap.2 ⟨s,hs,hj⟩) j (List.mem_append_left _ q) rfl
    ·exact hn.2.1.2.2 j q j (List.mem_flatMap.2 ⟨s,hs,hj⟩) rfl
   have RB:∀s∈A++C,s∈A++t :: C:=fun s hs=>by
    rcases List.mem_append.1 hs with hs | hs
    ·exact List.mem_append_left _ hs
    ·exact List.mem_append_right _ (List.mem_cons_of_mem _ hs)
   have Fh:id∉t.ids:=fun q=>nd.1 (List.mem_flatMap.2 ⟨t,by simp,q⟩)
   obtain⟨w,p1,g1,W,g3,g4,g5,M,g7⟩:=ih p t.kid.page t.low t.items t.ids (depth+1) f (sub t (by simp)) (by omega) (by omega) hs (by omega)
   obtain⟨w0,ws,rfl⟩:=List.exists_cons_of_ne_nil g4
   have hC:∀c∈C,i.key<c.kid.key:=fun c hc=>e3 _ (List.mem_map_of_mem hc)
   have hA:A=[]∨¬i.key<t.kid.key:=e4.imp (fun q=>by simpa using q) (fun q=>q)
   have F1:=Dt F W (p.L.length+2) dP (fun s hs j hj=>M.other j (dP s (RB s hs) j hj) (.inl (hsep s hs j hj)))
    (fun x hx=>yO _ _ _ (by rw [←g3];exact hx)) (fun j hj=>(M.new j hj)) hC hA g7
   have hg:=M.grow
   have gy:=M.few
   have hsize:aT ((A ++ ⟨⟨jv w0.kid.key t.kid.key,w0.kid.page⟩,w0.low,w0.items,w0.ids⟩ :: ws++C).map au.kid)≤392:=by
    have hk:=(aH _).1 F1.ok
    have q1:=dn ((A.map au.kid)++(⟨jv w0.kid.key t.kid.key,w0.kid.page⟩ :: ws.map au.kid)) (C.map au.kid)
    have q2:=dn (A.map au.kid) (⟨jv w0.kid.key t.kid.key,w0.kid.page⟩ :: ws.map au.kid)
    have q3:=dn (A.map au.kid) (t.kid :: C.map au.kid)
    have q4:=gW (⟨jv w0.kid.key t.kid.key,w0.kid.page⟩ :: ws.map au.kid) (fun y hy=>(dY (hk.1 y (by
     rw [List.map_append,List.map_append];exact List.mem_append_left _ (List.mem_append_right _ (by simpa using hy))))).2)
    have q5:=ok.2.1
    rw [List.map_append,List.map_cons] at q5
    rw [bC t.kid] at q3
    have e:(A ++ ⟨⟨jv w0.kid.key t.kid.key,w0.kid.page⟩,w0.low,w0.items,w0.ids⟩ :: ws++C).map au.kid=(A.map au.kid++(⟨jv w0.kid.key t.kid.key,w0.kid.page⟩ :: ws.map au.kid))++C.map au.kid:=by simp
    rw [e]
    simp only [List.length_cons,List.length_map] at q4 g5
    have q6:=gQ (C.map au.kid)
    omega
   have Ah:∀j,j∈(A ++ ⟨⟨jv w0.kid.key t.kid.key,w0.kid.page⟩,w0.low,w0.items,w0.ids⟩ :: ws++C).flatMap au.ids↔j∈(A++C).flatMap au.ids∨j∈(w0 :: ws).flatMap au.ids:=by
    intro j
    simp only [List.flatMap_append,List.flatMap_cons,List.mem_append]
    constructor
    ·rintro((h | h | h) | h)
     ·exact .inl (.inl h)
     ·exact .inr (.inl h)
     ·exact .inr (.inr h)
     ·exact .inl (.inr h)
    ·rintro((h | h) |(h | h))
     ·exact .inl (.inl h)
     ·exact .inr h
     ·exact .inl (.inr (.inl h))
     ·exact .inl (.inr (.inr h))
   have RD:id∉(A ++ ⟨⟨jv w0.kid.key t.kid.key,w0.kid.page⟩,w0.low,w0.items,w0.ids⟩ :: ws++C).flatMap au.ids:=fun q=>by
    rcases(Ah id).1 q with q | q
    ·obtain⟨s,hs,q⟩:=List.mem_flatMap.1 q
     exact nd.1 (List.mem_flatMap.2 ⟨s,RB s hs,q⟩)
    ·rcases M.new id q with q | q
     ·exact Fh q
     ·omega
   have hlen1:(id:Int)<(p1.L.length+2:Nat):=by omega
   obtain⟨us,p2,pages,k1,k2,k3,k4,k5,K,k7,k8,k9⟩:=rR p1 id n _ F1 (by simp only [List.length_append,List.length_cons] at two ⊢;omega) hsize (by omega) hlen1 RD
   have hns:((bY ((A ++ ⟨⟨jv w0.kid.key t.kid.key,w0.kid.page⟩,w0.low,w0.items,w0.ids⟩ :: ws++C).map au.kid)).map Node.cZ).length≤2:=by rw [←K.len,k7];exact k4
   have M2:=K.moved (by omega) 2 hns
   refine⟨us,p2,?_,k2,?_,k5,by omega,?_,?_⟩
   ·rw [tC,iB h (by omega) hs]
    simp only
    rw [e2,List.map_append,List.getElem?_append_right (by simp)]
    simp only [List.length_map,Nat.sub_self,List.map_cons,List.getElem?_cons_zero]
    rw [g1]
    simp only
    have e:fO (A.map au.kid++t.kid :: C.map au.kid) A.length (dZ t.kid.key ((w0 :: ws).map au.kid))=(A ++ ⟨⟨jv w0.kid.key t.kid.key,w0.kid.page⟩,w0.low,w0.items,w0.ids⟩ :: ws++C).map au.kid:=by
     unfold fO
     have q1:(A.map au.kid++t.kid :: C.map au.kid).take A.length=A.map au.kid:=by
      have:=List.take_left (l₁:=A.map au.kid) (l₂:=t.kid :: C.map au.kid)
      rwa [List.length_map] at this
     have q2:(A.map au.kid++t.kid :: C.map au.kid).drop (A.length+1)=C.map au.kid:=by
      have:=List.drop_left (l₁:=A.map au.kid++[t.kid]) (l₂:=C.map au.kid)
      simpa using this
     rw [q1,q2]
     simp [dZ]
    rw [e]
    exact k1
   ·rw [k3]
    have e:(A ++ ⟨⟨jv w0.kid.key t.kid.key,w0.kid.page⟩,w0.low,w0.items,w0.ids⟩ :: ws++C).flatMap au.items=A.flatMap au.items++(w0 :: ws).flatMap au.items++C.flatMap au.items:=by simp
    rw [e,g3]
    have e':(A++t :: C).flatMap au.items=A.flatMap au.items++t.items++C.flatMap au.items:=by simp
    rw [e',Ky]
    ·intro x hx
     obtain⟨s,hs,hx⟩:=List.mem_flatMap.1 hx
     have hb:=bd.hi
     rw [List.pairwise_append] at hb
     have h1:=hb.2.2 s hs t (by simp) x hx
     rcases hA with q | q
     ·subst q;cases hs
     ·exact bT h1 q
    ·intro x hx
     obtain⟨s,hs,hx⟩:=List.mem_flatMap.1 hx
     have h1:=not_lt_trans (bd.lo s (by simp [hs])) ((sub s (by simp [hs])).tH x hx)
     exact bT (hC s hs) h1
   ·have hgs:=M.gone
    obtain⟨gs,q1,q2,q3⟩:=hgs
    obtain⟨gs2,r1,r2,r3⟩:=M2.gone
    have RF:∀j∈gs2,j=id:=fun j hj=>by simpa using ((r2 j).1 hj).1
    refine⟨fun j hj=>?_,fun j hj q=>?_,Nat.le_trans hg M2.grow,by have:=M2.few;omega,⟨gs++gs2,by rw [r1,q1,List.append_assoc],fun j=>?_,?_⟩,fun hgv=>?_,M2.mine.trans M.mine,M2.bad.trans M.bad,M2.stop.trans M.stop,fun j ha hb=>(k8 j).2 ((Int.lt_or_le j ((p1.L.length+2:Nat):Int)).elim (fun q=>.inr ((Ah j).2 (.inr (M.all j ha q)))) fun q=>.inl (M2.all j q hb))⟩
    ·rcases(k8 j).1 hj with hj | hj
     ·rcases M2.new j hj with hj | hj
      ·exact .inl (by rw [List.mem_singleton.1 hj];simp)
      ·exact .inr (by omega)
     ·rcases(Ah j).1 hj with hj | hj
      ·obtain⟨s,hs,hj⟩:=List.mem_flatMap.1 hj
       exact .inl (List.mem_cons_of_mem _ (List.mem_flatMap.2 ⟨s,RB s hs,hj⟩))
      ·rcases M.new j hj with hj | hj
       ·exact .inl (List.mem_cons_of_mem _ (List.mem_flatMap.2 ⟨t,by simp,hj⟩))
       ·exact .inr hj
    ·refine(M2.other j (by omega) ?_).trans (M.other j hj ?_)
     ·rcases q with q | q
      ·exact .inl fun e=>q (by rw [List.mem_singleton.1 e];simp)
      ·exact .inr (by rw [wG M.mine hg hj];exact q)
     ·rcases q with q | q
      ·exact .inl fun e=>q (List.mem_cons_of_mem _ (List.mem_flatMap.2 ⟨t,by simp,e⟩))
      ·exact .inr q
    ·rw [List.mem_append]
     constructor
     ·rintro(hj | hj)
      ·obtain⟨hjt,Xu⟩:=(q2 j).1 hj
       refine⟨List.mem_cons_of_mem _ (List.mem_flatMap.2 ⟨t,by simp,hjt⟩),fun xJ=>?_⟩
       rcases(k8 j).1 xJ with xJ | xJ
       ·rcases M2.new j xJ with xJ | xJ
        ·rw [List.mem_singleton.1 xJ] at hjt;exact Fh hjt
        ·have:=dP t (by simp) j hjt;omega
       ·rcases(Ah j).1 xJ with xJ | xJ
        ·obtain⟨s,hs,xJ⟩:=List.mem_flatMap.1 xJ
         exact hsep s hs j xJ hjt
        ·exact Xu xJ
      ·have e:=RF j hj
       subst e
       refine⟨by simp,fun xJ=>?_⟩
       rcases(k8 _).1 xJ with xJ | xJ
       ·exact((r2 _).1 hj).2 xJ
       ·exact RD xJ
     ·rintro⟨hj,xJ⟩
      have UE:j∉pages:=fun q=>xJ ((k8 j).2 (.inl q))
      rcases List.mem_cons.1 hj with rfl | hj
      ·exact .inr ((r2 _).2 ⟨by simp,UE⟩)
      ·obtain⟨s,hs,hjs⟩:=List.mem_flatMap.1 hj
       by_cases hst:j∈t.ids
       ·exact .inl ((q2 j).2 ⟨hst,fun q=>xJ ((k8 j).2 (.inr ((Ah j).2 (.inr q))))⟩)
       ·exfalso
        refine xJ ((k8 j).2 (.inr ((Ah j).2 (.inl (List.mem_flatMap.2 ⟨s,?_,hjs⟩)))))
        rcases List.mem_append.1 hs with hs | hs
        ·exact List.mem_append_left _ hs
        ·rcases List.mem_cons.1 hs with rfl | hs
         ·exact absurd hjs hst
         ·exact List.mem_append_right _ hs
    ·rw [List.nodup_append]
     refine⟨q3,r3,fun x hx y hy e=>?_⟩
     subst e
     rw [RF x hy] at hx
     exact Fh ((q2 id).1 hx).1
    ·have h1:=M.twice fun j hj=>hgv j (List.mem_cons_of_mem _ (List.mem_flatMap.2 ⟨t,by simp,hj⟩))
     refine(M2.twice fun j hj=>?_).trans h1
     rw [List.mem_singleton.1 hj,q1,List.mem_append]
     rintro(q | q)
     ·exact hgv id (by simp) q
     ·exact Fh ((q2 id).1 q).1
   ·intro b' hb hib u hu
    obtain⟨s,hs,es⟩:=k9 u hu
    rw [←es]
    have hall:∀s∈A++t :: C,¬s.kid.key<b':=fun s hs=>not_lt_trans hb (yI iT.2 s.kid (List.mem_map_of_mem hs))
    have hw:=g7 b' (not_lt_trans (hall t (by simp)) (bd.lo t (by simp))) hib
    simp only [List.append_assoc,List.cons_append,List.mem_append,List.mem_cons] at hs
    rcases hs with hs | rfl | hs | hs
    ·exact hall s (by simp [hs])
    ·show ¬jv w0.kid.key t.kid.key<b'
     unfold jv;split
     ·exact hall t (by simp)
     ·exact hw w0 (by simp)
    ·exact hw s (by simp [hs])
    ·exact hall s (by simp [hs])
theorem dL.refl (p:aW) (ids:List Int):dL p ids p ids 0:=
 ⟨fun _ h=>.inl h,fun _ _ _=>rfl,Nat.le_refl _,Nat.le_refl _,⟨[],by simp,fun j=>⟨fun q=>by (cases q),fun q=>absurd q.1 q.2⟩,List.nodup_nil⟩,fun _=>rfl,rfl,rfl,rfl,fun _ h1 h2=>absurd h1 (by omega)⟩
theorem dL.top {p p1 p2:aW} {ids vE qc pages:List Int} {f:Nat} {ns:List Node} (M:dL p ids p1 vE f) (K:Kept p1 0 ns pages p2) (h:∀j,j∈qc↔j∈pages∨j∈vE) (dP:∀j∈ids,2≤j∧j<(p.L.length+2:Nat)) :
 dL p ids p2 qc (f+ns.length):=by
 have hg:=M.grow
 have hpg:∀j∈pages,(p1.L.length+2:Nat)≤j:=fun j hj=>by
  rcases K.new j hj with ⟨e,_⟩ | q
  ·have:=(K.pos j hj).1;omega
  ·exact q
 have hgv:p2.given=p1.given∧p2.twice=p1.twice:=by
  rcases K.given with ⟨_,h⟩ |⟨_,h0,_⟩
  ·exact h
  ·exact absurd rfl h0
 obtain⟨gs,q1,q2,q3⟩:=M.gone
 refine⟨fun j hj=>?_,fun j hj q=>?_,Nat.le_trans hg K.grow,by have:=K.few;have:=M.few;omega,⟨gs,hgv.1.trans q1,fun j=>?_,q3⟩,fun q=>hgv.2.trans (M.twice q),K.mine.trans M.mine,K.bad.trans M.bad,K.stop.trans M.stop,fun j ha hb=>(h j).2 ((Int.lt_or_le j ((p1.L.length+2:Nat):Int)).elim (fun q=>.inr (M.all j ha q)) fun q=>.inl (K.all j q hb))⟩
 ·rcases(h j).1 hj with hj | hj
  ·have:=hpg j hj;exact .inr (by omega)
  ·exact M.new j hj
 ·by_cases h0:j=0
  ·subst h0
   have e1:nodeAt p2.L 0=none:=rfl
   have e2:nodeAt p.L 0=none:=rfl
   rw [e1,e2]
  ·exact(K.other j (by omega) (.inl h0)).trans (M.other j hj q)
 ·rw [q2 j]
  constructor
  ·rintro⟨h1,h2⟩
   refine⟨h1,fun q=>?_⟩
   rcases(h j).1 q with q | q
   ·have:=hpg j q;have:=(dP j h1).2;omega
   ·exact h2 q
  ·rintro⟨h1,h2⟩
   exact⟨h1,fun q=>h2 ((h j).2 (.inr q))⟩
inductive bq (L:List Node):Int→List Item→List Int→Prop
 | none:bq L 0 [] []
 | some (n:Nat) (root:Int) (b:Bytes) (l:List Item) (ids:List Int) (h:Tree L n root b l ids):bq L root l ids
theorem lg {α:Type} [Keyed α] (l:List α) (hne:l≠[]) (h1:aT l≤232) (h2:l.length≤255):gF l=[l]:=by
 have hc:=mF l hne
 have hm:=Dk l
 have:dU l=l.length:=by
  apply Classical.byContradiction
  intro q
  refine hm ⟨by omega,by omega,?_⟩
  exact Nat.le_trans (lQ l _) h1
 rw [fK l hne,this,List.take_length,List.drop_length,gJ]
theorem BD (p:aW) (n:Nat) (ts:List au) (F:bR p.L n ts) (hne:ts≠[]) (h3:ts.length≤3) (hL:p.L.length+1≤3998) (f:Nat) (hf:2≤f) :
 ∃root p' bE,sw f p (ts.map au.kid)=(.ok root,p')∧bq p'.L root (ts.flatMap au.items) bE∧root≠0∧∃ns pages,Kept p 0 ns pages p'∧ns.length≤1∧∀j,j∈bE↔j∈pages∨j∈ts.flatMap au.ids:=by
 obtain⟨f,rfl⟩:∃g,f=g+2:=⟨f-2,by omega⟩
 have single:∀(q:aW) (m:Nat) (s:au),bR q.L m [s]→s.kid.page≠0∧bq q.L s.kid.page s.items s.ids:=fun q m s F=>by
  have h:=F.sub s (by simp)
  have h2:=h.there _ h.self
  exact⟨by omega,.some m _ _ _ _ h⟩
 match ts,hne,h3,F with
 | [s],_,_,F=>
  obtain⟨h0,h1⟩:=single p n s F
  refine⟨s.kid.page,p,s.ids,rfl,by simpa using h1,h0,[],[],⟨rfl,fun k n h=>by simp at h,List.nodup_nil,fun j hj=>(by cases hj),fun j hj=>(by cases hj),fun _ _ _=>rfl,Nat.le_refl _,by simp,.inl ⟨.inr rfl,rfl,rfl⟩,rfl,rfl,rfl,fun _ h1 h2=>absurd h1 (by omega)⟩,by simp,fun j=>by simp⟩
 | a :: b :: r,_,h3,F=>
  have hk:=(aH _).1 F.ok
  have hs:=gW ((a :: b :: r).map au.kid) fun x hx=>(dY (hk.1 x hx)).2
  rw [List.length_map] at hs
  have hw:gF ((a :: b :: r).map au.kid)=[(a :: b :: r).map au.kid]:=lg _ (by simp) (by omega) (by rw [List.length_map];omega)
  have hc:bY ((a :: b :: r).map au.kid)=[(a :: b :: r).map au.kid]:=by unfold bY;rw [hw];rfl
  obtain⟨us,p',pages,k1,k2,k3,k4,k5,K,k7,k8,_⟩:=by
   refine yM p 0 n (a :: b :: r) F (by simp) (by omega) (by rw [hc];simpa using hL) (by omega) ?_
   intro q
   obtain⟨s,hs,q⟩:=List.mem_flatMap.1 q
   have:=((F.sub s hs).there _ q).1
   omega
  have RG:us.length=1:=by rw [←k7,K.len,hc];rfl
  obtain⟨u,rfl⟩:=List.length_eq_one_iff.1 RG
  obtain⟨h0,h1⟩:=single p' _ u k2
  refine⟨u.kid.page,p',u.ids,?_,by rw [←k3];simpa using h1,h0,_,pages,K,by rw [hc];simp,fun j=>by rw [←k8];simp⟩
  show sw (f+2) p (a.kid :: b.kid :: r.map au.kid)=_
  rw [sw]
  ·change eP p 0 (a.kid :: b.kid :: r.map au.kid)=_ at k1
   rw [k1]
   rfl
  ·intro q;cases q
  ·intro k q;cases q
theorem lZ (p:aW) (root:Int) (l:List Item) (ids:List Int) (i:Item) (hi:dK i=true) (R:bq p.L root l ids) (hs:p.stop<0) (m:Nat) (hm:l.length<2 ^ m) (hm2:m≤11) (hL:p.L.length+4+2 * m≤3998) :
 ∃root' p' bE,gV p root i=(.ok root',p')∧bq p'.L root' (dS l i) bE∧root'≠0∧dL p ids p' bE (2+2 * m):=by
 unfold gV
 rw [if_pos hi]
 cases R with
 | none=>
  rw [if_pos rfl]
  have hr:bJ [i]=true:=by rw [qA];exact⟨hi,(fun y hy=>by simp at hy),pq⟩
  have hc:=(jC hi).2
  have hsz:aT [i]≤232:=by rw [bC];simp only [aT,List.foldr_nil];omega
  have hw:gF [i]=[[i]]:=lg _ (by simp) hsz (by simp)
  obtain⟨ts,p1,h1,h2,h3,h4,K,h6,h7⟩:=pz p 0 [i] hr (by omega) (by omega) (by omega)
  have hl1:ts.length=1:=by rw [h7,hw];rfl
  have hns:((gF [i]).map Node.leaf).length=1:=by rw [hw];rfl
  have hg:=K.grow
  have hf:=K.few
  obtain⟨root',p',bE,t1,t2,t3,ns,pages,K2,t5,t6⟩:=BD p1 0 ts h2 (by intro q;subst q;simp at hl1) h4 (by omega) 20 (by omega)
  have M1:=(dL.refl p []).top K (qc:=ts.flatMap au.ids) (fun j=>by simp) (fun j hj=>by cases hj)
  have M2:=M1.top K2 t6 (fun j hj=>by cases hj)
  refine⟨root',p',bE,by rw [h1];exact t1,by rw [h3] at t2;exact t2,t3,?_⟩
  refine⟨M2.new,M2.other,M2.grow,by have:=M2.few;omega,M2.gone,M2.twice,M2.mine,M2.bad,M2.stop,M2.all⟩
 | some n _ b _ _ h=>
  have hself:=h.there _ h.self
  rw [if_neg (by omega)]
  have lJ:=h.many
  have hn:n<m:=by
   apply Classical.byContradiction
   intro q
   have:=Nat.pow_le_pow_right (n:=2) (by omega) (Nat.le_of_not_lt q)
   omega
  obtain⟨ts,p1,h1,h2,h3,h4,h5,M,_⟩:=BA i hi n p root b l ids 1 13 h (by omega) (by omega) hs (by omega)
  have hg:=M.grow
  have hf:=M.few
  obtain⟨root',p',bE,t1,t2,t3,ns,pages,K2,t5,t6⟩:=BD p1 n ts h2 h4 h5 (by omega) 20 (by omega)
  have M2:=M.top K2 t6 h.there
  refine⟨root',p',bE,by rw [h1];exact t1,by rw [h3] at t2;exact t2,t3,?_⟩
  refine⟨M2.new,M2.other,M2.grow,by have:=M2.few;omega,M2.gone,M2.twice,M2.mine,M2.bad,M2.stop,M2.all⟩
end
section
open Go.RowKit
/-! ### A cursor -/
structure Place where
 node:Node
 at_:Int
structure TD where
 p:aW
 root:Int
 stack:List Place
 e:Int
def PO:Node→Nat
 | .leaf l=>l.length
 | .cZ l=>l.length
 | .over _=>0
inductive zB (L:List Node):Nat→Int→List Item→Node→List (List Item)→Prop
 | leaf (id:Int) (l:List Item) (h:nodeAt L id=some (.leaf l)) (ne:l≠[]) (ok:mP (.leaf l)):zB L 0 id l (.leaf l) (l.map fun x=>[x])
 | cZ (n:Nat) (id:Int) (ts:List au) (h:nodeAt L id=some (.cZ (ts.map au.kid))) (two:2≤ts.length) (ok:mP (.cZ (ts.map au.kid)))
  (sub:∀t∈ts,Tree L n t.kid.page t.low t.items t.ids) (bd:Bounds ts):zB L (n+1) id (ts.flatMap au.items) (.cZ (ts.map au.kid)) (ts.map au.items)
theorem zB.node {L:List Node} {n:Nat} {id:Int} {l:List Item} {node:Node} {parts:List (List Item)} (h:zB L n id l node parts):nodeAt L id=some node:=by cases h<;>assumption
theorem zB.len {L:List Node} {n:Nat} {id:Int} {l:List Item} {node:Node} {parts:List (List Item)} (h:zB L n id l node parts):PO node=parts.length∧1≤parts.length:=by
 cases h with
 | leaf _ _ _ ne _=>have:=List.length_pos_iff.2 ne;exact⟨by simp [PO],by rw [List.length_map];omega⟩
 | cZ n _ ts h two=>exact⟨by simp [PO],by rw [List.length_map];omega⟩
theorem zB.ne {L:List Node} {n:Nat} {id:Int} {l:List Item} {node:Node} {parts:List (List Item)} (h:zB L n id l node parts):∀p∈parts,p≠[]:=by
 cases h with
 | leaf=>intro p hp;obtain⟨x,_,rfl⟩:=List.mem_map.1 hp;simp
 | cZ n _ ts h two ok sub=>intro p hp;obtain⟨t,ht,rfl⟩:=List.mem_map.1 hp;exact(sub t ht).ne
inductive Ai (L:List Node) (l:List Item):List Place→Nat→Int→List Item→List Item→List Item→Prop
 | root (n:Nat) (id:Int) (b:Bytes) (ids:List Int) (h:Tree L n id b l ids):Ai L l [] n id l [] []
 | step (st:List Place) (n:Nat) (id:Int) (A C:List au) (t:au) (pre post:List Item) (s:Ai L l st (n+1) id ((A++t :: C).flatMap au.items) pre post)
  (f:zB L (n+1) id ((A++t :: C).flatMap au.items) (.cZ ((A++t :: C).map au.kid)) ((A++t :: C).map au.items)) (h:Tree L n t.kid.page t.low t.items t.ids) :
  Ai L l (⟨.cZ ((A++t :: C).map au.kid),A.length⟩ :: st) n t.kid.page t.items (pre++A.flatMap au.items) (C.flatMap au.items++post)
theorem Ai.whole {L:List Node} {l:List Item} {st:List Place} {n:Nat} {id:Int} {m pre post:List Item} (h:Ai L l st n id m pre post):l=pre++m++post:=by
 induction h with
 | root=>simp
 | step st n id A C t pre post s f h ih=>rw [ih];simp
structure PS (L:List Node) (l:List Item) (st:List Place) (k:Nat):Prop where
 ex:∃(m:List Item) (a:Nat) (r:List Place) (id:Int) (pre post:List Item),st=⟨.leaf m,a⟩ :: r∧Ai L l r 0 id m pre post∧zB L 0 id m (.leaf m) (m.map fun x=>[x])∧a<m.length∧k=pre.length+a∧r.length≤11
structure Ends (L:List Node) (l:List Item) (c:TD) (k:Option Nat) (r:Bool) (c':TD):Prop where
 pages:c'.p = { c.p with stop:=c'.p.stop }
 root:c'.root=c.root
 calm:c.p.stop<0→c'.p.stop=c.p.stop
 RH:0≤c.p.stop→0≤c'.p.stop
 how:(r=k.isSome∧c'.e=c.e∧(match k with | some k=>PS L l c'.stack k | none=>c'.stack=[]))∨(0≤c.p.stop∧r=false∧c'.stack=[]∧c'.e=14)
theorem Ends.step {L:List Node} {l:List Item} {c c1 c':TD} {k:Option Nat} {r:Bool} (h:Ends L l c1 k r c') (hp:c1.p = { c.p with stop:=c1.p.stop }) (hr:c1.root=c.root) (hc:c.p.stop<0→c1.p.stop=c.p.stop) (hu:0≤c.p.stop→0≤c1.p.stop) (he:c1.e=c.e):Ends L l c k r c':=by
 refine⟨by rw [h.pages,hp],h.root.trans hr,fun q=>(h.calm (by rw [hc q];exact q)).trans (hc q),fun q=>h.RH (hu q),?_⟩
 rcases h.how with ⟨h1,h2,h3⟩ |⟨h1,h2,h3,h4⟩
 ·exact .inl ⟨h1,h2.trans he,h3⟩
 ·refine .inr ⟨?_,h2,h3,h4⟩
  apply Classical.byContradiction
  intro q
  have:=hc (by omega)
  omega
theorem Fj {α:Type} (parts:List (List α)) (a:Nat) (h:a<parts.length):(parts.take (a+1)).flatten=(parts.take a).flatten++parts[a]:=by
 rw [List.take_succ_eq_append_getElem h,List.flatten_append];simp
section
variable (L : List Node) (l : List Item) (root : Int) (ids : List Int) (R : bq L root l ids) (hl : l.length < 2 ^ 11) (c : TD) (hL : c.p.L = L) (hr : c.root = root) (he : c.e = 0)
include R hl hL hr he
end
end
section
open Go.RowKit
/-! ### Items are put one behind the other -/
theorem jD (l:List Item) (i:Item):(dS l i).length≤l.length+1:=by
 have e:=congrArg List.length (bZ l i.key)
 unfold dS
 rw [List.length_append] at e ⊢
 rw [List.length_cons]
 cases hb:behind l i.key with
 | nil=>rw [hb] at e;simp at e ⊢;omega
 | cons x r=>
  rw [hb] at e
  simp only [List.length_cons] at e ⊢
  split
  ·omega
  ·simp only [List.length_cons];omega
/-! ### A key is deleted -/
theorem Nl {us ts:List au} (h:us.Sublist ts):(us.flatMap au.ids).Sublist (ts.flatMap au.ids):=by
 induction h with
 | slnil=>exact List.Sublist.refl _
 | cons a h ih=>rw [List.flatMap_cons];exact ih.trans (List.sublist_append_right _ _)
 | cons_cons a h ih=>rw [List.flatMap_cons,List.flatMap_cons];exact ih.append_left _
theorem bR.less {L:List Node} {n:Nat} {ts us:List au} (h:bR L n ts) (hs:us.Sublist ts):bR L n us:=
 ⟨fun t ht=>h.sub t (hs.subset ht),⟨fun t ht=>h.bd.lo t (hs.subset ht),h.bd.hi.sublist hs⟩,iM h.ok (hs.map _),h.nd.sublist (Nl hs)⟩
theorem bR.keep {L L':List Node} {n:Nat} {ts:List au} (h:bR L n ts) (hk:∀j∈ts.flatMap au.ids,nodeAt L' j=nodeAt L j):bR L' n ts:=
 ⟨fun t ht=>(h.sub t ht).keep fun j hj=>hk j (List.mem_flatMap.2 ⟨t,ht,hj⟩),h.bd,h.ok,h.nd⟩
theorem tJ {L:List Node} {n:Nat} {A C w:List au} (F:bR L n (A++C)) (W:bR L n w) (h1:∀a∈A,∀s∈w,a.kid.key<s.kid.key∧∀i∈a.items,i.key<s.kid.key)
 (h2:∀s∈w,∀c∈C,s.kid.key<c.kid.key∧∀i∈s.items,i.key<c.kid.key) (h3:∀j∈(A++C).flatMap au.ids,j∉w.flatMap au.ids):bR L n (A++w++C):=by
 have hb:=F.bd.hi
 have hk:=(aH _).1 F.ok
 have hw:=(aH _).1 W.ok
 have hkr:=hk.2
 have hwr:=hw.2
 unfold bF at hkr hwr
 rw [List.pairwise_map] at hkr hwr
 rw [List.pairwise_append] at hb hkr
 have hnd:=F.nd
 rw [List.flatMap_append,List.nodup_append] at hnd
 refine⟨fun t ht=>?_,⟨fun t ht=>?_,?_⟩,?_,?_⟩
 ·rcases List.mem_append.1 ht with ht | ht
  ·rcases List.mem_append.1 ht with ht | ht
   ·exact F.sub t (List.mem_append_left _ ht)
   ·exact W.sub t ht
  ·exact F.sub t (List.mem_append_right _ ht)
 ·rcases List.mem_append.1 ht with ht | ht
  ·rcases List.mem_append.1 ht with ht | ht
   ·exact F.bd.lo t (List.mem_append_left _ ht)
   ·exact W.bd.lo t ht
  ·exact F.bd.lo t (List.mem_append_right _ ht)
 ·rw [List.pairwise_append,List.pairwise_append]
  refine⟨⟨hb.1,W.bd.hi,fun a ha s hs=>(h1 a ha s hs).2⟩,hb.2.1,fun s hs c hc=>?_⟩
  rcases List.mem_append.1 hs with hs | hs
  ·exact hb.2.2 s hs c hc
  ·exact(h2 s hs c hc).2
 ·rw [aH]
  refine⟨fun k hk2=>?_,?_⟩
  ·obtain⟨t,ht,rfl⟩:=List.mem_map.1 hk2
   rcases List.mem_append.1 ht with ht | ht
   ·rcases List.mem_append.1 ht with ht | ht
    ·exact hk.1 _ (List.mem_map_of_mem (List.mem_append_left _ ht))
    ·exact hw.1 _ (List.mem_map_of_mem ht)
   ·exact hk.1 _ (List.mem_map_of_mem (List.mem_append_right _ ht))
  ·unfold bF
   rw [List.pairwise_map,List.pairwise_append,List.pairwise_append]
   refine⟨⟨hkr.1,hwr,fun a ha s hs=>(h1 a ha s hs).1⟩,hkr.2.1,fun s hs c hc=>?_⟩
   rcases List.mem_append.1 hs with hs | hs
   ·exact hkr.2.2 s hs c hc
   ·exact(h2 s hs c hc).1
 ·rw [List.flatMap_append,List.flatMap_append,List.nodup_append,List.nodup_append]
  refine⟨⟨hnd.1,W.nd,fun x hx y hy e=>?_⟩,hnd.2.1,fun x hx y hy e=>?_⟩
  ·subst e;exact h3 x (by rw [List.flatMap_append];exact List.mem_append_left _ hx) hy
  ·subst e
   rcases List.mem_append.1 hx with hx | hx
   ·exact hnd.2.2 x hx x hy rfl
   ·exact h3 x (by rw [List.flatMap_append];exact List.mem_append_right _ hy) hx
theorem qG {L:List Node} {n:Nat} {w:au} {ws:List au} (F:bR L n (w :: ws)) (k:Bytes) (hk:k.length≤32) (hl:¬w.kid.key<k):bR L n (⟨⟨k,w.kid.page⟩,w.low,w.items,w.ids⟩ :: ws):=by
 have h:=(aH _).1 F.ok
 have hr:=h.2
 unfold bF at hr
 rw [List.map_cons,List.pairwise_cons] at hr
 have hb:=List.pairwise_cons.1 F.bd.hi
 refine⟨fun t ht=>?_,⟨fun t ht=>?_,List.pairwise_cons.2 ⟨hb.1,hb.2⟩⟩,?_,F.nd⟩
 ·rcases List.mem_cons.1 ht with rfl | ht
  ·exact F.sub w (by simp)
  ·exact F.sub t (by simp [ht])
 ·rcases List.mem_cons.1 ht with rfl | ht
  ·exact not_lt_trans hl (F.bd.lo w (by simp))
  ·exact F.bd.lo t (by simp [ht])
 ·rw [aH]
  refine⟨fun x hx=>?_,?_⟩
  ·rw [List.map_cons] at hx
   rcases List.mem_cons.1 hx with rfl | hx
   ·have g:fF w.kid=true:=h.1 _ (by simp)
    show fF ⟨k,w.kid.page⟩=true
    simp only [fF,decide_eq_true_eq] at g ⊢
    exact⟨by omega,g.2⟩
   ·exact h.1 x (by rw [List.map_cons];exact List.mem_cons_of_mem _ hx)
  ·unfold bF
   rw [List.map_cons,List.pairwise_cons]
   refine⟨fun x hx=>?_,hr.2⟩
   have:=hr.1 x hx
   show k<Keyed.key x
   apply Classical.byContradiction
   intro q
   exact q (Classical.byContradiction fun q=>hl (bT this q))
theorem dL.same {p p':aW} {ids vE a a1:List Int} {f g:Nat} (M:dL p a p' a1 f) (h:∀j,j∈ids↔j∈a) (h1:∀j,j∈vE↔j∈a1) (hf:p'.L.length≤p.L.length+g):dL p ids p' vE g:=by
 refine⟨fun j hj=>?_,fun j hj q=>M.other j hj (q.imp (fun q=>fun k=>q ((h j).2 k)) id),M.grow,hf,?_,fun q=>M.twice fun j hj=>q j ((h j).2 hj),M.mine,M.bad,M.stop,fun j ha hb=>(h1 j).2 (M.all j ha hb)⟩
 ·rw [h j];exact M.new j ((h1 j).1 hj)
 ·obtain⟨gs,h2,h3,h4⟩:=M.gone
  exact⟨gs,h2,fun j=>by rw [h j,h1 j];exact h3 j,h4⟩
theorem dL.frame {p p':aW} {ids vE a a1 c:List Int} {f:Nat} (M:dL p a p' a1 f) (h:∀j,j∈ids↔j∈a∨j∈c) (h1:∀j,j∈vE↔j∈a1∨j∈c) (hd:∀j∈c,j∉a):dL p ids p' vE f:=by
 refine⟨fun j hj=>?_,fun j hj q=>M.other j hj (q.imp (fun q k=>q ((h j).2 (.inl k))) id),M.grow,M.few,?_,fun q=>M.twice fun j hj=>q j ((h j).2 (.inl hj)),M.mine,M.bad,M.stop,fun j ha hb=>(h1 j).2 (.inl (M.all j ha hb))⟩
 ·rw [h j]
  rcases(h1 j).1 hj with q | q
  ·exact(M.new j q).imp .inl id
  ·exact .inl (.inr q)
 ·obtain⟨gs,h2,h3,h4⟩:=M.gone
  refine⟨gs,h2,fun j=>?_,h4⟩
  rw [h3,h j,h1 j]
  constructor
  ·rintro⟨q1,q2⟩;exact⟨.inl q1,fun q=>q.elim q2 fun q=>hd j q q1⟩
  ·rintro⟨q1,q2⟩;exact⟨q1.resolve_right fun q=>q2 (.inr q),fun q=>q2 (.inl q)⟩
theorem dL.andthen {p p1 p2:aW} {ids vE qc pages:List Int} {x:Int} {f g:Nat} (M:dL p ids p1 vE f) (K:dL p1 [x] p2 pages g) (hx:x∈ids) (hx1:x∈vE)
 (h2:∀j,j∈qc↔j∈pages∨(j∈vE∧j≠x)) (ht:∀j∈ids,j<(p.L.length+2:Nat)):dL p ids p2 qc (f+g):=by
 have hg:=M.grow
 have u6:=K.grow
 refine⟨fun j hj=>?_,fun j hj q=>?_,Nat.le_trans hg u6,by have:=M.few;have:=K.few;omega,?_,fun q=>?_,K.mine.trans M.mine,K.bad.trans M.bad,K.stop.trans M.stop,fun j ha hb=>(h2 j).2 ((Int.lt_or_le j ((p1.L.length+2:Nat):Int)).elim (fun q=>.inr ⟨M.all j ha q,fun e=>by subst e;have:=ht j hx;omega⟩) fun q=>.inl (K.all j q hb))⟩
 ·rcases(h2 j).1 hj with q | q
  ·rcases K.new j q with q | q
   ·exact .inl (by rw [List.mem_singleton.1 q];exact hx)
   ·exact .inr (by omega)
  ·exact M.new j q.1
 ·refine(K.other j (by omega) ?_).trans (M.other j hj q)
  rcases q with q | q
  ·exact .inl fun e=>q (by rw [List.mem_singleton.1 e];exact hx)
  ·exact .inr (by rw [wG M.mine hg hj];exact q)
 ·obtain⟨gs,q1,q2,q3⟩:=M.gone
  obtain⟨ks,r1,r2,r3⟩:=K.gone
  have hks:∀j∈ks,j=x:=fun j hj=>by simpa using ((r2 j).1 hj).1
  refine⟨gs++ks,by rw [r1,q1,List.append_assoc],fun j=>?_,?_⟩
  ·rw [List.mem_append]
   constructor
   ·rintro(hj | hj)
    ·obtain⟨e1,e2⟩:=(q2 j).1 hj
     refine⟨e1,fun q=>?_⟩
     rcases(h2 j).1 q with q | q
     ·rcases K.new j q with q | q
      ·rw [List.mem_singleton.1 q] at e2;exact e2 hx1
      ·have:=ht j e1;omega
     ·exact e2 q.1
    ·obtain rfl:=hks j hj
     refine⟨hx,fun q=>?_⟩
     rcases(h2 _).1 q with q | q
     ·exact((r2 _).1 hj).2 q
     ·exact q.2 rfl
   ·rintro⟨e1,e2⟩
    by_cases hj:j∈vE
    ·by_cases e:j=x
     ·subst e
      exact .inr ((r2 _).2 ⟨by simp,fun q=>e2 ((h2 _).2 (.inl q))⟩)
     ·exact absurd ((h2 j).2 (.inr ⟨hj,e⟩)) e2
    ·exact .inl ((q2 j).2 ⟨e1,hj⟩)
  ·rw [List.nodup_append]
   refine⟨q3,r3,fun a ha b hb e=>?_⟩
   subst e
   rw [hks a hb] at ha
   exact((q2 x).1 ha).2 hx1
 ·refine(K.twice fun j hj=>?_).trans (M.twice q)
  obtain⟨gs,q1,q2,q3⟩:=M.gone
  rw [List.mem_singleton.1 hj,q1,List.mem_append]
  rintro(e | e)
  ·exact q x hx e
  ·exact((q2 x).1 e).2 hx1
theorem Du (p:aW) (x:Int):dL p [x] (fV p x) [] 0:=by
 refine⟨fun j hj=>(by cases hj),fun _ _ _=>rfl,Nat.le_refl _,Nat.le_refl _,⟨[x],rfl,fun j=>by simp,by simp⟩,fun q=>?_,rfl,rfl,rfl,fun _ h1 h2=>absurd h1 (by have e:(fV p x).L=p.L:=rfl;rw [e] at h2;omega)⟩
 show (p.twice || _)=_
 rw [any_false (q x (by simp)),Bool.or_false]
theorem IE (A B C:List Item) (k:Bytes) (hA:∀a∈A,a.key<k) (hC:∀c∈C,k<c.key):bU (A++B++C) k=if (bU B k).2=true then (A++(bU B k).1++C,true) else (A++B++C,false):=by
 have fA:∀x∈A,(fun x:Item=>decide (Keyed.key x<k)) x=true:=fun x hx=>decide_eq_true (hA x hx)
 have fC:∀x∈C,(fun x:Item=>decide (Keyed.key x<k)) x=false:=fun x hx=>decide_eq_false (List.lt_asymm (hC x hx))
 have e1:ahead (A++B++C) k=A++ahead B k:=by
  unfold ahead
  rw [qF _ _ _ fC,sG _ _ _ fA]
 have e2:behind (A++B++C) k=behind B k++C:=by
  unfold behind
  rw [lY _ _ _ fC,mR _ _ _ fA]
 unfold bU
 rw [e1,e2]
 cases hb:behind B k with
 | nil=>
  cases C with
  | nil=>simp
  | cons c C=>
   have:c.key≠k:=fun q=>by have:=hC c (by simp);rw [q] at this;exact List.lt_irrefl _ this
   simp [this]
 | cons x r=>
  by_cases hx:x.key=k
  ·simp [hx]
  ·simp [hx]
theorem rG (l:List Item) (k:Bytes):(bU l k).1.Sublist l:=by
 unfold bU
 cases hb:behind l k with
 | nil=>exact List.Sublist.refl _
 | cons x r=>
  simp only
  split
  ·have:=bZ l k
   rw [hb] at this
   conv=>rhs;rw [←this]
   exact(List.sublist_cons_self x r).append_left _
  ·exact List.Sublist.refl _
structure Rest where
 kids:List Kid
 thin:Bool
 found:Bool
def setHead (k:Bytes):List Kid→List Kid
 | []=>[]
 | x :: l=>⟨k,x.page⟩ :: l
def sF (p:aW) (kids:List Kid) (at_:Nat) (one:Kid) (depth:Int):xI (List Kid):=
 if kids.length<2 then (.error 25,p) else
  match kids[if at_=0 then 1 else at_-1]?,kids[at_-1]? with
  | some kb,some kl=>match uI p kb.page depth with
   |(.error e,p)=>(.error e,p)
   |(.ok (.leaf _),p)=>(.error 25,p)
   |(.ok (.cZ ks),p)=>
    match eP p kb.page (if at_=0 then one :: setHead kb.key ks else ks++[one]) with
    |(.error e,p)=>(.error e,p)
    |(.ok w,p)=>(.ok (kids.take (at_-1)++setHead kl.key w++kids.drop (at_-1+2)),p)
   |(.ok (.over _),p)=>(.error 25,p)
  | _,_=>(.error 0,p)
def qy:Nat→aW→Int→Bytes→Int→xI Rest
 | 0,p,_,_,_=>(.error 25,p)
 | f+1,p,id,key,depth=>
  match uI p id depth with
  |(.error e,p)=>(.error e,p)
  |(.ok (.leaf l),p)=>
   if (bU l key).2=true then match jl p id (bU l key).1 with
    |(.error e,p)=>(.error e,p)
    |(.ok w,p)=>(.ok ⟨w,false,true⟩,p)
   else (.ok ⟨[],false,false⟩,p)
  |(.ok (.cZ kids),p)=>
   match kids[eH kids key]? with
   | none=>(.error 0,p)
   | some k=>match qy f p k.page key (depth+1) with
    |(.error e,p)=>(.error e,p)
    |(.ok r,p)=>
     if r.found=true then
      match (if r.thin=true then (match r.kids with
       | one :: _=>sF p kids (eH kids key) ⟨k.key,one.page⟩ (depth+1)
       | []=>(.error 0,p)) else (.ok (fO kids (eH kids key) (setHead k.key r.kids)),p):xI (List Kid)) with
      |(.error e,p)=>(.error e,p)
      |(.ok l,p)=>if l.length=1 then (.ok ⟨l,true,true⟩,fV p id)
       else match eP p id l with
        |(.error e,p)=>(.error e,p)
        |(.ok w,p)=>(.ok ⟨w,false,true⟩,p)
     else (.ok ⟨[],false,false⟩,p)
  |(.ok (.over _),p)=>(.error 25,p)
def jk (p:aW) (root:Int) (key:Bytes):xI (Int×Bool):=
 if root=0 then (.ok (0,false),p) else
  match qy 13 p root key 1 with
  |(.error e,p)=>(.error e,p)
  |(.ok r,p)=>if r.found=true then
   match sw 20 p r.kids with
   |(.error e,p)=>(.error e,p)
   |(.ok id,p)=>(.ok (id,true),p)
   else (.ok (root,false),p)
theorem BF {L:List Node} {n:Nat} {ts:List au} (F:bR L n ts) {t:au} (h:t∈ts):t.kid.key.length≤32:=by
 have:fF t.kid=true:=((aH _).1 F.ok).1 _ (List.mem_map_of_mem h)
 simp only [fF,decide_eq_true_eq] at this
 omega
theorem size_map (l:List Kid) {ts:List au} {L:List Node} {n:Nat} (F:bR L n ts) (h:l=ts.map au.kid):aT l≤1+36 * ts.length:=by
 have:=gW l fun y hy=>(dY (((aH _).1 F.ok).1 y (h▸hy))).2
 rw [h,List.length_map] at this
 rwa [h]
theorem Ak (p:aW) (m:Nat) (x:Int) (b2:Bytes) (BG:List Item) (qc:List Int) (T:Tree p.L (m+1) x b2 BG qc) (o:au) (O:bR p.L m [o]) (left:Bool) (k2:Bytes) (hk2:k2.length≤32) (hb2:¬b2<k2)
 (hsep:∀j∈o.ids,j∉qc)
 (Kz:if left=true then o.kid.key<k2∧∀i∈o.items,i.key<k2 else ∀i∈BG,i.key<o.kid.key)
 (hL:p.L.length+2≤3998) :
 ∃ks us p' pages,nodeAt p.L x=some (.cZ ks)∧eP p x (if left=true then o.kid :: setHead k2 ks else ks++[o.kid])=(.ok (us.map au.kid),p')∧bR p'.L (m+1) us∧
  us.flatMap au.items=(if left=true then o.items++BG else BG++o.items)∧us.length≤2∧us≠[]∧dL p [x] p' pages 2∧p'.L.length≤p.L.length+us.length∧
  (∀j,j∈us.flatMap au.ids↔j∈pages∨(j∈qc∧j≠x)∨j∈o.ids)∧∀b':Bytes,¬o.kid.key<b'→¬(if left=true then k2 else b2)<b'→∀u∈us,¬u.kid.key<b':=by
 have hxt:=T.there _ T.self
 cases T with
 | cZ _ _ ts h two ok sub bd nd=>
  rw [List.nodup_cons] at nd
  have F:bR p.L m ts:=⟨sub,bd,ok.1,nd.2⟩
  have ho:x∉o.ids:=fun q=>hsep x q (by simp)
  have hsz:=ok.2.1
  have OE:∀j∈o.ids,j∉ts.flatMap au.ids:=fun j hj q=>hsep j hj (List.mem_cons_of_mem _ q)
  obtain⟨t0,tr,rfl⟩:=List.exists_cons_of_ne_nil (l:=ts) (by intro q;subst q;simp at two)
  have hb0:hd ((t0 :: tr).map au.kid)=t0.kid.key:=rfl
  rw [hb0] at hb2
  cases left with
  | true=>
   simp only [if_true] at Kz ⊢
   have F1:=qG F k2 hk2 hb2
   generalize ht1:(⟨⟨k2,t0.kid.page⟩,t0.low,t0.items,t0.ids⟩:au)=t1 at F1
   have hmid:=tJ (A:=[o]) (C:=[]) (w:=t1 :: tr) (by simpa using O) F1 (fun a ha s hs=>by
    rw [List.mem_singleton.1 ha]
    have hs1:¬s.kid.key<k2:=by
     rcases List.mem_cons.1 hs with rfl | hs
     ·rw [←ht1];exact List.lt_irrefl _
     ·have hr:=((aH _).1 F1.ok).2
      unfold bF at hr
      rw [List.map_cons,List.pairwise_cons] at hr
      have:=hr.1 s.kid (List.mem_map_of_mem hs)
      rw [←ht1] at this
      exact List.lt_asymm this
    exact⟨bT Kz.1 hs1,fun i hi=>bT (Kz.2 i hi) hs1⟩) (fun s _ c hc=>by cases hc) (fun j hj q=>by
     refine OE j (by simpa using hj) ?_
     rw [←ht1] at q
     simpa using q)
   rw [List.append_nil] at hmid
   have PU:aT (([o]++t1 :: tr).map au.kid)≤392:=by
    have c1:=(dY (((aH _).1 hmid.ok).1 o.kid (by simp))).2
    have c2:=(dY (((aH _).1 hmid.ok).1 t1.kid (by simp))).2
    rw [List.map_cons,bC] at hsz
    rw [List.cons_append,List.nil_append,List.map_cons,List.map_cons,bC,bC]
    omega
   obtain⟨us,p',pages,k1,k2',k3,k4,k5,K,k7,k8,k9⟩:=rR p x m _ hmid (by simp) PU hL hxt.2 (by
    intro q
    rw [List.flatMap_append,List.mem_append] at q
    rcases q with q | q
    ·exact ho (by simpa using q)
    ·refine nd.1 ?_
     rw [←ht1] at q
     simpa using q)
   have hns:((bY (([o]++t1 :: tr).map au.kid)).map Node.cZ).length≤2:=by rw [←K.len,k7];exact k4
   refine⟨_,us,p',pages,h,?_,k2',?_,k4,k5,K.moved (by omega) 2 hns,?_,fun j=>?_,fun b' RI hkb u hu=>?_⟩
   ·rw [←ht1] at k1;simpa [setHead] using k1
   ·rw [k3,←ht1];simp
   ·have:=K.few;rw [←K.len,k7] at this;exact this
   ·rw [k8,←ht1]
    have hx:j∈(t0 :: tr).flatMap au.ids→j≠x:=fun q e=>nd.1 (e▸q)
    simp only [List.mem_cons,List.flatMap_append,List.flatMap_cons,List.flatMap_nil,List.append_nil,List.mem_append] at hx ⊢
    constructor
    ·rintro(q | q | q)
     ·exact .inl q
     ·exact .inr (.inr q)
     ·exact .inr (.inl ⟨.inr q,hx q⟩)
    ·rintro(q |⟨q,r⟩ | q)
     ·exact .inl q
     ·exact .inr (.inr (q.resolve_left r))
     ·exact .inr (.inl q)
   ·obtain⟨s,hs,es⟩:=k9 u hu
    rw [←es]
    rcases List.mem_append.1 hs with hs | hs
    ·rw [List.mem_singleton.1 hs];exact RI
    ·rcases List.mem_cons.1 hs with rfl | hs
     ·rw [←ht1];exact hkb
     ·have hr:=((aH _).1 F1.ok).2
      unfold bF at hr
      rw [List.map_cons,List.pairwise_cons] at hr
      have:=hr.1 s.kid (List.mem_map_of_mem hs)
      rw [←ht1] at this
      exact not_lt_trans hkb (List.lt_asymm this)
  | false=>
   simp only [Bool.false_eq_true,if_false] at Kz ⊢
   have hmid:=tJ (A:=t0 :: tr) (C:=[]) (w:=[o]) (by simpa using F) O (fun a ha s hs=>by
    rw [List.mem_singleton.1 hs]
    have hi:∀i∈a.items,i.key<o.kid.key:=fun i hi=>Kz i (List.mem_flatMap.2 ⟨a,ha,hi⟩)
    refine⟨?_,hi⟩
    obtain⟨i,hi2⟩:=List.exists_mem_of_ne_nil _ (F.sub a ha).ne
    have h1:=not_lt_trans (F.bd.lo a ha) ((F.sub a ha).tH i hi2)
    apply Classical.byContradiction
    intro q
    exact h1 (bT (hi i hi2) q)) (fun s _ c hc=>by cases hc) (fun j hj q=>OE j (by simpa using q) (by simpa using hj))
   rw [List.append_nil] at hmid
   have PU:aT ((t0 :: tr++[o]).map au.kid)≤392:=by
    have c1:=(dY (((aH _).1 O.ok).1 o.kid (by simp))).2
    have:=dn ((t0 :: tr).map au.kid) [o.kid]
    rw [bC] at this
    have e:aT ([]:List Kid)=1:=rfl
    rw [List.map_append]
    show aT ((t0 :: tr).map au.kid++[o.kid])≤392
    change Keyed.cost o.kid≤36 at c1
    omega
   obtain⟨us,p',pages,k1,k2',k3,k4,k5,K,k7,k8,k9⟩:=rR p x m _ hmid (by simp) PU hL hxt.2 (by
    intro q
    rw [List.flatMap_append,List.mem_append] at q
    rcases q with q | q
    ·exact nd.1 q
    ·exact ho (by simpa using q))
   have hns:((bY ((t0 :: tr++[o]).map au.kid)).map Node.cZ).length≤2:=by rw [←K.len,k7];exact k4
   refine⟨_,us,p',pages,h,?_,k2',?_,k4,k5,K.moved (by omega) 2 hns,?_,fun j=>?_,fun b' RI hkb u hu=>?_⟩
   ·simpa using k1
   ·rw [k3];simp
   ·have:=K.few;rw [←K.len,k7] at this;exact this
   ·rw [k8]
    have hx:j∈(t0 :: tr).flatMap au.ids→j≠x:=fun q e=>nd.1 (e▸q)
    rw [List.flatMap_append,List.mem_append,List.mem_cons]
    have e:∀j,j∈[o].flatMap au.ids↔j∈o.ids:=fun j=>by simp
    rw [e]
    constructor
    ·rintro(q | q | q)
     ·exact .inl q
     ·exact .inr (.inl ⟨.inr q,hx q⟩)
     ·exact .inr (.inr q)
    ·rintro(q |⟨q,r⟩ | q)
     ·exact .inl q
     ·exact .inr (.inl (q.resolve_left r))
     ·exact .inr (.inr q)
   ·obtain⟨s,hs,es⟩:=k9 u hu
    rw [←es]
    rcases List.mem_append.1 hs with hs | hs
    ·exact not_lt_trans hkb (yI ((aH _).1 ok.1).2 s.kid (List.mem_map_of_mem hs))
    ·rw [List.mem_singleton.1 hs];exact RI
theorem zC {L:List Node} {n:Nat} {ts:List au} (F:bR L n ts) {s:au} (hs:s∈ts) {k:Bytes} (h:∀i∈s.items,i.key<k):s.kid.key<k:=by
 obtain⟨i,hi⟩:=List.exists_mem_of_ne_nil _ (F.sub s hs).ne
 have h1:=not_lt_trans (F.bd.lo s hs) ((F.sub s hs).tH i hi)
 apply Classical.byContradiction
 intro q
 exact h1 (bT (h i hi) q)
theorem BH {L L':List Node} {n:Nat} {A ys C us:List au} {y:au} (F:bR L n (A++y :: ys++C)) (W:bR L' n us) (hsame:∀j∈(A++C).flatMap au.ids,nodeAt L' j=nodeAt L j)
 (hit:∀i∈us.flatMap au.items,i∈(y :: ys).flatMap au.items) (hkey:∀u∈us,¬u.kid.key<y.kid.key) (gP:∀j∈(A++C).flatMap au.ids,j∉us.flatMap au.ids) :
 ∃us',us'.map au.kid=setHead y.kid.key (us.map au.kid)∧bR L' n (A++us'++C)∧us'.flatMap au.items=us.flatMap au.items∧us'.flatMap au.ids=us.flatMap au.ids∧us'.length=us.length∧∀u∈us',¬u.kid.key<y.kid.key:=by
 have RB:(A++C).Sublist (A++y :: ys++C):=by
  rw [List.append_assoc]
  exact(List.sublist_append_right _ _).append_left _
 have V3:=(F.less RB).keep hsame
 cases us with
 | nil=>exact⟨[],rfl,by rw [List.append_nil];exact V3,rfl,rfl,rfl,fun u hu=>by cases hu⟩
 | cons u0 us=>
  have hky:=BF F (t:=y) (by simp)
  have F1:=qG W y.kid.key hky (hkey u0 (by simp))
  refine⟨⟨⟨y.kid.key,u0.kid.page⟩,u0.low,u0.items,u0.ids⟩ :: us,rfl,?_,by simp,by simp,by simp,fun u hu=>?_⟩
  ·have hk2:∀s∈(⟨⟨y.kid.key,u0.kid.page⟩,u0.low,u0.items,u0.ids⟩ :: us:List au),¬s.kid.key<y.kid.key:=by
    intro s hs
    rcases List.mem_cons.1 hs with rfl | hs
    ·exact List.lt_irrefl _
    ·exact hkey s (by simp [hs])
   have hhi:=F.bd.hi
   have iT:=((aH _).1 F.ok).2
   unfold bF at iT
   rw [List.pairwise_map,List.append_assoc,List.pairwise_append] at iT
   rw [List.append_assoc,List.pairwise_append] at hhi
   refine tJ V3 F1 (fun a ha s hs=>?_) (fun s hs c hc=>?_) (fun j hj q=>gP j hj (by simpa using q))
   ·have q1:a.kid.key<y.kid.key:=iT.2.2 a ha y (by simp)
    exact⟨bT q1 (hk2 s hs),fun i hi=>bT (hhi.2.2 a ha y (by simp) i hi) (hk2 s hs)⟩
   ·have q:∀i∈s.items,i.key<c.kid.key:=fun i hi=>by
     have hm:i∈(u0 :: us).flatMap au.items:=by
      rcases List.mem_cons.1 hs with rfl | hs
      ·simp only [List.flatMap_cons,List.mem_append];exact .inl hi
      ·exact List.mem_flatMap.2 ⟨s,by simp [hs],hi⟩
     obtain⟨t,ht,hi2⟩:=List.mem_flatMap.1 (hit i hm)
     have:=hhi.2.1
     rw [List.pairwise_append] at this
     exact this.2.2 t ht c hc i hi2
    exact⟨zC F1 hs q,q⟩
  ·rcases List.mem_cons.1 hu with rfl | hu
   ·exact List.lt_irrefl _
   ·exact hkey u (by simp [hu])
theorem tK {A C:List au} {t:au} {j:Int}:j∈(A++t :: C).flatMap au.ids↔j∈t.ids∨j∈(A++C).flatMap au.ids:=by
 simp only [List.flatMap_append,List.flatMap_cons,List.mem_append]
 constructor
 ·rintro(q | q | q)
  ·exact .inr (.inl q)
  ·exact .inl q
  ·exact .inr (.inr q)
 ·rintro(q | q | q)
  ·exact .inr (.inl q)
  ·exact .inl q
  ·exact .inr (.inr q)
theorem BI {A C:List au} {t:au} (nd:((A++t :: C).flatMap au.ids).Nodup):∀j∈(A++C).flatMap au.ids,j∉t.ids:=by
 intro j hj q
 rw [List.flatMap_append,List.flatMap_cons,List.nodup_append,List.nodup_append] at nd
 rw [List.flatMap_append] at hj
 rcases List.mem_append.1 hj with hj | hj
 ·exact nd.2.2 j hj j (List.mem_append_left _ q) rfl
 ·exact nd.2.1.2.2 j q j hj rfl
theorem yP {L:List Node} {n:Nat} {A ys C:List au} {y:au} (F:bR L n (A++y :: ys++C)) {us':List au} (hu:∀u∈us',¬u.kid.key<y.kid.key) (b':Bytes) (hb:¬hd ((A++y :: ys++C).map au.kid)<b'):∀s∈A++us'++C,¬s.kid.key<b':=by
 have hall:∀s∈A++y :: ys++C,¬s.kid.key<b':=fun s hs=>not_lt_trans hb (yI ((aH _).1 F.ok).2 s.kid (List.mem_map_of_mem hs))
 intro s hs
 rcases List.mem_append.1 hs with hs | hs
 ·rcases List.mem_append.1 hs with hs | hs
  ·exact hall s (by simp [hs])
  ·exact not_lt_trans (hall y (by simp)) (hu s hs)
 ·exact hall s (by simp [hs])
theorem IG {p p1:aW} {n:Nat} {A C w:List au} {t:au} {few:Nat} (F:bR p.L n (A++t :: C)) (hsz:aT ((A++t :: C).map au.kid)≤232) (M:dL p t.ids p1 (w.flatMap au.ids) few) (W:bR p1.L n w) (hw:w.length≤2)
 (hit:∀i∈w.flatMap au.items,i∈t.items) (hkey:∀b':Bytes,¬t.low<b'→∀s∈w,¬s.kid.key<b') :
 ∃ls,fO ((A++t :: C).map au.kid) A.length (setHead t.kid.key (w.map au.kid))=ls.map au.kid∧bR p1.L n ls∧ls.flatMap au.items=A.flatMap au.items++w.flatMap au.items++C.flatMap au.items∧
  (∀j,j∈ls.flatMap au.ids↔j∈(A++C).flatMap au.ids∨j∈w.flatMap au.ids)∧ls.length+1=(A++t :: C).length+w.length∧(∀b':Bytes,¬hd ((A++t :: C).map au.kid)<b'→∀s∈ls,¬s.kid.key<b')∧aT (ls.map au.kid)≤392:=by
 have hsep:=BI F.nd
 have dP:∀j∈(A++C).flatMap au.ids,j<(p.L.length+2:Nat):=fun j hj=>by
  obtain⟨s,hs,hj⟩:=List.mem_flatMap.1 hj
  refine((F.sub s ?_).there j hj).2
  rcases List.mem_append.1 hs with hs | hs
  ·simp [hs]
  ·simp [hs]
 have e0:A++t :: C=A++t :: []++C:=by simp
 obtain⟨us',h1,h2,h3,h4,h5,h6⟩:=BH (A:=A) (y:=t) (ys:=[]) (C:=C) (us:=w) (by rw [←e0];exact F) W (fun j hj=>M.other j (dP j hj) (.inl (hsep j hj))) (fun i hi=>by simpa using hit i hi) (fun u hu=>hkey _ (F.bd.lo t (by simp)) u hu)
  (fun j hj q=>by
   rcases M.new j q with q | q
   ·exact hsep j hj q
   ·have:=dP j hj;omega)
 refine⟨A++us'++C,?_,h2,by rw [List.flatMap_append,List.flatMap_append,h3],fun j=>?_,?_,?_,?_⟩
 ·unfold fO
  have q1:((A++t :: C).map au.kid).take A.length=A.map au.kid:=by
   rw [List.map_append]
   have:=List.take_left (l₁:=A.map au.kid) (l₂:=(t :: C).map au.kid)
   rwa [List.length_map] at this
  have q2:((A++t :: C).map au.kid).drop (A.length+1)=C.map au.kid:=by
   have:=List.drop_left (l₁:=(A++[t]).map au.kid) (l₂:=C.map au.kid)
   simpa using this
  rw [q1,q2,←h1,List.map_append,List.map_append]
 ·rw [←h4]
  simp only [List.flatMap_append,List.mem_append]
  constructor
  ·rintro((q | q) | q)
   ·exact .inl (.inl q)
   ·exact .inr q
   ·exact .inl (.inr q)
  ·rintro((q | q) | q)
   ·exact .inl (.inl q)
   ·exact .inr q
   ·exact .inl (.inr q)
 ·simp only [List.length_append,List.length_cons,h5];omega
 ·intro b' hb
  exact yP (by rw [←e0];exact F) h6 b' (by rw [←e0];exact hb)
 ·have q1:=dn (A.map au.kid++us'.map au.kid) (C.map au.kid)
  have q2:=dn (A.map au.kid) (us'.map au.kid)
  have q3:=dn (A.map au.kid) (t.kid :: C.map au.kid)
  have q4:=size_map _ (h2.less (us:=us') (by rw [List.append_assoc];exact(List.sublist_append_left _ _).trans (List.sublist_append_right _ _))) rfl
  rw [List.map_append,List.map_cons] at hsz
  rw [bC t.kid] at q3
  rw [List.map_append,List.map_append]
  have q6:=gQ (C.map au.kid)
  omega
theorem join_step {p p1:aW} {m:Nat} {A C:List au} {t o:au} {few:Nat} {depth:Int} (F:bR p.L (m+1) (A++t :: C)) (h2:2≤(A++t :: C).length) (hsz:aT ((A++t :: C).map au.kid)≤232) (M:dL p t.ids p1 o.ids few) (O:bR p1.L m [o])
 (hit:∀i∈o.items,i∈t.items) (hkey:∀b':Bytes,¬t.low<b'→¬o.kid.key<b') (RJ:depth≤12) (hs:p1.stop<0) (hL:p1.L.length+2≤3998) :
 ∃ls p2 pages x,sF p1 ((A++t :: C).map au.kid) A.length ⟨t.kid.key,o.kid.page⟩ depth=(.ok (ls.map au.kid),p2)∧bR p2.L (m+1) ls∧ls.flatMap au.items=A.flatMap au.items++o.items++C.flatMap au.items∧ls≠[]∧
  dL p1 [x] p2 pages 2∧x∈(A++C).flatMap au.ids∧(∀j,j∈ls.flatMap au.ids↔j∈pages∨(j∈(A++C).flatMap au.ids∧j≠x)∨j∈o.ids)∧(ls.length=1→p2.L.length≤p1.L.length+1)∧
  (∀b':Bytes,¬hd ((A++t :: C).map au.kid)<b'→∀s∈ls,¬s.kid.key<b')∧aT (ls.map au.kid)≤392:=by
 have hsep:=BI F.nd
 have dP:∀j∈(A++C).flatMap au.ids,j<(p.L.length+2:Nat):=fun j hj=>by
  obtain⟨s,hs,hj⟩:=List.mem_flatMap.1 hj
  refine((F.sub s ?_).there j hj).2
  rcases List.mem_append.1 hs with hs | hs
  ·simp [hs]
  ·simp [hs]
 have hsame:∀j∈(A++C).flatMap au.ids,nodeAt p1.L j=nodeAt p.L j:=fun j hj=>M.other j (dP j hj) (.inl (hsep j hj))
 have Gy:∀j∈o.ids,j∉(A++C).flatMap au.ids:=fun j hj q=>by
  rcases M.new j hj with e | e
  ·exact hsep j q e
  ·have:=dP j q;omega
 have htk:=BF F (t:=t) (by simp)
 have V4:=qG (ws:=[]) O t.kid.key htk (hkey _ (F.bd.lo t (by simp)))
 have iT:=((aH _).1 F.ok).2
 have hhi:=F.bd.hi
 unfold bF at iT
 rw [List.pairwise_map] at iT
 have hlen:¬((A++t :: C).map au.kid).length<2:=by rw [List.length_map];omega
 rcases List.eq_nil_or_concat A with rfl |⟨A',a,rfl⟩
 ·-- the one behind
  obtain⟨c,C',rfl⟩:=List.exists_cons_of_ne_nil (l:=C) (by intro q;subst q;simp at h2)
  simp only [List.nil_append] at *
  have OB:Tree p1.L (m+1) c.kid.page c.low c.items c.ids:=(F.sub c (by simp)).keep fun j hj=>hsame j (by simp [hj])
  rw [List.pairwise_cons,List.pairwise_cons] at iT hhi
  obtain⟨ks,us,p2,pages,g1,g2,g3,g4,g5,g6,g7,g8,g9,g10⟩:=Ak p1 m c.kid.page c.low c.items c.ids OB _ V4 true c.kid.key (BF F (by simp)) (F.bd.lo c (by simp)) (fun j hj q=>Gy j hj (by simp [q]))
   (by simp only [if_true];exact⟨iT.1 c (by simp),fun i hi=>hhi.1 c (by simp) i (hit i hi)⟩) hL
  simp only [if_true] at g2 g4 g10
  have KA:∀u∈us,¬u.kid.key<t.kid.key:=g10 _ (List.lt_irrefl _) (List.lt_asymm (iT.1 c (by simp)))
  have hnc:∀j∈C'.flatMap au.ids,j≠c.kid.page∧j∉c.ids:=fun j hj=>by
   have nd:=F.nd
   rw [List.flatMap_cons,List.flatMap_cons,List.nodup_append,List.nodup_append] at nd
   have:j∉c.ids:=fun q=>nd.2.1.2.2 j q j hj rfl
   exact⟨fun e=>this (e▸OB.self),this⟩
  have hg1:=M.grow
  have BJ:∀j∈C'.flatMap au.ids,j∈(c :: C').flatMap au.ids:=fun j hj=>by rw [List.flatMap_cons];exact List.mem_append_right _ hj
  obtain⟨us',k1,k2,k3,k4,k5,k6⟩:=BH (A:=[]) (y:=t) (ys:=[c]) (C:=C') (us:=us) (by simpa using F) g3
   (fun j hj=>(g7.other j (by have:=dP j (BJ j hj);omega) (.inl (by simpa using (hnc j hj).1))).trans (hsame j (BJ j hj)))
   (fun i hi=>by
    rw [g4] at hi
    rcases List.mem_append.1 hi with hi | hi
    ·simp [hit i hi]
    ·simp [hi]) KA
   (fun j hj q=>by
    rcases(g9 j).1 q with q | q | q
    ·rcases g7.new j q with q | q
     ·exact(hnc j hj).1 (by simpa using q)
     ·have:=dP j (BJ j hj);omega
    ·exact(hnc j hj).2 q.1
    ·exact Gy j q (BJ j hj))
  simp only [List.nil_append] at k2
  refine⟨us'++C',p2,pages,c.kid.page,?_,k2,?_,?_,g7,?_,fun j=>?_,fun q=>?_,fun b' hb=>?_,?_⟩
  ·unfold sF
   rw [if_neg hlen]
   simp only [List.length_nil,if_true,List.map_cons,List.getElem?_cons_succ,List.getElem?_cons_zero,Nat.zero_sub]
   rw [iB g1 RJ hs]
   simp only
   rw [g2]
   simp only [List.map_append,k1]
   rfl
  ·rw [List.flatMap_append,k3,g4];simp
  ·intro q
   rw [List.append_eq_nil_iff] at q
   have:=q.1
   subst this
   exact g6 (List.length_eq_zero_iff.1 k5.symm)
  ·rw [List.flatMap_cons];exact List.mem_append_left _ OB.self
  ·rw [List.flatMap_append,k4,List.mem_append,g9,List.flatMap_cons,List.mem_append]
   constructor
   ·rintro((q | q | q) | q)
    ·exact .inl q
    ·exact .inr (.inl ⟨.inl q.1,q.2⟩)
    ·exact .inr (.inr q)
    ·exact .inr (.inl ⟨.inr q,(hnc j q).1⟩)
   ·rintro(q |⟨q | q,r⟩ | q)
    ·exact .inl (.inl q)
    ·exact .inl (.inr (.inl ⟨q,r⟩))
    ·exact .inr q
    ·exact .inl (.inr (.inr q))
  ·rw [List.length_append,k5] at q
   omega
  ·have:=yP (A:=[]) (y:=t) (ys:=[c]) (C:=C') (by simpa using F) k6 b' (by simpa using hb)
   simpa using this
  ·have q4:=size_map _ (k2.less (us:=us') (List.sublist_append_left _ _)) rfl
   have q1:=dn (us'.map au.kid) (C'.map au.kid)
   rw [List.map_cons,List.map_cons,bC,bC] at hsz
   rw [List.map_append]
   omega
 ·-- the one ahead
  rw [List.concat_eq_append] at *
  have hin:∀s∈A'++[a]++C,s∈A'++[a]++t :: C:=fun s hs=>by
   rcases List.mem_append.1 hs with hs | hs
   ·exact List.mem_append_left _ hs
   ·exact List.mem_append_right _ (List.mem_cons_of_mem _ hs)
  have UF:Tree p1.L (m+1) a.kid.page a.low a.items a.ids:=(F.sub a (by simp)).keep fun j hj=>hsame j (by simp [hj])
  rw [List.append_assoc,List.cons_append,List.nil_append,List.pairwise_append,List.pairwise_cons] at iT hhi
  obtain⟨ks,us,p2,pages,g1,g2,g3,g4,g5,g6,g7,g8,g9,g10⟩:=Ak p1 m a.kid.page a.low a.items a.ids UF _ V4 false [] (by simp) (by simp) (fun j hj q=>Gy j hj (by simp [q]))
   (by simp only [Bool.false_eq_true,if_false];exact fun i hi=>hhi.2.1.1 t (by simp) i hi) hL
  simp only [Bool.false_eq_true,if_false] at g2 g4 g10
  have KA:∀u∈us,¬u.kid.key<a.kid.key:=g10 _ (List.lt_asymm (iT.2.1.1 t (by simp))) (F.bd.lo a (by simp))
  have nd:=F.nd
  have hnc:∀j∈(A'++C).flatMap au.ids,j≠a.kid.page∧j∉a.ids:=fun j hj=>by
   have e:A'++[a]++t :: C=A'++a :: (t :: C):=by simp
   rw [e] at nd
   have q:=BI nd j (by
    rw [List.flatMap_append,List.mem_append] at hj ⊢
    exact hj.imp id fun q=>by rw [List.flatMap_cons];exact List.mem_append_right _ q)
   exact⟨fun e=>q (e▸UF.self),q⟩
  have hg1:=M.grow
  have BJ:∀j∈(A'++C).flatMap au.ids,j∈(A'++[a]++C).flatMap au.ids:=fun j hj=>by
   rw [List.append_assoc,List.cons_append,List.nil_append,tK];exact .inr hj
  have e0:A'++[a]++t :: C=A'++a :: [t]++C:=by simp
  obtain⟨us',k1,k2,k3,k4,k5,k6⟩:=BH (A:=A') (y:=a) (ys:=[t]) (C:=C) (us:=us) (by rw [←e0];exact F) g3
   (fun j hj=>(g7.other j (by have:=dP j (BJ j hj);omega) (.inl (by simpa using (hnc j hj).1))).trans (hsame j (BJ j hj)))
   (fun i hi=>by
    rw [g4] at hi
    rcases List.mem_append.1 hi with hi | hi
    ·simp [hi]
    ·simp [hit i hi]) KA
   (fun j hj q=>by
    rcases(g9 j).1 q with q | q | q
    ·rcases g7.new j q with q | q
     ·exact(hnc j hj).1 (by simpa using q)
     ·have:=dP j (BJ j hj);omega
    ·exact(hnc j hj).2 q.1
    ·exact Gy j q (BJ j hj))
  have UG:(A'++[a]).length≠0:=by simp
  have UH:(A'++[a]).length-1=A'.length:=by simp
  refine⟨A'++us'++C,p2,pages,a.kid.page,?_,k2,?_,?_,g7,?_,fun j=>?_,fun q=>?_,fun b' hb=>?_,?_⟩
  ·unfold sF
   rw [if_neg hlen,if_neg UG,UH]
   have q0:((A'++[a]++t :: C).map au.kid)[A'.length]? = some a.kid:=by
    rw [List.getElem?_map,List.append_assoc,List.getElem?_append_right (Nat.le_refl _),Nat.sub_self];rfl
   have q1:((A'++[a]++t :: C).map au.kid).take A'.length=A'.map au.kid:=by
    rw [List.append_assoc,List.map_append]
    have:=List.take_left (l₁:=A'.map au.kid) (l₂:=([a]++t :: C).map au.kid)
    rwa [List.length_map] at this
   have q2:((A'++[a]++t :: C).map au.kid).drop (A'.length+2)=C.map au.kid:=by
    have:=List.drop_left (l₁:=(A'++[a,t]).map au.kid) (l₂:=C.map au.kid)
    simpa using this
   rw [q0]
   simp only
   rw [iB g1 RJ hs]
   simp only
   rw [if_neg UG,g2,q1,q2]
   simp only [List.map_append,k1]
  ·rw [List.flatMap_append,List.flatMap_append,k3,g4];simp
  ·intro q
   rw [List.append_eq_nil_iff,List.append_eq_nil_iff] at q
   have:=q.1.2
   subst this
   exact g6 (List.length_eq_zero_iff.1 k5.symm)
  ·rw [List.append_assoc,List.cons_append,List.nil_append,tK];exact .inl UF.self
  ·have e:∀j,j∈(A'++[a]++C).flatMap au.ids↔j∈a.ids∨j∈(A'++C).flatMap au.ids:=fun j=>by rw [List.append_assoc,List.cons_append,List.nil_append,tK]
   rw [e,List.flatMap_append,List.flatMap_append,k4,List.mem_append,List.mem_append,g9,List.flatMap_append,List.mem_append]
   have Xv:j∈A'.flatMap au.ids→j≠a.kid.page:=fun q=>(hnc j (by rw [List.flatMap_append];exact List.mem_append_left _ q)).1
   have Xw:j∈C.flatMap au.ids→j≠a.kid.page:=fun q=>(hnc j (by rw [List.flatMap_append];exact List.mem_append_right _ q)).1
   constructor
   ·rintro((q | q | q | q) | q)
    ·exact .inr (.inl ⟨.inr (.inl q),Xv q⟩)
    ·exact .inl q
    ·exact .inr (.inl ⟨.inl q.1,q.2⟩)
    ·exact .inr (.inr q)
    ·exact .inr (.inl ⟨.inr (.inr q),Xw q⟩)
   ·rintro(q |⟨q | q | q,r⟩ | q)
    ·exact .inl (.inr (.inl q))
    ·exact .inl (.inr (.inr (.inl ⟨q,r⟩)))
    ·exact .inl (.inl q)
    ·exact .inr q
    ·exact .inl (.inr (.inr (.inr q)))
  ·rw [List.length_append,List.length_append,k5] at q
   have:=List.length_pos_iff.2 g6
   omega
  ·exact yP (by rw [←e0];exact F) k6 b' (by rw [←e0];exact hb)
  ·have q4:=size_map _ (k2.less (us:=us') (by rw [List.append_assoc];exact(List.sublist_append_left _ _).trans (List.sublist_append_right _ _))) rfl
   have q1:=dn (A'.map au.kid++us'.map au.kid) (C.map au.kid)
   have q2:=dn (A'.map au.kid) (us'.map au.kid)
   have q3:=dn (A'.map au.kid) (a.kid :: t.kid :: C.map au.kid)
   have e:(A'++[a]++t :: C).map au.kid=A'.map au.kid++a.kid :: t.kid :: C.map au.kid:=by simp
   rw [e] at hsz
   rw [bC a.kid,bC t.kid] at q3
   rw [List.map_append,List.map_append]
   have q6:=gQ (C.map au.kid)
   omega
theorem Bp (key:Bytes) (n:Nat):∀(p:aW) (id:Int) (b:Bytes) (l:List Item) (ids:List Int) (depth:Int) (f:Nat),Tree p.L n id b l ids→n<f→depth+n≤12→p.stop<0→p.L.length+3+2 * n≤3998→
 ((bU l key).2=false∧qy f p id key depth=(.ok ⟨[],false,false⟩,p))∨
 ((bU l key).2=true∧∃ts p' thin,qy f p id key depth=(.ok ⟨ts.map au.kid,thin,true⟩,p')∧ts.flatMap au.items=(bU l key).1∧dL p ids p' (ts.flatMap au.ids) (1+2 * n)∧
  (∀b':Bytes,¬b<b'→∀s∈ts,¬s.kid.key<b')∧
  ((thin=false∧bR p'.L n ts∧ts.length≤2∧(ts=[]→p'.L.length≤p.L.length))∨(thin=true∧∃m t,n=m+1∧ts=[t]∧bR p'.L m [t]∧p'.L.length+1≤p.L.length+n))):=by
 induction n with
 | zero=>
  intro p id b l ids depth f h hf hdp hs hL
  obtain⟨f,rfl⟩:∃g,f=g+1:=⟨f-1,by omega⟩
  cases h with
  | leaf id l h ne ok=>
   have hid:=cB h
   have hsub:=rG l key
   have hsz:=rH hsub
   have Xt:=ok.2.1
   by_cases Mx:(bU l key).2=true
   ·right
    refine⟨Mx,?_⟩
    obtain⟨ts,p',h1,h2,h3,h4,h5,h6,h7⟩:=pz p id (bU l key).1 (iM ok.1 hsub) (by omega) (by omega) hid.2
    have hc:(gF (bU l key).1).length≤1:=by
     by_cases hne:(bU l key).1=[]
     ·rw [hne,gJ];simp
     ·rw [lg _ hne (by omega) (by have:=hsub.length_le;have:=ok.2.2;omega)];simp
    refine⟨ts,p',false,?_,h3,h5.moved (by omega) _ (by rw [List.length_map];omega),fun b' hb s hs=>?_,.inl ⟨rfl,h2,by omega,fun q=>?_⟩⟩
    ·rw [qy,iB h (by omega) hs]
     simp only
     rw [if_pos Mx,h1]
    ·obtain⟨x,hx,ex⟩:=h6 s hs
     rw [←ex]
     have hx2:x∈(bU l key).1:=by rw [←h3];exact List.mem_flatMap.2 ⟨s,hs,hx⟩
     exact not_lt_trans hb (yI ((aH _).1 ok.1).2 x (hsub.subset hx2))
    ·subst q
     have:=h5.few
     rw [List.length_map,←h7] at this
     exact this
   ·left
    refine⟨by simpa using Mx,?_⟩
    rw [qy,iB h (by omega) hs]
    simp only
    rw [if_neg Mx]
 | succ n ih=>
  intro p id b l ids depth f h hf hdp hs hL
  obtain⟨f,rfl⟩:∃g,f=g+1:=⟨f-1,by omega⟩
  cases h with
  | cZ _ _ ts h two ok sub bd nd=>
   have hid:=cB h
   have iT:=(aH _).1 ok.1
   rw [List.nodup_cons] at nd
   have F:bR p.L n ts:=⟨sub,bd,ok.1,nd.2⟩
   obtain⟨A',x,C',e1,e2,e3,e4⟩:=nH iT.2 (by intro q;rw [List.map_eq_nil_iff] at q;subst q;simp at two) key
   obtain⟨A,r,rfl,rfl,er⟩:=List.map_eq_append_iff.1 e1
   obtain⟨t,C,rfl,rfl,rfl⟩:=List.map_eq_cons_iff.1 er
   have hsep:=BI nd.2
   have Fh:id∉t.ids:=fun q=>nd.1 (List.mem_flatMap.2 ⟨t,by simp,q⟩)
   have Gz:id∉(A++C).flatMap au.ids:=fun q=>nd.1 (tK.2 (.inr q))
   have dP:∀j∈id :: (A++t :: C).flatMap au.ids,j<(p.L.length+2:Nat):=fun j hj=>by
    rcases List.mem_cons.1 hj with rfl | hj
    ·exact hid.2
    ·obtain⟨s,hs,hj⟩:=List.mem_flatMap.1 hj
     exact((sub s hs).there j hj).2
   have hC:∀c∈C,key<c.kid.key:=fun c hc=>e3 _ (List.mem_map_of_mem hc)
   have hA:A=[]∨¬key<t.kid.key:=e4.imp (fun q=>by simpa using q) (fun q=>q)
   have uw:((A++t :: C).map au.kid)[eH ((A++t :: C).map au.kid) key]? = some t.kid:=by
    rw [e2,List.map_append,List.getElem?_append_right (by simp)]
    simp
   have J9:eH ((A++t :: C).map au.kid) key=A.length:=by rw [e2,List.length_map]
   have hdrop:=IE (A.flatMap au.items) t.items (C.flatMap au.items) key (fun x hx=>by
    obtain⟨s,hs,hx⟩:=List.mem_flatMap.1 hx
    have hb:=bd.hi
    rw [List.pairwise_append] at hb
    have h1:=hb.2.2 s hs t (by simp) x hx
    rcases hA with q | q
    ·subst q;cases hs
    ·exact bT h1 q) (fun x hx=>by
    obtain⟨s,hs,hx⟩:=List.mem_flatMap.1 hx
    have h1:=not_lt_trans (bd.lo s (by simp [hs])) ((sub s (by simp [hs])).tH x hx)
    exact bT (hC s hs) h1)
   have ewh:(A++t :: C).flatMap au.items=A.flatMap au.items++t.items++C.flatMap au.items:=by simp
   rw [ewh]
   have hload:uI p id depth=(.ok (.cZ ((A++t :: C).map au.kid)),p):=iB h (by omega) hs
   rcases ih p t.kid.page t.low t.items t.ids (depth+1) f (sub t (by simp)) (by omega) (by omega) hs (by omega) with ⟨i1,i2⟩ |⟨i1,w,p1,thin,i2,i3,M,i5,i6⟩
   ·left
    refine⟨by rw [hdrop,i1];simp,?_⟩
    rw [qy,hload]
    simp only
    rw [uw]
    simp only
    rw [i2]
    simp
   ·right
    have hfound:bU (A.flatMap au.items++t.items++C.flatMap au.items) key=(A.flatMap au.items++(bU t.items key).1++C.flatMap au.items,true):=by rw [hdrop,if_pos i1]
    refine⟨by rw [hfound],?_⟩
    have PV:∀i∈w.flatMap au.items,i∈t.items:=fun i hi=>(rG t.items key).subset (by rw [←i3];exact hi)
    have hs1:p1.stop<0:=by rw [M.stop];exact hs
    have hI:id∈id :: (A++t :: C).flatMap au.ids:=by simp
    have M1:dL p (id :: (A++t :: C).flatMap au.ids) p1 (id :: ((A++C).flatMap au.ids++w.flatMap au.ids)) (1+2 * n):=M.frame (c:=id :: (A++C).flatMap au.ids) (fun j=>by
     rw [List.mem_cons,List.mem_cons,tK]
     constructor
     ·rintro(q | q | q)
      ·exact .inr (.inl q)
      ·exact .inl q
      ·exact .inr (.inr q)
     ·rintro(q | q | q)
      ·exact .inr (.inl q)
      ·exact .inl q
      ·exact .inr (.inr q)) (fun j=>by
     rw [List.mem_cons,List.mem_cons,List.mem_append]
     constructor
     ·rintro(q | q | q)
      ·exact .inr (.inl q)
      ·exact .inr (.inr q)
      ·exact .inl q
     ·rintro(q | q | q)
      ·exact .inr (.inr q)
      ·exact .inl q
      ·exact .inr (.inl q)) (fun j hj=>by
     rcases List.mem_cons.1 hj with rfl | hj
     ·exact Fh
     ·exact hsep j hj)
    have PW:id∉w.flatMap au.ids:=fun q=>by
     rcases M.new id q with q | q
     ·exact Fh q
     ·have:=hid.2;omega
    have OG:∀j∈w.flatMap au.ids,j∉(A++C).flatMap au.ids:=fun j hj q=>by
     rcases M.new j hj with e | e
     ·exact hsep j q e
     ·have:=dP j (List.mem_cons_of_mem _ (tK.2 (.inr q)));omega
    have hg1:=M.grow
    have FIN:∀(ls:List au) (p2:aW) (few:Nat),bR p2.L n ls→ls.flatMap au.items=A.flatMap au.items++(bU t.items key).1++C.flatMap au.items→ls≠[]→aT (ls.map au.kid)≤392→
     dL p (id :: (A++t :: C).flatMap au.ids) p2 (id :: ls.flatMap au.ids) few→id∉ls.flatMap au.ids→p2.L.length≤p.L.length+1+2 * n→(ls.length=1→p2.L.length≤p.L.length+n)→
     (∀b':Bytes,¬hd ((A++t :: C).map au.kid)<b'→∀s∈ls,¬s.kid.key<b')→
     ∃ts p' thin,(if (ls.map au.kid).length=1 then ((.ok ⟨ls.map au.kid,true,true⟩,fV p2 id):xI Rest) else match eP p2 id (ls.map au.kid) with
      |(.error e,p)=>(.error e,p)
      |(.ok w,p)=>(.ok ⟨w,false,true⟩,p))=(.ok ⟨ts.map au.kid,thin,true⟩,p')∧ts.flatMap au.items=A.flatMap au.items++(bU t.items key).1++C.flatMap au.items∧dL p (id :: (A++t :: C).flatMap au.ids) p' (ts.flatMap au.ids) (1+2 * (n+1))∧
      (∀b':Bytes,¬hd ((A++t :: C).map au.kid)<b'→∀s∈ts,¬s.kid.key<b')∧
      ((thin=false∧bR p'.L (n+1) ts∧ts.length≤2∧(ts=[]→p'.L.length≤p.L.length))∨(thin=true∧∃m t,n+1=m+1∧ts=[t]∧bR p'.L m [t]∧p'.L.length+1≤p.L.length+(n+1))):=by
     intro ls p2 few F2 h2 h3 h4 M2 h6 h7 h8 h9
     by_cases hl:ls.length=1
     ·obtain⟨s,rfl⟩:=List.length_eq_one_iff.1 hl
      have M3:=M2.andthen (Du p2 id) hI (by simp) (qc:=[s].flatMap au.ids) (fun j=>by
       constructor
       ·exact fun q=>.inr ⟨List.mem_cons_of_mem _ q,fun e=>h6 (e▸q)⟩
       ·rintro(q |⟨q,r⟩)
        ·cases q
        ·exact(List.mem_cons.1 q).resolve_left r) dP
      have e8:=h8 hl
      refine⟨[s],fV p2 id,true,by rw [if_pos (by simp)],h2,M3.same (fun _=>Iff.rfl) (fun _=>Iff.rfl) (by show p2.L.length≤_;omega),h9,.inr ⟨rfl,n,s,rfl,rfl,F2,by show p2.L.length+1≤_;omega⟩⟩
     ·have hpos:=List.length_pos_iff.2 h3
      obtain⟨us,p3,pages,k1,k2,k3,k4,k5,K,k7,k8,k9⟩:=rR p2 id n ls F2 (by omega) h4 (by omega) (by have:=M2.grow;have:=hid.2;omega) h6
      have hns:((bY (ls.map au.kid)).map Node.cZ).length≤2:=by rw [←K.len,k7];exact k4
      have K2:=K.moved (by omega) 2 hns
      have M3:=M2.andthen K2 hI (by simp) (qc:=us.flatMap au.ids) (fun j=>by
       rw [k8]
       constructor
       ·rintro(q | q)
        ·exact .inl q
        ·exact .inr ⟨List.mem_cons_of_mem _ q,fun e=>h6 (e▸q)⟩
       ·rintro(q |⟨q,r⟩)
        ·exact .inl q
        ·exact .inr ((List.mem_cons.1 q).resolve_left r)) dP
      refine⟨us,p3,false,?_,by rw [k3,h2],M3.same (fun _=>Iff.rfl) (fun _=>Iff.rfl) (by have:=K2.few;omega),fun b' hb u hu=>?_,.inl ⟨rfl,k2,k4,fun q=>absurd q k5⟩⟩
      ·rw [if_neg (by rw [List.length_map];exact hl),k1]
      ·obtain⟨s,hs,es⟩:=k9 u hu
       rw [←es]
       exact h9 b' hb s hs
    rw [qy,hload]
    simp only
    rw [uw]
    simp only
    rw [i2,hfound]
    simp only [if_true]
    rcases i6 with ⟨rfl,W,hw2,V5⟩ |⟨rfl,m,o,rfl,rfl,O,hop⟩
    ·obtain⟨ls,s1,s2,s3,s4,s5,s6,s7⟩:=IG F ok.2.1 M W hw2 PV i5
     rw [J9,s1]
     simp only [Bool.false_eq_true,if_false]
     rw [i3] at s3
     refine FIN ls p1 (1+2 * n) s2 s3 ?_ s7 ?_ ?_ ?_ ?_ s6
     ·intro q;subst q;simp only [List.length_nil,List.length_append,List.length_cons] at s5 two;omega
     ·refine M1.same (fun _=>Iff.rfl) (fun j=>?_) M.few
      rw [List.mem_cons,List.mem_cons,s4,List.mem_append]
     ·intro q
      rcases(s4 id).1 q with q | q
      ·exact Gz q
      ·exact PW q
     ·have:=M.few;omega
     ·intro q
      have:w=[]:=List.length_eq_zero_iff.1 (by omega)
      have:=V5 this
      omega
    ·simp only [List.flatMap_cons,List.flatMap_nil,List.append_nil] at M PV PW OG i3 M1
     have hO:=i5
     obtain⟨ls,p2,pages,x,s1,s2,s3,s4,g7,s6,s7,s8,s9,s10⟩:=join_step (depth:=depth+1) F two ok.2.1 M O PV (fun b' hb=>i5 b' hb o (by simp)) (by omega) hs1 (by omega)
     rw [J9]
     simp only [List.map_cons,List.map_nil]
     rw [s1]
     rw [i3] at s3
     have Xx:x∈id :: (A++t :: C).flatMap au.ids:=List.mem_cons_of_mem _ (tK.2 (.inr s6))
     have M2:=M1.andthen g7 Xx (List.mem_cons_of_mem _ (List.mem_append_left _ s6)) (qc:=id :: ls.flatMap au.ids) (fun j=>by
      rw [List.mem_cons,List.mem_cons,s7,List.mem_append]
      constructor
      ·rintro(q | q | q | q)
       ·exact .inr ⟨.inl q,fun e=>Gz (by rw [←q,e];exact s6)⟩
       ·exact .inl q
       ·exact .inr ⟨.inr (.inl q.1),q.2⟩
       ·exact .inr ⟨.inr (.inr q),fun e=>OG j q (e▸s6)⟩
      ·rintro(q |⟨q | q | q,r⟩)
       ·exact .inr (.inl q)
       ·exact .inl q
       ·exact .inr (.inr (.inl ⟨q,r⟩))
       ·exact .inr (.inr (.inr q))) dP
     have MF:=g7.few
     refine FIN ls p2 _ s2 s3 s4 s10 M2 ?_ (by omega) (fun q=>?_) s9
     ·intro q
      rcases(s7 id).1 q with q | q | q
      ·rcases g7.new id q with q | q
       ·exact Gz (by rw [List.mem_singleton.1 q];exact s6)
       ·have:=hid.2;omega
      ·exact Gz q.1
      ·exact PW q
     ·have:=s8 q;omega
theorem yQ (p:aW) (root:Int) (l:List Item) (ids:List Int) (key:Bytes) (R:bq p.L root l ids) (hs:p.stop<0) (m:Nat) (hm:l.length<2 ^ m) (hm2:m≤11) (hL:p.L.length+4+2 * m≤3998) :
 ((bU l key).2=false∧jk p root key=(.ok (root,false),p))∨
 ((bU l key).2=true∧∃root' p' bE,jk p root key=(.ok (root',true),p')∧bq p'.L root' (bU l key).1 bE∧dL p ids p' bE (2+2 * m)):=by
 unfold jk
 cases R with
 | none=>exact .inl ⟨rfl,by rw [if_pos rfl]⟩
 | some n _ b _ _ h=>
  have hself:=h.there _ h.self
  rw [if_neg (by omega)]
  have lJ:=h.many
  have hn:n<m:=by
   apply Classical.byContradiction
   intro q
   have:=Nat.pow_le_pow_right (n:=2) (by omega) (Nat.le_of_not_lt q)
   omega
  rcases Bp key n p root b l ids 1 13 h (by omega) (by omega) hs (by omega) with ⟨i1,i2⟩ |⟨i1,ts,p1,thin,i2,i3,M,i5,i6⟩
  ·exact .inl ⟨i1,by rw [i2];simp⟩
  ·right
   refine⟨i1,?_⟩
   rw [i2]
   simp only [if_true]
   have hg:=M.grow
   have hf:=M.few
   have fin:∀k,bR p1.L k ts→ts≠[]→ts.length≤3→∃root' p' bE,(match sw 20 p1 (ts.map au.kid) with
    |(.error e,p)=>(.error e,p)
    |(.ok id,p)=>((.ok (id,true),p):xI (Int×Bool)))=(.ok (root',true),p')∧bq p'.L root' (bU l key).1 bE∧dL p ids p' bE (2+2 * m):=by
    intro k h2 h4 h5
    obtain⟨root',p',bE,t1,t2,t3,ns,pages,K2,t5,t6⟩:=BD p1 k ts h2 h4 h5 (by omega) 20 (by omega)
    have M2:=M.top K2 t6 h.there
    refine⟨root',p',bE,by rw [t1],by rw [i3] at t2;exact t2,?_⟩
    refine⟨M2.new,M2.other,M2.grow,by have:=M2.few;omega,M2.gone,M2.twice,M2.mine,M2.bad,M2.stop,M2.all⟩
   rcases i6 with ⟨rfl,W,hw2,V5⟩ |⟨rfl,k,o,rfl,rfl,O,hop⟩
   ·by_cases hne:ts=[]
    ·subst hne
     refine⟨0,p1,[],rfl,?_,M.same (fun _=>Iff.rfl) (fun _=>Iff.rfl) (by omega)⟩
     rw [←i3]
     exact .none
    ·exact fin n W hne (by omega)
   ·exact fin k O (by simp) (by simp)
end
end Go.Proofs.YtbhiamcmiopnoaaGreatDoor
