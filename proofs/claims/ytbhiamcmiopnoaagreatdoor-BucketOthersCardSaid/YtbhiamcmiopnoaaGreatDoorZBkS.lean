/- The law's book, of lists of whatever flat kind: how it lies in memory, what each step makes of it. For any program. Conditions: those that each law names. -/
import Derived.Test.YtbhiamcmiopnoaaGreatDoorZRowG
import Derived.Test.YtbhiamcmiopnoaaGreatDoorZHeap1
import Derived.Test.YtbhiamcmiopnoaaGreatDoorZLeafA
import Derived.Deep.LoopGhost
import Derived.Conc.MuLone
import Derived.Deep.RegionHeld3
import Derived.Deep.RegionLaw
import Derived.BigRegion
namespace Go.Proofs.YtbhiamcmiopnoaaGreatDoor.bk
open Go.RowKit
def fI (v:Value) (b:Nat):Prop:=v.ownBlock=some b
theorem GX {α:Type} {l:List α} {x y:α} {i:Nat} (h:(l++[x])[i]? = some y):l[i]? = some y∨(i=l.length∧y=x):=by
 rcases Nat.lt_or_ge i l.length with q | q
 ·rw [List.getElem?_append_left q] at h;exact .inl h
 ·rw [List.getElem?_append_right q] at h
  have:=(List.getElem?_eq_some_iff.1 h).1
  rw [List.length_singleton] at this
  have e:i-l.length=0:=by omega
  rw [e] at h
  exact .inr ⟨by omega,(Option.some.inj h).symm⟩
theorem bg {v:Value} {w:World} {ty:TypeId} {k n:Nat} {xs:List Value} (h:w.ownsRow 0 ty k v n xs):bI v=v.ownBlock:=by
 rcases h.2 with ⟨rfl,_⟩ |⟨g,cap,cur,rfl,_⟩<;>rfl
theorem flat_get {α:Type} {enc:α→List Value} {k:Nat} (hk:∀x,(enc x).length=k) (xs:List α) (i j:Nat) (x:α) (u:Value) (hx:xs[i]? = some x) (hu:(enc x)[j]? = some u):(xs.flatMap enc)[i * k+j]? = some u:=by
 have hj:j<k:=by rw [←hk x];exact(List.getElem?_eq_some_iff.1 hu).1
 induction xs generalizing i with
 | nil=>simp at hx
 | cons y ys ih=>
  rw [List.flatMap_cons]
  cases i with
  | zero=>
   simp only [List.getElem?_cons_zero,Option.some.injEq] at hx
   subst hx
   rw [Nat.zero_mul,Nat.zero_add,List.getElem?_append_left (by rw [hk];exact hj)]
   exact hu
  | succ i=>
   rw [List.getElem?_cons_succ] at hx
   rw [List.getElem?_append_right (by rw [hk,Nat.succ_mul];omega),hk,Nat.succ_mul,show i * k+k+j-k=i * k+j by omega]
   exact ih i hx
theorem bS {α:Type} {enc:α→List Value} {k:Nat} {w:World} {ty:TypeId} {v:Value} {xs:List α} (hk:∀x,(enc x).length=k) (h:w.ownsRow 0 ty k v xs.length (xs.flatMap enc)):bL enc k w v xs:=by
 rcases h.2 with ⟨rfl,h0⟩ |⟨g,cap,cur,rfl,_⟩
 ·have:xs=[]:=List.eq_nil_of_length_eq_zero h0
  subst this
  exact .none
 ·refine .some g 0 cap xs fun i x j u hx hu=>aZ h (0+(i * k+j)) u ?_
  rw [Nat.zero_add]
  exact flat_get hk xs i j x u hx hu
theorem El {α:Type} {enc:α→List Value} {k:Nat} (hk:∀x,(enc x).length=k) (l:List α):(l.flatMap enc).length=l.length * k:=by
 induction l with
 | nil=>simp
 | cons x l ih=>rw [List.flatMap_cons,List.length_append,hk,ih,List.length_cons,Nat.succ_mul];omega
theorem uN {α:Type} {enc:α→List Value} (h1:∀x,∀u∈enc x,u.oneCell'=true) (l:List α):∀u∈l.flatMap enc,u.oneCell'=true:=by
 intro u hu
 obtain⟨x,_,hu⟩:=List.mem_flatMap.1 hu
 exact h1 x u hu
theorem lH {α:Type} {enc:α→List Value} {k:Nat} {w:World} {v:Value} {l:List α} (h:bL enc k w v l):∃a c,v=.slice a l.length c:=by
 cases h with
 | none=>exact⟨_,_,rfl⟩
 | some g off cap=>exact⟨_,_,rfl⟩
theorem NQ {α:Type} {enc:α→List Value} {k:Nat} {w:World} {a:Option Addr} {n c:Nat} {l:List α} (h:bL enc k w (.slice a n c) l):a=none→n=0∧c=0:=by
 intro e
 subst e
 cases h
 exact⟨rfl,rfl⟩
theorem Lv {α:Type} {enc:α→List Value} {k:Nat} (hk:∀x,(enc x).length=k) {w:World} {a:Option Addr} {n c:Nat} {l:List α} (h:bL enc k w (.slice a n c) l):∀W,Only (fun _=>False) w W→∀ad,a=some ad→∀j u,(l.flatMap enc)[j]? = some u→W.cell? (ad.add j)=some u:=by
 intro W hW ad ha j u hj
 subst ha
 cases h with
 | some g off cap _ hc=>
  have hlt:=(List.getElem?_eq_some_iff.1 hj).1
  rw [El hk] at hlt
  have hk0:0<k:=Nat.pos_of_ne_zero fun q=>by rw [q,Nat.mul_zero] at hlt;omega
  have hi:j / k<l.length:=(Nat.div_lt_iff_lt_mul hk0).2 hlt
  obtain⟨x,hx⟩:∃x,l[j / k]? = some x:=⟨_,List.getElem?_eq_getElem hi⟩
  have hm:j % k<(enc x).length:=by rw [hk];exact Nat.mod_lt _ hk0
  have hd:j / k * k+j % k=j:=by rw [Nat.mul_comm];exact Nat.div_add_mod j k
  have h2:=flat_get hk l (j / k) (j % k) x _ hx (List.getElem?_eq_getElem hm)
  rw [hd] at h2
  have h4:(enc x)[j % k]? = some u:=by rw [List.getElem?_eq_getElem hm];exact h2.symm.trans hj
  have h3:=hc (j / k) x (j % k) u hx h4
  rw [hd] at h3
  have e:((⟨g,off,none⟩:Addr).add j)=⟨g,off+j,none⟩:=by unfold Addr.add;split<;>simp_all
  rw [e]
  exact(hW.cell (p:=⟨g,off+j,none⟩) (lt_of_cell h3) id).trans h3
theorem vT {α:Type} {enc:α→List Value} {k:Nat} {w:World} {a:Option Addr} {n c:Nat} {l:List α} (h:bL enc k w (.slice a n c) l) {i:Nat} {x:α} (hx:l[i]? = some x):∃g off,a=some ⟨g,off,none⟩∧∀j u,(enc x)[j]? = some u→w.cell? ⟨g,off+(i * k+j),none⟩=some u:=by
 cases h with
 | none=>cases hx
 | some g off cap _ hc=>exact⟨g,off,rfl,fun j u hu=>hc i x j u hx hu⟩
def dS:List Value→Nat→List Value→List Value
 | xs,_,[]=>xs
 | xs,p,y :: ys=>dS (xs.set p y) (p+1) ys
theorem jD (xs:List Value) (p:Nat) (ys:List Value):(dS xs p ys).length=xs.length:=by
 induction ys generalizing xs p with
 | nil=>rfl
 | cons y ys ih=>rw [dS,ih,List.length_set]
theorem jw (a xs:List Value) (p:Nat) (ys:List Value):dS (a++xs) (a.length+p) ys=a++dS xs p ys:=by
 induction ys generalizing xs p with
 | nil=>rfl
 | cons y ys ih=>
  rw [dS,dS,List.set_append_right _ _ (by omega),show a.length+p-a.length=p by omega,Nat.add_assoc]
  exact ih _ _
theorem Lx (b ys xs:List Value) (h:xs.length=ys.length) (c:List Value):dS (b++(xs++c)) b.length ys=b++(ys++c):=by
 induction ys generalizing xs b with
 | nil=>
  have:xs=[]:=List.eq_nil_of_length_eq_zero h
  subst this
  rfl
 | cons y ys ih=>
  cases xs with
  | nil=>simp at h
  | cons x xs=>
   rw [dS,List.set_append_right _ _ (Nat.le_refl _),Nat.sub_self,List.cons_append,List.set_cons_zero]
   have:=ih (b++[y]) xs (by simpa using h)
   rw [List.length_append,List.length_singleton] at this
   simpa using this
theorem Ac {α:Type} {enc:α→List Value} {k:Nat} (hk:∀x,(enc x).length=k) (l:List α) (j:Nat) (z:α) (hj:j<l.length):dS (l.flatMap enc) (j * k) (enc z)=(l.set j z).flatMap enc:=by
 induction l generalizing j with
 | nil=>simp at hj
 | cons a l ih=>
  cases j with
  | zero=>
   have:=Lx [] (enc z) (enc a) (by rw [hk,hk]) (l.flatMap enc)
   simpa using this
  | succ j=>
   have:=ih j (by simpa using hj)
   rw [List.flatMap_cons,List.set_cons_succ,List.flatMap_cons,←this]
   rw [show (j+1) * k=(enc a).length+j * k by rw [hk,Nat.succ_mul];omega]
   exact jw _ _ _ _
theorem FV {P:Program} {t:TypeId} {n m k:Nat} (h:(P.info? t).map (fun i=>(i.size,i.bytes,i.zero.map fun z=>z.cells.size))=some (n,m,some k)):∃i z,P.info? t=some i∧i.zero=some z∧i.size=n∧i.bytes=m∧z.cells.size=k:=by
 cases hi:P.info? t with
 | none=>rw [hi] at h;cases h
 | some i=>
  rw [hi] at h
  simp only [Option.map_some,Option.some.injEq,Prod.mk.injEq] at h
  obtain⟨h1,h2,h3⟩:=h
  cases hz:i.zero with
  | none=>rw [hz] at h3;cases h3
  | some z=>
   rw [hz] at h3
   exact⟨i,z,rfl,hz,h1,h2,Option.some.inj h3⟩
def marks {α:Type} (mk:Nat→Nat→α) (i from_ n:Nat):List α:=(List.range n).map fun j=>mk i (from_+j)
section
variable {α : Type} (mk : Nat → Nat → α)
end
def zU (w:World):Ending→World→Prop:=fun e w'=>e=.returned (.bool true)∧Only (fun _=>False) w w'
structure iJ {α:Type} (enc:α→List Value) (kc:Nat) (ty rty:TypeId) (o:Nat) (w:World) (k:Nat) (cs:Array Value) (vI:Value) (xs:List Value) (ls:List (List α)) (B:Nat):Prop where
 heap:w.heap[k]? = some (.cells cs 36 (0,0))
 Vd:cs[o]? = some vI
 Sn:w.ownsRow 0 rty 1 vI xs.length xs
 len:xs.length=ls.length
 rows:∀(i:Nat) (v:Value) (l:List α),xs[i]? = some v→ls[i]? = some l→w.ownsRow 0 ty kc v l.length (l.flatMap enc)
 dx:∀(i j:Nat) (v v':Value) (b:Nat),i≠j→xs[i]? = some v→xs[j]? = some v'→fI v b→¬fI v' b
 dk:∀v∈xs,∀b,fI v b→b≠k∧¬fI vI b∧B≤b
 dI:∀b,fI vI b→b≠k∧B≤b
 new:B≤k
structure mg {α:Type} (enc:α→List Value) (kc:Nat) (ty rty:TypeId) (o:Nat) (w:World) (k:Nat) (cs:Array Value) (vI vW:Value) (xs ys:List Value) (ls ms:List (List α)) (B:Nat):Prop where
 x:iJ enc kc ty rty o w k cs vI xs ls B
 Wy:cs[o+1]? = some vW
 Ve:w.ownsRow 0 rty 1 vW ys.length ys
 len:ys.length=ms.length
 copies:∀(i:Nat) (v:Value) (l:List α),ys[i]? = some v→ms[i]? = some l→w.ownsRow 0 ty kc v l.length (l.flatMap enc)
 dW:∀b,fI vW b→b≠k∧¬fI vI b∧B≤b
 dy:∀v∈ys,∀b,fI v b→b≠k∧¬fI vI b∧¬fI vW b∧B≤b
 X0:∀v∈xs,∀b,fI v b→¬fI vW b
def Sq (vI vW:Value) (xs ys:List Value) (b:Nat):Prop:=fI vI b∨fI vW b∨(∃v∈xs,fI v b)∨∃v∈ys,fI v b
section
variable {α : Type} {enc : α → List Value} {kc : Nat} {ty rty : TypeId} {o : Nat} {w w' : World} {k : Nat} {cs : Array Value} {vI vW : Value} {xs ys : List Value} {ls ms : List (List α)} {B : Nat} {T : Nat → Prop}
theorem iJ.lt (h:iJ enc kc ty rty o w k cs vI xs ls B):k<w.heap.size:=jU h.heap
theorem iJ.row_of (h:iJ enc kc ty rty o w k cs vI xs ls B) {v:Value} (hv:v∈xs):∃l:List α,w.ownsRow 0 ty kc v l.length (l.flatMap enc):=by
 obtain⟨i,hi⟩:=List.getElem?_of_mem hv
 have hl:=h.len
 have hlt:=(List.getElem?_eq_some_iff.1 hi).1
 exact⟨_,h.rows i v _ hi (List.getElem?_eq_getElem (by omega))⟩
theorem iJ.cell (h:iJ enc kc ty rty o w k cs vI xs ls B):w.cell? ⟨k,o,none⟩=some vI:=(aj h.heap o).trans h.Vd
theorem mg.cell (h:mg enc kc ty rty o w k cs vI vW xs ys ls ms B):w.cell? ⟨k,o+1,none⟩=some vW:=(aj h.x.heap (o+1)).trans h.Wy
theorem iJ.xlt (h:iJ enc kc ty rty o w k cs vI xs ls B) {v:Value} (hv:v∈xs) {b:Nat} (hb:fI v b):b<w.heap.size:=by
 obtain⟨_,r⟩:=h.row_of hv
 exact(r.lt b hb).2
theorem iJ.aside (h:iJ enc kc ty rty o w k cs vI xs ls B) (ho:Only T w w') {cs':Array Value} (hk:w'.heap[k]? = some (.cells cs' 36 (0,0))) (hc:cs'[o]? = cs[o]?) (h2:∀b,fI vI b→¬T b) (h3:∀v∈xs,∀b,fI v b→¬T b):iJ enc kc ty rty o w' k cs' vI xs ls B:=
 ⟨hk,hc.trans h.Vd,aP h.Sn ho h2,h.len,fun i v l a b=>aP (h.rows i v l a b) ho (h3 v (List.mem_of_getElem? a)),h.dx,h.dk,h.dI,h.new⟩
theorem iJ.only (h:iJ enc kc ty rty o w k cs vI xs ls B) (ho:Only T w w') (h1:¬T k) (h2:∀b,fI vI b→¬T b) (h3:∀v∈xs,∀b,fI v b→¬T b):iJ enc kc ty rty o w' k cs vI xs ls B:=
 h.aside ho ((ho.block k h.lt h1).trans h.heap) rfl h2 h3
theorem iJ.still (h:iJ enc kc ty rty o w k cs vI xs ls B) (ho:Only (fun _=>False) w w'):iJ enc kc ty rty o w' k cs vI xs ls B:=h.only ho id (fun _ _=>id) fun _ _ _ _=>id
theorem mg.aside (h:mg enc kc ty rty o w k cs vI vW xs ys ls ms B) (ho:Only T w w') {cs':Array Value} (hk:w'.heap[k]? = some (.cells cs' 36 (0,0))) (hc:cs'[o]? = cs[o]?) (hc2:cs'[o+1]? = cs[o+1]?) (hT:∀b,Sq vI vW xs ys b→¬T b):mg enc kc ty rty o w' k cs' vI vW xs ys ls ms B:=
 ⟨h.x.aside ho hk hc (fun b e=>hT b (.inl e)) (fun v hv b e=>hT b (.inr (.inr (.inl ⟨v,hv,e⟩)))),hc2.trans h.Wy,aP h.Ve ho (fun b e=>hT b (.inr (.inl e))),h.len,
  fun i v l a b=>aP (h.copies i v l a b) ho (fun j e=>hT j (.inr (.inr (.inr ⟨v,List.mem_of_getElem? a,e⟩)))),h.dW,h.dy,h.X0⟩
theorem mg.only (h:mg enc kc ty rty o w k cs vI vW xs ys ls ms B) (ho:Only T w w') (h1:¬T k) (hT:∀b,Sq vI vW xs ys b→¬T b):mg enc kc ty rty o w' k cs vI vW xs ys ls ms B:=
 h.aside ho ((ho.block k h.x.lt h1).trans h.x.heap) rfl rfl hT
theorem mg.still (h:mg enc kc ty rty o w k cs vI vW xs ys ls ms B) (ho:Only (fun _=>False) w w'):mg enc kc ty rty o w' k cs vI vW xs ys ls ms B:=h.only ho id fun _ _=>id
end
section
variable {α : Type} {enc : α → List Value} {kc : Nat} {ty rty : TypeId} {o : Nat} {w W wa : World} {k : Nat} {cs : Array Value} {vI vW v : Value} {xs ys : List Value} {ls ms : List (List α)} {l : List α} {B : Nat}
theorem iJ.write {w':World} {i:Nat} (h:iJ enc kc ty rty o w k cs vI xs ls B) (hi:xs[i]? = some v) (l':List α) (hown:w'.ownsRow 0 ty kc v l'.length (l'.flatMap enc)) (ho:Only (fun b=>fI v b) w w'):iJ enc kc ty rty o w' k cs vI xs (ls.set i l') B:=by
 have hv:=List.mem_of_getElem? hi
 refine⟨(ho.block k h.lt fun e=>(h.dk v hv k e).1 rfl).trans h.heap,h.Vd,aP h.Sn ho (fun b e q=>(h.dk v hv b q).2.1 e),by rw [List.length_set];exact h.len,fun j u m a b=>?_,h.dx,h.dk,h.dI,h.new⟩
 rw [List.getElem?_set] at b
 by_cases hij:i=j
 ·subst hij
  rw [hi] at a
  cases a
  split at b
  ·split at b
   ·cases b;exact hown
   ·cases b
  ·exact absurd rfl (by assumption)
 ·rw [if_neg hij] at b
  exact aP (h.rows j u m a b) ho fun c e q=>h.dx i j v u c hij hi a q e
end
structure GrowAt {α:Type} (enc:α→List Value) (kc:Nat) (ty:TypeId) (w0 wr:World) (x lv:Value) (l m:List α):Prop where
 own:wr.ownsRow 0 ty kc lv (l++m).length ((l++m).flatMap enc)
 row:bL enc kc wr x l
 near:∀b,fI lv b→fI x b∨w0.heap.size≤b
 only:Only (fun b=>fI x b) w0 wr
section
variable {α : Type} {enc : α → List Value} {kc : Nat} {ty rty : TypeId} {o : Nat}
theorem GrowAt.start (hk:∀x,(enc x).length=kc) {w0:World} {x:Value} {l:List α} (h:w0.ownsRow 0 ty kc x l.length (l.flatMap enc)):GrowAt enc kc ty w0 w0 x x l []:=
 ⟨by rw [List.append_nil];exact h,bS hk h,fun _ e=>.inl e,Only.refl _ _⟩
theorem GrowAt.still {w0 wr w':World} {x lv:Value} {l m:List α} (h:GrowAt enc kc ty w0 wr x lv l m) (ho:Only (fun _=>False) wr w'):GrowAt enc kc ty w0 w' x lv l m:=
 ⟨aP h.own ho (fun _ _ q=>q),aU h.row ho (fun _ _ q=>q),h.near,h.only.trans ho (fun _ _ q=>q.elim)⟩
theorem GrowAt.more (hk:∀x,(enc x).length=kc) {w0 wr w':World} {x lv QS:Value} {l m y:List α} (h:GrowAt enc kc ty w0 wr x lv l m) (hx:w0.ownsRow 0 ty kc x l.length (l.flatMap enc)) (hown:w'.ownsRow 0 ty kc QS (l++(m++y)).length ((l++(m++y)).flatMap enc)) (ho:Only (fun b=>fI lv b∧fI QS b) wr w') (hmv:∀b,fI QS b→fI lv b∨wr.heap.size≤b):GrowAt enc kc ty w0 w' x QS l (m++y):=by
 have hsz:=h.only.size
 refine⟨hown,?_,fun b e=>?_,h.only.trans ho fun b hb q=>(h.near b q.1).resolve_right (by omega)⟩
 ·rcases hx.2 with ⟨rfl,h0⟩ |⟨g,cap,cur,rfl,_⟩
  ·have e0:l=[]:=List.eq_nil_of_length_eq_zero h0
   subst e0
   exact .none
  ·by_cases hg:fI lv g∧fI QS g
   ·refine bL.some g 0 cap l fun i it j u hi hj=>?_
    obtain⟨g2,cap2,rfl⟩:∃g2 cap2,QS=.slice (some ⟨g2,0,none⟩) (l++(m++y)).length cap2:=by
     rcases hown.2 with ⟨rfl,_⟩ |⟨g2,cap2,_,rfl,_⟩
     ·exact absurd hg.2 (by simp [fI,Value.ownBlock])
     ·exact⟨g2,cap2,rfl⟩
    obtain rfl:g2=g:=Option.some.inj hg.2
    have hr:=bS (enc:=enc) (k:=kc) hk hown
    generalize hll:l++(m++y)=ll at hr
    have hi2:ll[i]? = some it:=by rw [←hll,List.getElem?_append_left (List.getElem?_eq_some_iff.1 hi).1];exact hi
    generalize ll.length=nn at hr
    cases hr with
    | some _ _ _ _ hc=>exact hc i it j u hi2 hj
   ·refine aU h.row ho fun b e q=>?_
    obtain rfl:g=b:=Option.some.inj e
    exact hg q
 ·rcases hmv b e with q | q
  ·exact h.near b q
  ·exact .inr (by omega)
end
structure tV {α:Type} (mk:Nat→Nat→α) (enc:α→List Value) (kc:Nat) (ty rty:TypeId) (w wr:World) (xs gs:List Value) (ls:List (List α)) (ov:Value) (i:Nat):Prop where
 own:wr.ownsRow 0 rty 1 ov gs.length gs
 len:gs.length=i
 FW:∀b,fI ov b→w.heap.size≤b
 grown:∀(j:Nat) (g:Value) (l:List α),gs[j]? = some g→ls[j]? = some l→bL enc kc wr g (l++marks mk j l.length 72)
 ku:∀(j:Nat) (g x:Value),gs[j]? = some g→xs[j]? = some x→∀b,bI g=some b→(fI x b∨w.heap.size≤b)∧¬fI ov b∧b<wr.heap.size
 Sr:∀(j:Nat) (x:Value) (l:List α),xs[j]? = some x→ls[j]? = some l→bL enc kc wr x l
 Sv:∀(j:Nat) (x:Value) (l:List α),i≤j→xs[j]? = some x→ls[j]? = some l→wr.ownsRow 0 ty kc x l.length (l.flatMap enc)
 only:Only (fun b=>∃v∈xs,fI v b) w wr
section
variable {α : Type} {mk : Nat → Nat → α} {enc : α → List Value} {kc : Nat} {ty rty : TypeId} {o : Nat}
theorem tV.start (hk:∀x,(enc x).length=kc) {w:World} {k:Nat} {cs:Array Value} {vI:Value} {xs:List Value} {ls:List (List α)} {B:Nat} (h:iJ enc kc ty rty o w k cs vI xs ls B):tV mk enc kc ty rty w w xs [] ls (.slice none 0 0) 0:=
 ⟨⟨rfl,.inl ⟨rfl,rfl⟩⟩,rfl,(fun b e=>by simp [fI,Value.ownBlock] at e),(fun j g l a=>by simp at a),(fun j g x a=>by simp at a),fun j x l a b=>bS hk (h.rows j x l a b),fun j x l _ a b=>h.rows j x l a b,Only.refl _ w⟩
theorem tV.next (hk:∀x,(enc x).length=kc) {w wr w5 W wx:World} {k:Nat} {cs:Array Value} {vI x lv ov EF:Value} {xs gs:List Value} {ls:List (List α)} {l:List α} {B i:Nat} (h:iJ enc kc ty rty o w k cs vI xs ls B) (H:tV mk enc kc ty rty w wr xs gs ls ov i) (hx:xs[i]? = some x) (hl:ls[i]? = some l) (G:GrowAt enc kc ty wr w5 x lv l (marks mk i l.length 72)) (ho:Only (fun _=>False) w5 W)
 (hown:wx.ownsRow 0 rty 1 EF (gs.length+1) (gs++[lv])) (hg:Only (fun b=>fI ov b) W wx) (hmv:∀b,fI EF b→fI ov b∨w5.heap.size≤b):tV mk enc kc ty rty w wx xs (gs++[lv]) ls EF (i+1):=by
 have hgi:=H.len
 have hs1:=H.only.size
 have hs2:=G.only.size
 have hs3:=ho.size
 have hs4:=hg.size
 have hxm:=List.mem_of_getElem? hx
 have xlt:∀j y,xs[j]? = some y→∀b,fI y b→b<w.heap.size:=fun j y a b e=>h.xlt (List.mem_of_getElem? a) e
 have hO:Only (fun b=>fI x b∨fI ov b) wr wx:=((G.only.mono (fun _ _ q=>.inl q)).trans ho (fun _ _ q=>q.elim)).trans hg (fun b _ q=>.inr q)
 have jO:∀b,fI ov b→b<wr.heap.size:=fun b e=>(H.own.lt b e).2
 have hlv:∀b,fI lv b→¬fI ov b:=fun b e q=>by
  rcases G.near b e with r | r
  ·have:=xlt i x hx b r;have:=H.FW b q;omega
  ·have:=jO b q;omega
 have Vf:∀b,fI lv b→¬fI EF b:=fun b e q=>by
  rcases hmv b q with r | r
  ·exact hlv b e r
  ·have:=(G.own.lt b e).2;omega
 have hrl:bL enc kc wx lv (l++marks mk i l.length 72):=aU (aU (bS hk G.own) ho (fun _ _ q=>q)) hg (fun b e q=>hlv b (by rw [bg G.own] at e;exact e) q)
 refine⟨by rw [List.length_append,List.length_singleton];exact hown,by rw [List.length_append,List.length_singleton,hgi],fun b e=>?_,fun j g m a b=>?_,fun j g y a b c e=>?_,fun j y m a b=>?_,fun j y m hij a b=>?_,H.only.trans hO fun b hb q=>?_⟩
 ·rcases hmv b e with q | q
  ·exact H.FW b q
  ·omega
 ·rcases GX a with a |⟨rfl,rfl⟩
  ·have hj:j<i:=by have:=(List.getElem?_eq_some_iff.1 a).1;omega
   obtain⟨y,hy⟩:∃y,xs[j]? = some y:=⟨_,List.getElem?_eq_getElem (by have:=(List.getElem?_eq_some_iff.1 hx).1;omega)⟩
   refine aU (H.grown j g m a b) hO fun c e q=>?_
   obtain⟨g1,g2,g3⟩:=H.ku j g y a hy c e
   rcases q with q | q
   ·rcases g1 with g1 | g1
    ·exact h.dx j i y x c (by omega) hy hx g1 q
    ·have:=xlt i x hx c q;omega
   ·exact g2 q
  ·rw [hgi] at b
   rw [hl] at b
   cases b
   rw [hgi]
   exact hrl
 ·rcases GX a with a |⟨rfl,rfl⟩
  ·have hj:j<i:=by have:=(List.getElem?_eq_some_iff.1 a).1;omega
   obtain⟨g1,g2,g3⟩:=H.ku j g y a b c e
   refine⟨g1,fun q=>?_,by omega⟩
   rcases hmv c q with q | q
   ·exact g2 q
   ·omega
  ·rw [hgi,hx] at b
   cases b
   rw [bg G.own] at e
   refine⟨(G.near c e).imp id fun q=>by omega,Vf c e,by have:=(G.own.lt c e).2;omega⟩
 ·by_cases hij:j=i
  ·subst hij
   rw [hx] at a;cases a
   rw [hl] at b;cases b
   refine aU (aU G.row ho (fun _ _ q=>q)) hg fun b e q=>?_
   have X3:=H.Sv j x l (Nat.le_refl _) hx hl
   rw [bg X3] at e
   have:=xlt j x hx b e;have:=H.FW b q;omega
  ·refine aU (H.Sr j y m a b) hO fun c e q=>?_
   have QE:=h.rows j y m a b
   rw [bg QE] at e
   rcases q with q | q
   ·exact h.dx j i y x c hij a hx e q
   ·have:=xlt j y a c e;have:=H.FW c q;omega
 ·refine aP (H.Sv j y m (by omega) a b) hO fun c e q=>?_
  rcases q with q | q
  ·exact h.dx j i y x c (by omega) a hx e q
  ·have:=xlt j y a c e;have:=H.FW c q;omega
 ·rcases q with q | q
  ·exact⟨x,hxm,q⟩
  ·have:=H.FW b q;omega
theorem tV.later {w wr w':World} {k:Nat} {cs:Array Value} {vI ov:Value} {xs gs:List Value} {ls:List (List α)} {B:Nat} {i:Nat} {T:Nat→Prop} (h:iJ enc kc ty rty o w k cs vI xs ls B) (hi:i=xs.length) (H:tV mk enc kc ty rty w wr xs gs ls ov i) (ho:Only T wr w') (h1:∀b,w.heap.size≤b→b<wr.heap.size→¬T b) (h2:∀v∈xs,∀b,fI v b→¬T b) :
 w'.ownsRow 0 rty 1 ov gs.length gs∧(∀(j:Nat) (g:Value) (l:List α),gs[j]? = some g→ls[j]? = some l→bL enc kc w' g (l++marks mk j l.length 72))∧(∀(j:Nat) (x:Value) (l:List α),xs[j]? = some x→ls[j]? = some l→bL enc kc w' x l):=by
 refine⟨aP H.own ho (fun b e q=>h1 b (H.FW b e) (H.own.lt b e).2 q),fun j g l a b=>aU (H.grown j g l a b) ho fun c e q=>?_,fun j x l a b=>aU (H.Sr j x l a b) ho fun c e q=>?_⟩
 ·obtain⟨x,hx⟩:∃x,xs[j]? = some x:=⟨_,List.getElem?_eq_getElem (by have:=(List.getElem?_eq_some_iff.1 a).1;have:=H.len;omega)⟩
  obtain⟨g1,g2,g3⟩:=H.ku j g x a hx c e
  rcases g1 with g1 | g1
  ·exact h2 x (List.mem_of_getElem? hx) c g1 q
  ·exact h1 c g1 g3 q
 ·have QE:=h.rows j x l a b
  rw [bg QE] at e
  exact h2 x (List.mem_of_getElem? a) c e q
end
theorem pR {P:Program} (w:World) {ops:Array Oper} {o:Oper} {a:Act} {K:Act→World→Prop} {Q:Exit→Act→World→Prop} {E:Prop} (hgd:o.guard=none) (s x:Operand) (t:TypeId)
 (ho:o.op=.call { callee:=.builtin .append,args:=#[s,x],argTypes:=#[t,t] })
 (e:TypeId) (i:TypeInfo) (z:Value) (size bytes:Nat) (ht:P.underlying t=some (.slice e)) (hi:P.info? e=some i) (hz:i.zero=some z)
 (hsize:i.size=size) (hby:i.bytes=bytes) (hzs:z.cells.size=size) (hsz:0<size)
 (v:Value) (n:Nat) (xs:List Value) (hs:a.eval s=v) (hown:w.ownsRow 0 e size v n xs)
 (ao:Option Addr) (m c:Nat) (news:List Value) (hx:a.eval x=.slice ao m c) (hl:news.length=m * size) (hnone:ao=none→m=0∧c=0)
 (hnews:∀ad,ao=some ad→∀j u,news[j]? = some u→w.cell? (ad.add j)=some u) (h1:∀u∈news,u.oneCell'=true)
 (h63:n+m≤maxLen) (hbytes:(n+m) * bytes≤140737488355328)
 (h:∀a' c' w',w'.ownsRow 0 e size (.slice a' (n+m) c') (n+m) (xs++news)→w.grownBy w' v.ownBlock→Moved w v (.slice a' (n+m) c')→K (a.put o.dst (.slice a' (n+m) c')) w') :
 if Region.wanted o (yielded ops a.tmps)=true then o.wp P a w K Q else E:=by
 cases ao with
 | some ad=>exact dF w hgd s x t ho e i z size bytes ht hi hz hsize hby hzs hsz v n xs hs hown ad m c news hx hl (hnews ad rfl) h1 h63 hbytes h
 | none=>
  obtain⟨rfl,rfl⟩:=hnone rfl
  have hnn:news=[]:=List.eq_nil_of_length_eq_zero (by simpa using hl)
  subst hnn
  have hw:Region.wanted o (yielded ops a.tmps)=true:=by simp [Region.wanted,hgd]
  rw [if_pos hw]
  have hrun:=run_append_owned_none (P:=P) w 0 t o.type e i size ht hi v n xs hown
  obtain⟨a',c',rfl⟩:=ownsRow_form hown
  unfold Oper.wp execOp
  simp only [ho,resolve,invoke,builtin,Sem.run_bind,Sem.run_pure,Result.andThen_ok,List.map_toArray,List.map_cons,List.map_nil,hs,hx,hrun]
  have:=h a' c' w
  simp only [Nat.add_zero,List.append_nil] at this
  exact this hown ⟨rfl,rfl,rfl,Nat.le_refl _,fun _ _ _=>rfl⟩ (fun k hk=>.inl hk)
theorem jP {P:Program} (w:World) {ops:Array Oper} {rest:List Oper} {o:Oper} {a:Act} {Q:Exit→Act→World→Prop} (hgd:o.guard=none) (s x:Operand) (t:TypeId)
 (ho:o.op=.call { callee:=.builtin .append,args:=#[s,x],argTypes:=#[t,t] })
 (e:TypeId) (i:TypeInfo) (z:Value) (size bytes:Nat) (ht:P.underlying t=some (.slice e)) (hi:P.info? e=some i) (hz:i.zero=some z)
 (hsize:i.size=size) (hby:i.bytes=bytes) (hzs:z.cells.size=size) (hsz:0<size)
 (v:Value) (n:Nat) (xs:List Value) (hs:a.eval s=v) (hown:w.ownsRow 0 e size v n xs)
 (ao:Option Addr) (m c:Nat) (news:List Value) (hx:a.eval x=.slice ao m c) (hl:news.length=m * size) (hnone:ao=none→m=0∧c=0)
 (hnews:∀ad,ao=some ad→∀j u,news[j]? = some u→w.cell? (ad.add j)=some u) (h1:∀u∈news,u.oneCell'=true)
 (h63:n+m≤maxLen) (hbytes:(n+m) * bytes≤140737488355328)
 (h:∀a' c' w',w'.ownsRow 0 e size (.slice a' (n+m) c') (n+m) (xs++news)→w.grownBy w' v.ownBlock→Moved w v (.slice a' (n+m) c')→wpList P ops Q rest (a.put o.dst (.slice a' (n+m) c')) w') :
 wpList P ops Q (o :: rest) a w:=
 wpList_step fun _ hK=>pR w hgd s x t ho e i z size bytes ht hi hz hsize hby hzs hsz v n xs hs hown ao m c news hx hl hnone hnews h1 h63 hbytes fun a' c' w' h2 h3 h4=>hK _ _ (h a' c' w' h2 h3 h4)
end Go.Proofs.YtbhiamcmiopnoaaGreatDoor.bk
namespace Go.Proofs.YtbhiamcmiopnoaaGreatDoor.bk
open Go.RowKit
end Go.Proofs.YtbhiamcmiopnoaaGreatDoor.bk
namespace Go.Proofs.YtbhiamcmiopnoaaGreatDoor.bk
open Go.RowKit
def qd (s:Bytes):List Value:=[str s]
theorem Sw:(Tryz.prog.info? 9).map (fun i=>(i.size,i.bytes,i.zero.map fun z=>z.cells.size))=some (1,16,some 1):=by kernel_rfl
theorem Vg (l:List Bytes):∀u∈l.flatMap qd,u.oneCell'=true:=uN (enc:=qd) (fun x u hu=>by
 simp only [qd,List.mem_cons,List.not_mem_nil,or_false] at hu
 subst hu;rfl) l
end Go.Proofs.YtbhiamcmiopnoaaGreatDoor.bk
