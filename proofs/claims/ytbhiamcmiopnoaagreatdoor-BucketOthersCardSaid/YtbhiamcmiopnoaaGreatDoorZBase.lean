/- Small laws on worlds, for any program: 'Only S w w'': of the blocks that w has none but those in S are another in w'; an append to a row of the call's own, with where the new row lies. Conditions: those that each law names. -/
import Derived.WalkKit
import Derived.WalkSpells
import Derived.WalkLawsBesides
import Derived.Laws.NewBlocks
import Derived.Deep.RegionLaw
import Derived.Test.YtbhiamcmiopnoaaGreatDoorRows
import Derived.Deep.LoopGhost
import Derived.Deep.RegionHeld3
import Derived.Lib.Hide
import Derived.Lib.AppendStr
import Derived.Laws.BytesString
import Derived.Laws.IdiomStrings
import Derived.Deep.QuietTactic
import Derived.BigQuiet
import Derived.Lib.BufferWrite
import Derived.Lib.UnsafeStr
import Derived.Laws.MakeOwn
import Derived.Laws.BitsAllLaws
set_option maxHeartbeats 1000000
set_option maxRecDepth 100000
namespace Go.Proofs.YtbhiamcmiopnoaaGreatDoor
section
open Go.RowKit
structure Only (S:Nat→Prop) (w w':World):Prop where
 os:w'.os=w.os
 tape:w'.tape=w.tape
 output:w'.output=w.output
 size:w.heap.size≤w'.heap.size
 block:∀k,k<w.heap.size→¬S k→w'.heap[k]? = w.heap[k]?
namespace Only
variable {S T : Nat → Prop} {a b c w w' : World}
theorem refl (S:Nat→Prop) (w:World):Only S w w:=⟨rfl,rfl,rfl,Nat.le_refl _,fun _ _ _=>rfl⟩
theorem mono (h:Only S w w') (hs:∀k,k<w.heap.size→S k→T k):Only T w w':=⟨h.os,h.tape,h.output,h.size,fun k hk ht=>h.block k hk fun q=>ht (hs k hk q)⟩
theorem trans (h:Only S a b) (k:Only T b c) (hs:∀i,i<a.heap.size→T i→S i):Only S a c:=
 ⟨k.os.trans h.os,k.tape.trans h.tape,k.output.trans h.output,Nat.le_trans h.size k.size,fun i hi hn=>(k.block i (Nat.lt_of_lt_of_le hi h.size) fun q=>hn (hs i hi q)).trans (h.block i hi hn)⟩
theorem alloc (h:Only S a w) (o:Obj):Only S a (w.alloc o):=
 h.trans (T:=fun _=>False) ⟨rfl,rfl,rfl,by simp,fun k hk _=>Below.heap_alloc _ _ _ hk⟩ fun _ _ q=>q.elim
theorem setCell (h:Only S a w) {p:Addr} (hp:p.block<a.heap.size→S p.block) (u:Value):Only S a (w.setCell p u):=
 h.trans (T:=fun k=>k=p.block) ⟨rfl,rfl,rfl,by simp [World.setCell],fun k _ hn=>Below.heap_setCell _ _ _ _ hn⟩ fun i hi q=>by subst q;exact hp hi
theorem put (h:Only S a w) (b o:Nat) (hb:S b) (u:Value):Only S a (w.setCell ⟨b,o,none⟩ u):=h.setCell (p:=⟨b,o,none⟩) (fun _=>hb) u
theorem drew (h:Only S a w):Only S a w.drew:=⟨h.os,h.tape,h.output,h.size,h.block⟩
theorem drewN (h:Only S a w) (n:Nat):Only S a (w.drewN n):=⟨h.os,h.tape,h.output,h.size,h.block⟩
theorem grown {row:Option Nat} (h:Only S a w) (hg:w.grownBy w' row) (hr:∀k,k<a.heap.size→row=some k→S k):Only S a w':=
 h.trans (T:=fun k=>row=some k) ⟨hg.os,hg.tape,hg.output,hg.size,fun k hk hn=>hg.block k hk fun e=>hn e.symm⟩ fun i hi q=>hr i hi q
theorem cell (h:Only S w w') {p:Addr} (hp:p.block<w.heap.size) (hs:¬S p.block):w'.cell? p=w.cell? p:=World.cell?_of_block (h.block _ hp hs)
theorem frozen (h:Only S w w') {p:Addr} (hp:p.block<w.heap.size) (hs:¬S p.block):w'.frozen? p=w.frozen? p:=World.frozen?_of_block (h.block _ hp hs)
theorem below (h:Only S w w') {B:Nat} (hB:B≤w.heap.size) (hs:∀k,k<B→¬S k):Below B w w':=⟨h.os,h.tape,h.output,h.size,fun k hk=>h.block k (by omega) (hs k hk)⟩
theorem of_below (h:Below w.heap.size w w'):Only S w w':=⟨h.os,h.tape,h.output,h.size,fun k hk _=>h.block k hk⟩
theorem grownBy {row:Option Nat} (h:Only (fun k=>row=some k) w w'):w.grownBy w' row:=⟨h.os,h.tape,h.output,h.size,fun k hk hn=>h.block k hk fun e=>hn e.symm⟩
end Only
theorem Only.freeze {S:Nat→Prop} {a w:World} (h:Only S a w) {p:Addr} (hp:p.block<a.heap.size→S p.block) (n:Nat):Only S a (w.freeze p n):=by
 refine h.trans (T:=fun k=>k=p.block) ?_ fun i hi q=>by subst q;exact hp hi
 unfold World.freeze
 by_cases h0:n=0
 ·rw [if_pos h0];exact Only.refl _ _
 ·rw [if_neg h0]
  refine⟨rfl,rfl,rfl,by simp,fun k hk hn=>?_⟩
  simp only [Array.getElem?_modify]
  rw [if_neg (fun q=>hn q.symm)]
theorem Bc (w:World) (A B:Array Value) (t:TypeId):(w.alloc (.cells A t)).setRow w.heap.size B=w.alloc (.cells B t):=by
 have e:(w.heap.push (.cells A t)).modify w.heap.size (fun | .cells _ elem frozen=>.cells B elem frozen | o=>o)=w.heap.push (.cells B t):=by
  apply Array.ext
  ·simp
  ·intro i h1 h2
   rw [Array.getElem_modify,Array.getElem_push]
   by_cases hi:w.heap.size=i
   ·subst hi;simp
   ·rw [if_neg hi]
    simp only [Array.size_modify,Array.size_push] at h1
    rw [Array.getElem_push_lt (by omega),dif_pos (by omega)]
 show ({ w with heap:=_ }:World) = { w with heap:=_ }
 exact congrArg (fun h=>({ w with heap:=h }:World)) e
theorem lt_of_cell {w:World} {b o:Nat} {v:Value} (h:w.cell? ⟨b,o,none⟩=some v):b<w.heap.size:=by
 simp only [World.cell?] at h
 by_cases hb:b<w.heap.size
 ·exact hb
 ·rw [Array.getElem?_eq_none (by omega)] at h;simp at h
theorem jV {w:World} {b o:Nat} {u:Value} (h:w.cell? ⟨b,o,none⟩=some u) (v:Value):(w.setCell ⟨b,o,none⟩ v).cell? ⟨b,o,none⟩=some v:=World.cell?_setCell_same w ⟨b,o,none⟩ v h
theorem oC (b i j:Nat) (h:i≠j):(⟨b,i,none⟩:Addr)≠⟨b,j,none⟩:=fun e=>h (congrArg Addr.off e)
theorem mV {b b':Nat} (i j:Nat) (h:b≠b'):(⟨b,i,none⟩:Addr)≠⟨b',j,none⟩:=fun e=>h (congrArg Addr.block e)
theorem bH (w:World) (xs:List Value) (t:TypeId) (fr:Nat×Nat):∀j u,xs[j]? = some u→(w.alloc (.cells xs.toArray t fr)).cell? ((⟨w.heap.size,0,none⟩:Addr).add j)=some u:=by
 intro j u h
 have e:((⟨w.heap.size,0,none⟩:Addr).add j)=⟨w.heap.size,j,none⟩:=by unfold Addr.add;split<;>simp_all
 rw [e]
 simp only [World.cell?,heap_alloc_new];simp [h]
theorem ownsRow_form {w:World} {base:Nat} {e:TypeId} {size:Nat} {v:Value} {n:Nat} {xs:List Value} (h:w.ownsRow base e size v n xs):∃a c,v=.slice a n c:=by
 rcases h.2 with ⟨rfl,rfl⟩ |⟨g,cap,cur,rfl,_⟩
 ·exact⟨none,0,rfl⟩
 ·exact⟨_,cap,rfl⟩
theorem dB {w:World} {base:Nat} {e:TypeId} {size:Nat} {v:Value} {n:Nat} {xs:List Value} {b:Nat} (h:w.ownsRow base e size v n xs) (hne:v.ownBlock≠some b) (o:Nat) (u:Value):(w.setCell ⟨b,o,none⟩ u).ownsRow base e size v n xs:=
 h.kept (row:=some b) ⟨rfl,rfl,rfl,by simp [World.setCell],fun k _ hn=>Below.heap_setCell _ _ _ _ fun e=>hn (by rw [e])⟩ (.inr hne)
theorem aP {w w':World} {base:Nat} {e:TypeId} {size:Nat} {v:Value} {n:Nat} {xs:List Value} {S:Nat→Prop} (h:w.ownsRow base e size v n xs) (ho:Only S w w') (hs:∀k,v.ownBlock=some k→¬S k):w'.ownsRow base e size v n xs:=by
 refine⟨h.1,?_⟩
 rcases h.2 with hn |⟨g,cap,cur,rfl,hb,hgg,rest⟩
 ·exact .inl hn
 ·exact .inr ⟨g,cap,cur,rfl,hb,(ho.block g (Array.getElem?_eq_some_iff.1 hgg).1 (hs g rfl)).trans hgg,rest⟩
theorem mK {w:World} {base:Nat} {e:TypeId} {size n cap g:Nat} {xs:List Value} (h:w.ownsRow base e size (.slice (some ⟨g,0,none⟩) n cap) n xs):g<w.heap.size:=(h.lt g rfl).2
theorem aZ {w:World} {base:Nat} {e:TypeId} {size n cap g:Nat} {xs:List Value} (h:w.ownsRow base e size (.slice (some ⟨g,0,none⟩) n cap) n xs) (j:Nat) (u:Value) (hu:xs[j]? = some u):w.cell? ⟨g,j,none⟩=some u:=by
 have q:=h.cells (g:=g) rfl j u hu
 have e:((⟨g,0,none⟩:Addr).add j)=⟨g,j,none⟩:=by unfold Addr.add;split<;>simp_all
 rwa [e] at q
theorem eF {w:World} {base:Nat} {e:TypeId} {size n cap g:Nat} {xs:List Value} (h:w.ownsRow base e size (.slice (some ⟨g,0,none⟩) n cap) n xs) (j:Nat):w.frozen? ⟨g,j,none⟩=false:=by
 rcases h.2 with ⟨h,_⟩ |⟨g',cap',cur,hv,_,hg,_⟩
 ·cases h
 ·cases hv
  simp [World.frozen?,hg]
theorem iR {w:World} {base:Nat} {e:TypeId} {size n cap g:Nat} {xs:List Value} (h:w.ownsRow base e size (.slice (some ⟨g,0,none⟩) n cap) n xs) (j:Nat) (u:Value):(w.setCell ⟨g,j,none⟩ u).ownsRow base e size (.slice (some ⟨g,0,none⟩) n cap) n (xs.set j u):=by
 refine⟨by rw [List.length_set];exact h.1,?_⟩
 rcases h.2 with ⟨h,_⟩ |⟨g',cap',cur,hv,hb,hg,h1,h2,h3,h4⟩
 ·cases h
 ·cases hv
  refine .inr ⟨g,cap,cur.setIfInBounds j u,rfl,hb,?_,h1,h2,by rw [Array.size_setIfInBounds];exact h3,?_⟩
  ·simp [World.setCell,Array.getElem?_modify,hg]
  ·rw [Array.toList_setIfInBounds,List.take_set,h4]
theorem Bd {w:World} {base:Nat} {e:TypeId} {size n cap g:Nat} {xs:List Value} (h:w.ownsRow base e size (.slice (some ⟨g,0,none⟩) n cap) n xs) (m:Nat) (hm:m≤n):w.ownsRow base e size (.slice (some ⟨g,0,none⟩) m cap) m (xs.take (m * size)):=by
 have q:m * size≤n * size:=Nat.mul_le_mul_right _ hm
 refine⟨by rw [List.length_take,h.1];omega,?_⟩
 rcases h.2 with ⟨h,_⟩ |⟨g',cap',cur,hv,hb,hg,h1,h2,h3,h4⟩
 ·cases h
 ·cases hv
  refine .inr ⟨g,cap,cur,rfl,hb,hg,by omega,h2,h3,?_⟩
  rw [←h4,List.take_take]
  congr 1
  omega
def Moved (w:World) (v v':Value):Prop:=∀k,v'.ownBlock=some k→v.ownBlock=some k∨w.heap.size≤k
section
variable {P : Program} (w : World)
theorem u7 (base:Nat) (t ty e:TypeId) (i:TypeInfo) (z:Value) (size bytes:Nat) (ht:P.underlying t=some (.slice e)) (hi:P.info? e=some i) (hz:i.zero=some z)
 (hsize:i.size=size) (hby:i.bytes=bytes) (hzs:z.cells.size=size) (hsz:0<size)
 (v:Value) (n:Nat) (xs:List Value) (hown:w.ownsRow base e size v n xs)
 (a:Addr) (m c:Nat) (news:List Value) (hl:news.length=m * size) (hnews:∀j u,news[j]? = some u→w.cell? (a.add j)=some u) (h1:∀u∈news,u.oneCell'=true)
 (h63:n+m≤maxLen) (hbytes:(n+m) * bytes≤140737488355328) (hbase:base≤w.heap.size) :
 ∃v' w',(Builtin.append_ #[t,t] ty #[v,.slice (some a) m c]).run P w=.ok v' w'∧w'.ownsRow base e size v' (n+m) (xs++news)∧w.grownBy w' v.ownBlock∧Moved w v v':=by
 rcases hown.2 with ⟨rfl,rfl⟩ |⟨g,cap,cur,rfl,hbg,hg,hnc,hcm,hcs,htake⟩
 ·have hown':w.ownsRow w.heap.size e size (.slice none 0 0) 0 xs:=⟨hown.1,.inl ⟨rfl,rfl⟩⟩
  obtain⟨v',w',hr,ho,hgr,_⟩:=run_append_own w w.heap.size t ty e i z size bytes ht hi hz hsize hby hzs hsz _ _ _ hown' a m c news hl hnews h1 h63 hbytes (Nat.le_refl _)
  refine⟨v',w',hr,⟨ho.1,?_⟩,hgr,fun k hk=>.inr (ho.lt k hk).1⟩
  rcases ho.2 with h |⟨g,cap,cur,q1,q2,q3⟩
  ·exact .inl h
  ·exact .inr ⟨g,cap,cur,q1,by omega,q3⟩
 ·by_cases hroom:n+m≤cap
  ·obtain⟨v',w',hr,ho,hgr,_⟩:=run_append_own w base t ty e i z size bytes ht hi hz hsize hby hzs hsz _ _ _ hown a m c news hl hnews h1 h63 hbytes hbase
   have hfit:n * i.size+news.length≤cur.size:=by rw [hl,hcs,hsize,←Nat.add_mul];exact Nat.mul_le_mul_right _ hroom
   have hr':=run_append_room (P:=P) w t ty e i ht hi g n cap cur hg a m c news (by rw [hsize];exact hl) hnews h1 hroom hfit
   rw [hr'] at hr
   obtain⟨rfl,rfl⟩:=(Result.ok.injEq ..).mp hr
   exact⟨_,_,hr',ho,hgr,fun k hk=>.inl hk⟩
  ·obtain⟨v',w',hr,ho,hgr,_⟩:=run_append_own w base t ty e i z size bytes ht hi hz hsize hby hzs hsz _ _ _ hown a m c news hl hnews h1 h63 hbytes hbase
   have hr':=run_append_grow (P:=P) w t ty e i z ht hi hz ⟨g,0,none⟩ n cap xs (by rw [hsize];exact hown.1) (hown.cells (g:=g) rfl) a m c news (by rw [hsize];exact hl) hnews (by omega) (by simp only [maxLen] at h63;omega) (growslice_fits (by omega) (by rw [hby];exact hbytes))
   rw [hr'] at hr
   obtain⟨rfl,rfl⟩:=(Result.ok.injEq ..).mp hr
   refine⟨_,_,hr',ho,hgr,fun k hk=>.inr ?_⟩
   have:w.heap.size=k:=by simpa [Value.ownBlock] using hk
   omega
theorem pK {o:Oper} {a:Act} {K:Act→World→Prop} {Q:Exit→Act→World→Prop} (s x:Operand) (t:TypeId)
 (ho:o.op=.call { callee:=.builtin .append,args:=#[s,x],argTypes:=#[t,t] })
 (e:TypeId) (i:TypeInfo) (z:Value) (size bytes:Nat) (ht:P.underlying t=some (.slice e)) (hi:P.info? e=some i) (hz:i.zero=some z)
 (hsize:i.size=size) (hby:i.bytes=bytes) (hzs:z.cells.size=size) (hsz:0<size)
 (v:Value) (n:Nat) (xs:List Value) (hs:a.eval s=v) (hown:w.ownsRow 0 e size v n xs)
 (ad:Addr) (m c:Nat) (news:List Value) (hx:a.eval x=.slice (some ad) m c) (hl:news.length=m * size) (hnews:∀j u,news[j]? = some u→w.cell? (ad.add j)=some u) (h1:∀u∈news,u.oneCell'=true)
 (h63:n+m≤maxLen) (hbytes:(n+m) * bytes≤140737488355328)
 (h:∀a' c' w',w'.ownsRow 0 e size (.slice a' (n+m) c') (n+m) (xs++news)→w.grownBy w' v.ownBlock→Moved w v (.slice a' (n+m) c')→K (a.put o.dst (.slice a' (n+m) c')) w'):o.wp P a w K Q:=by
 obtain⟨v',w',hr,h2,h3,h4⟩:=u7 (P:=P) w 0 t o.type e i z size bytes ht hi hz hsize hby hzs hsz v n xs hown ad m c news hl hnews h1 h63 hbytes (Nat.zero_le _)
 unfold Oper.wp execOp
 simp only [ho,resolve,invoke,builtin,Sem.run_bind,Sem.run_pure,Result.andThen_ok,List.map_toArray,List.map_cons,List.map_nil,hs,hx,hr]
 obtain⟨a',c',rfl⟩:=ownsRow_form h2
 exact h a' c' w' h2 h3 h4
theorem aM {ops:Array Oper} {rest:List Oper} {o:Oper} {a:Act} {Q:Exit→Act→World→Prop} (hgd:o.guard=none) (s x:Operand) (t:TypeId)
 (ho:o.op=.call { callee:=.builtin .append,args:=#[s,x],argTypes:=#[t,t] })
 (e:TypeId) (i:TypeInfo) (z:Value) (size bytes:Nat) (ht:P.underlying t=some (.slice e)) (hi:P.info? e=some i) (hz:i.zero=some z)
 (hsize:i.size=size) (hby:i.bytes=bytes) (hzs:z.cells.size=size) (hsz:0<size)
 (v:Value) (n:Nat) (xs:List Value) (hs:a.eval s=v) (hown:w.ownsRow 0 e size v n xs)
 (ad:Addr) (m c:Nat) (news:List Value) (hx:a.eval x=.slice (some ad) m c) (hl:news.length=m * size) (hnews:∀j u,news[j]? = some u→w.cell? (ad.add j)=some u) (h1:∀u∈news,u.oneCell'=true)
 (h63:n+m≤maxLen) (hbytes:(n+m) * bytes≤140737488355328)
 (h:∀a' c' w',w'.ownsRow 0 e size (.slice a' (n+m) c') (n+m) (xs++news)→w.grownBy w' v.ownBlock→Moved w v (.slice a' (n+m) c')→wpList P ops Q rest (a.put o.dst (.slice a' (n+m) c')) w'):wpList P ops Q (o :: rest) a w:=
 wpList_plain hgd fun _ hK=>pK w s x t ho e i z size bytes ht hi hz hsize hby hzs hsz v n xs hs hown ad m c news hx hl hnews h1 h63 hbytes fun a' c' w' h2 h3 h4=>hK _ _ (h a' c' w' h2 h3 h4)
theorem dF {ops:Array Oper} {o:Oper} {a:Act} {K:Act→World→Prop} {Q:Exit→Act→World→Prop} {E:Prop} (hgd:o.guard=none) (s x:Operand) (t:TypeId)
 (ho:o.op=.call { callee:=.builtin .append,args:=#[s,x],argTypes:=#[t,t] })
 (e:TypeId) (i:TypeInfo) (z:Value) (size bytes:Nat) (ht:P.underlying t=some (.slice e)) (hi:P.info? e=some i) (hz:i.zero=some z)
 (hsize:i.size=size) (hby:i.bytes=bytes) (hzs:z.cells.size=size) (hsz:0<size)
 (v:Value) (n:Nat) (xs:List Value) (hs:a.eval s=v) (hown:w.ownsRow 0 e size v n xs)
 (ad:Addr) (m c:Nat) (news:List Value) (hx:a.eval x=.slice (some ad) m c) (hl:news.length=m * size) (hnews:∀j u,news[j]? = some u→w.cell? (ad.add j)=some u) (h1:∀u∈news,u.oneCell'=true)
 (h63:n+m≤maxLen) (hbytes:(n+m) * bytes≤140737488355328)
 (h:∀a' c' w',w'.ownsRow 0 e size (.slice a' (n+m) c') (n+m) (xs++news)→w.grownBy w' v.ownBlock→Moved w v (.slice a' (n+m) c')→K (a.put o.dst (.slice a' (n+m) c')) w') :
 if Region.wanted o (yielded ops a.tmps)=true then o.wp P a w K Q else E:=by
 have hw:Region.wanted o (yielded ops a.tmps)=true:=by simp [Region.wanted,hgd]
 rw [if_pos hw]
 exact pK w s x t ho e i z size bytes ht hi hz hsize hby hzs hsz v n xs hs hown ad m c news hx hl hnews h1 h63 hbytes h
end
end
section
open Go.RowKit
abbrev Bytes:=List UInt8
abbrev str (l:Bytes):Value:=.string ⟨l.toArray⟩
def u8 (c:UInt8):Value:=.int .u8 (c.toNat:Int)
def Bf (l:Bytes):List Value:=l.map u8
structure jW where
 bs:Bytes
 e:Int
structure jy (S:Nat→Prop) (w0 w:World) (p:Nat) (s:jW) (sv:Value):Prop where
 c0:w.cell? ⟨p,0,none⟩=some sv
 c1:w.cell? ⟨p,1,none⟩=some (.int .i64 s.e)
 own:w.ownsRow 0 5 1 sv s.bs.length (Bf s.bs)
 ne:sv.ownBlock≠some p
 z0:w.frozen? ⟨p,0,none⟩=false
 z1:w.frozen? ⟨p,1,none⟩=false
 new:p<w0.heap.size→S p
 qg:∀k,sv.ownBlock=some k→k<w0.heap.size→S k
 since:Only S w0 w
def bN (S:Nat→Prop) (w0 w:World) (p:Nat) (s:jW):Prop:=∃sv,jy S w0 w p s sv
theorem jy.app {S:Nat→Prop} {w0 w wa:World} {p:Nat} {s:jW} {sv Ms:Value} {x:Bytes} {n:Nat} (h:jy S w0 w p s sv) (hq:Only (fun k=>sv.ownBlock=some k) w wa) (hown:wa.ownsRow 0 5 1 Ms n (Bf s.bs++Bf x)) (hn:n=s.bs.length+x.length)
 (hmv:∀k,Ms.ownBlock=some k→sv.ownBlock=some k∨w.heap.size≤k):jy S w0 (wa.setCell ⟨p,0,none⟩ Ms) p ⟨s.bs++x,s.e⟩ Ms:=by
 have hp:=lt_of_cell h.c0
 have hsz:=h.since.size
 have ne':Ms.ownBlock≠some p:=fun e=>(hmv p e).elim h.ne (fun q=>by omega)
 have g0:=(hq.cell (p:=⟨p,0,none⟩) hp h.ne).trans h.c0
 refine⟨jV g0 _,?_,?_,ne',?_,?_,h.new,fun k hk hlt=>(hmv k hk).elim (fun q=>h.qg k q hlt) (fun q=>by omega),?_⟩
 ·exact(World.cell?_setCell_other _ _ _ _ (oC _ _ _ (by omega))).trans ((hq.cell (p:=⟨p,1,none⟩) hp h.ne).trans h.c1)
 ·have q:=dB hown ne' 0 Ms
  subst hn
  simp only [List.length_append]
  rw [show Bf (s.bs++x)=Bf s.bs++Bf x from List.map_append]
  exact q
 ·simpa using (hq.frozen (p:=⟨p,0,none⟩) hp h.ne).trans h.z0
 ·simpa using (hq.frozen (p:=⟨p,1,none⟩) hp h.ne).trans h.z1
 ·exact(h.since.trans hq (fun k hk q=>h.qg k q hk)).setCell (p:=⟨p,0,none⟩) h.new _
theorem qj:(Tryz.prog.info? 5).map (fun i=>(i.zero,i.size,i.bytes))=some (some (.int .u8 0),1,1):=by kernel_rfl
theorem oD (p:Nat) (e c:Int) (t:Bool) (w:World) (c1:w.cell? ⟨p,1,none⟩=some (.int .i64 e)) (h:e≠0∨t=false) :
 Calls Tryz.prog 118 #[.pointer (some ⟨p,0,none⟩),.bool t,.int .i64 c] w fun e' w'=>e'=.returned (.bool (e != 0))∧w=w':=by
 by_cases he:e=0
 ·subst he
  obtain rfl:t=false:=h.resolve_left (by simp)
  go_enter Tryz.func118,Tryz.ntmps118
  go_wp2
  go_ret
  exact⟨rfl,rfl⟩
 ·have hb:(e == 0)=false:=by simpa using he
  have hb2:(e != 0)=true:=by simpa using he
  rw [hb2]
  go_enter Tryz.func118,Tryz.ntmps118
  go_wp2
  go_ret
  exact⟨rfl,rfl⟩
theorem xQ (p:Nat) (c:Int) (hc:c≠0) (w:World) (c1:w.cell? ⟨p,1,none⟩=some (.int .i64 0)) (z1:w.frozen? ⟨p,1,none⟩=false) :
 Calls Tryz.prog 118 #[.pointer (some ⟨p,0,none⟩),.bool true,.int .i64 c] w fun e' w'=>e'=.returned (.bool true)∧w.setCell ⟨p,1,none⟩ (.int .i64 c)=w':=by
 have hb2:(c != 0)=true:=by simpa using hc
 have g:=jV c1 (.int .i64 c)
 go_enter Tryz.func118,Tryz.ntmps118
 go_wp2
 go_ret
 exact⟨rfl,rfl⟩
def bO (v:Nat):Nat→Bytes
 | 0=>[]
 | n+1=>bO v n++[UInt8.ofNat (v / 256 ^ n)]
theorem Hu (v k:Nat):IntKind.u8.wrap ((v:Int) / 2 ^ (8 * k))=((UInt8.ofNat (v / 256 ^ k)).toNat:Int):=by
 have e:(2:Int) ^ (8 * k)=((256 ^ k:Nat):Int):=by rw [Int.pow_mul];simp
 rw [e,←Int.natCast_ediv,UInt8.toNat_ofNat']
 simp [IntKind.wrap,IntKind.signed,IntKind.bits]
theorem bf (v n:Nat):(bO v n).length=n:=by induction n with
 | zero=>rfl
 | succ n ih=>simp [bO,ih]
theorem Gf (S:Nat→Prop) (w0 w:World) (p:Nat) (s:jW) (v n:Nat) (hn:n≤8) (h:bN S w0 w p s) (hb:s.bs.length≤1073741824) :
 Calls Tryz.prog 119 #[.pointer (some ⟨p,0,none⟩),.int .u64 (v:Int),.int .i64 (n:Int)] w fun e w'=>e=.returned (.pointer (some ⟨p,0,none⟩))∧bN S w0 w' p ⟨s.bs++bO v n,s.e⟩:=by
 obtain⟨i0,hi,hz0,hz1,hz2⟩:=info_parts qj
 have HP:=Lib.hid h
 clear h
 go_enter Tryz.func119,Tryz.ntmps119
 go_wp2_with fail
 go_loopg [9] n (fun g i wr=>∃k:Nat,g+k=n∧i=.int .i64 k∧bN S w0 wr p ⟨s.bs++bO v k,s.e⟩)
 case atStart=>exact⟨0,by omega,rfl,by simpa [bO] using HP.out⟩
 case round=>
  obtain⟨k,hg,rfl,hp⟩:=hrel
  by_cases hk:k<n
  ·obtain⟨sv,hp⟩:=hp
   have HP:=Lib.hid hp
   obtain⟨c0,c1,own,ne,z0,z1,new,Bg,since⟩:=hp
   dsimp only at *
   have hb':p<wr.heap.size:=lt_of_cell c0
   have w1:IntKind.i64.wrap (8 * (k:Int))=8 * (k:Int):=by exact IntWalk.i64_in _ (by omega)
   have w2:(0:Int)≤8 * (k:Int):=by omega
   have w3:8 * (k:Int)≤64:=by omega
   have w4:(8 * (k:Int)).toNat=8 * k:=by omega
   have w5:=Hu v k
   have HC:Hid (bO v (k+1)=bO v k++[UInt8.ofNat (v / 256 ^ k)]):=Lib.hid rfl
   have HL:=Lib.hid (bf v k)
   generalize UInt8.ofNat (v / 256 ^ k)=c at *
   go_wp2_with fail
   go_region_law (refine dF _ rfl _ _ 100 rfl 5 i0 _ 1 1 Tryz.underlying100 hi hz0 hz1 hz2 rfl (by decide) _ _ _ rfl (own.drew.alloc _) ⟨wr.heap.size,0,none⟩ 1 1 [u8 c] rfl rfl (bH wr.drew [u8 c] 5 _) (by simp [Value.oneCell',u8]) (by rw [List.length_append,HL.out];unfold maxLen;omega) (by rw [List.length_append,HL.out];omega) ?_;intro a' c' wa hown2 hgr hmv;have hq:Only (fun k=>sv.ownBlock=some k) wr wa:=(((Only.refl _ wr).drew).alloc _).grown hgr (fun k _ h=>h);have e0:=(hq.cell (p:=⟨p,0,none⟩) hb' ne).trans c0;have y0:=(hq.frozen (p:=⟨p,0,none⟩) hb' ne).trans z0;clear hgr)
   all_goals
    have hfin:=HP.out.app hq (x:=[c]) hown2 (by simp) (fun k hk=>(hmv k hk).imp id fun q=>by simp at q;omega)
    have HF:=Lib.hid hfin
    clear hfin hq hown2 hmv e0 y0 own c0 c1 z0 z1 since
    go_wp2_with fail
    go_roundg (gk-1)
    case measure=>omega
    case rel=>
     refine⟨k+1,by omega,by go_num,?_⟩
     rw [HC.out,←List.append_assoc]
     simp only [List.length_append] at HF
     exact⟨_,HF.out⟩
  ·obtain rfl:k=n:=by omega
   go_wp2_with fail
   go_ret
   exact⟨rfl,hp⟩
def eB (s:jW) (v:Int) (n:Nat):jW:=
 if s.e≠0 then s else if v<0∨(256 ^ n:Nat)≤v then ⟨s.bs,1⟩ else ⟨s.bs++bO v.toNat n,s.e⟩
theorem jy.err {S:Nat→Prop} {w0 w:World} {p:Nat} {s:jW} {sv:Value} (h:jy S w0 w p s sv) (c:Int):jy S w0 (w.setCell ⟨p,1,none⟩ (.int .i64 c)) p ⟨s.bs,c⟩ sv:=
 ⟨(World.cell?_setCell_other _ _ _ _ (oC _ _ _ (by omega))).trans h.c0,jV h.c1 _,dB h.own h.ne _ _,h.ne,by simpa using h.z0,by simpa using h.z1,h.new,h.qg,
  h.since.setCell (p:=⟨p,1,none⟩) h.new _⟩
theorem JI (v:Int) (n:Nat) (h0:0≤v):(v / 2 ^ (8 * n) != 0)=decide ((256 ^ n:Nat)≤v):=by
 obtain⟨u,rfl⟩:=Int.eq_ofNat_of_zero_le h0
 have e:(2:Int) ^ (8 * n)=((256 ^ n:Nat):Int):=by rw [Int.pow_mul];simp
 have hp:0<256 ^ n:=Nat.pow_pos (by omega)
 rw [e,←Int.natCast_ediv]
 generalize 256 ^ n=m at *
 by_cases hlt:u<m
 ·rw [Nat.div_eq_of_lt hlt,decide_eq_false (by omega)]
  rfl
 ·have q:1≤u / m:=(Nat.le_div_iff_mul_le hp).2 (by omega)
  rw [decide_eq_true (by omega),bne_iff_ne]
  generalize u / m=z at *
  omega
theorem zQ (S:Nat→Prop) (w0 w:World) (p:Nat) (s:jW) (v:Int) (n:Nat) (hv:-9223372036854775808≤v∧v≤9223372036854775807) (hn:n≤4) (h:bN S w0 w p s) (hb:s.bs.length≤1073741824) :
 Calls Tryz.prog 117 #[.pointer (some ⟨p,0,none⟩),.int .i64 v,.int .i64 (n:Int)] w fun e w'=>e=.returned (.pointer (some ⟨p,0,none⟩))∧bN S w0 w' p (eB s v n):=by
 have w1:IntKind.i64.wrap (8 * (n:Int))=8 * (n:Int):=by exact IntWalk.i64_in _ (by omega)
 have w2:(0:Int)≤8 * (n:Int):=by omega
 have w3:8 * (n:Int)≤64:=by omega
 have w4:(8 * (n:Int)).toNat=8 * n:=by omega
 obtain⟨v1,v2⟩:=hv
 have HN:=Lib.hid h
 obtain⟨sv,hp⟩:=h
 have HP:=Lib.hid hp
 obtain⟨c0,c1,own,ne,z0,z1,new,Bg,since⟩:=hp
 clear own Bg since c0 z0 ne new
 by_cases he:s.e=0
 ·by_cases hneg:v<0
  ·have hs:eB s v n=⟨s.bs,1⟩:=by unfold eB;rw [if_neg (by simpa using he),if_pos (.inl hneg)]
   rw [hs]
   have HE:=HP.out.err 1
   have HF:=Lib.hid HE
   rw [he] at c1
   clear hs HE he hb hn
   go_enter Tryz.func117,Tryz.ntmps117
   go_wp2_with fail
   (with_reducible refine(xQ p 1 (by omega) _ c1 z1).mono ?_)
   rintro e w' ⟨rfl,rfl⟩
   go_wp2_with fail
   go_ret
   exact⟨rfl,_,HF.out⟩
  ·have hz:=JI v n (by omega)
   by_cases hbig:((256 ^ n:Nat):Int)≤v
   ·have hs:eB s v n=⟨s.bs,1⟩:=by unfold eB;rw [if_neg (by simpa using he),if_pos (.inr hbig)]
    rw [hs]
    have HE:=HP.out.err 1
    have HF:=Lib.hid HE
    rw [he] at c1
    rw [decide_eq_true hbig] at hz
    clear hs HE he hb hbig
    go_enter Tryz.func117,Tryz.ntmps117
    go_wp2_with fail
    (with_reducible refine(xQ p 1 (by omega) _ c1 z1).mono ?_)
    rintro e w' ⟨rfl,rfl⟩
    go_wp2_with fail
    go_ret
    exact⟨rfl,_,HF.out⟩
   ·have hs:eB s v n=⟨s.bs++bO v.toNat n,s.e⟩:=by unfold eB;rw [if_neg (by simpa using he),if_neg (by omega)]
    rw [hs]
    obtain⟨u,rfl⟩:=Int.eq_ofNat_of_zero_le (show 0≤v by omega)
    rw [Int.toNat_natCast]
    rw [he] at c1
    rw [decide_eq_false hbig] at hz
    have hlow:=Gf S w0 w p s u n (by omega) HN.out hb
    have Xg:=Lib.hid hlow
    have hcv:IntKind.u64.wrap (u:Int)=(u:Int):=by simp [IntKind.wrap,IntKind.signed,IntKind.bits];omega
    clear hs he hbig hlow
    go_enter Tryz.func117,Tryz.ntmps117
    go_wp2_with fail
    (with_reducible refine(oD p 0 1 false _ c1 (.inr rfl)).mono ?_)
    rintro e w' ⟨rfl,rfl⟩
    go_wp2_with fail
    (with_reducible refine Xg.out.mono ?_)
    rintro e w' ⟨rfl,hp'⟩
    go_wp2_with fail
    go_ret
    exact⟨rfl,hp'⟩
 ·have hs:eB s v n=s:=by unfold eB;rw [if_pos (by simpa using he)]
  rw [hs]
  have hb2:(s.e != 0)=true:=by simpa using he
  clear hs
  by_cases hneg:v<0
  all_goals
   go_enter Tryz.func117,Tryz.ntmps117
   go_wp2_with fail
   (with_reducible refine(oD p s.e 1 _ _ c1 (.inl he)).mono ?_)
   rintro e w' ⟨rfl,rfl⟩
   go_wp2_with fail
   go_ret
   exact⟨rfl,HN.out⟩
end
section
open Go.RowKit
section
variable {P : Program} (w : World)
theorem mW (t u ty e:TypeId) (i:TypeInfo) (ht:P.underlying t=some (.slice e)) (hu:P.underlying u=some .string) (hi:P.info? e=some i) (hz:i.zero=some (.int .u8 0))
 (hsize:i.size=1) (hby:i.bytes=1) (v:Value) (n:Nat) (xs:List Value) (hown:w.ownsRow 0 e 1 v n xs) (s:ByteArray)
 (h63:n+s.size≤maxLen) (hbytes:n+s.size≤140737488355328) :
 ∃v' w',(Builtin.append_ #[t,u] ty #[v,.string s]).run P w=.ok v' w'∧w'.ownsRow 0 e 1 v' (n+s.size) (xs++Lib.strCells s)∧w.grownBy w' v.ownBlock∧Moved w v v':=by
 rcases hown.2 with ⟨rfl,rfl⟩ |⟨g,cap,cur,rfl,hbg,hg,hnc,hcm,hcs,htake⟩
 ·have hown':w.ownsRow w.heap.size e 1 (.slice none 0 0) 0 xs:=⟨hown.1,.inl ⟨rfl,rfl⟩⟩
  obtain⟨v',w',hr,ho,hgr,_⟩:=Lib.run_append_own_string w w.heap.size t u ty e i ht hu hi hz hsize hby _ _ _ hown' s h63 hbytes (Nat.le_refl _)
  refine⟨v',w',hr,⟨ho.1,?_⟩,hgr,fun k hk=>.inr (ho.lt k hk).1⟩
  rcases ho.2 with h |⟨g,cap,cur,q1,q2,q3⟩
  ·exact .inl h
  ·exact .inr ⟨g,cap,cur,q1,by omega,q3⟩
 ·obtain⟨v',w',hr,ho,hgr,_⟩:=Lib.run_append_own_string w 0 t u ty e i ht hu hi hz hsize hby _ _ _ hown s h63 hbytes (Nat.zero_le _)
  by_cases hroom:n+s.size≤cap
  ·have hr':=Lib.run_append_room_string (P:=P) w t u ty e i ht hu hi hsize g n cap cur hg s hroom (by rw [hcs];omega)
   rw [hr'] at hr
   obtain⟨rfl,rfl⟩:=(Result.ok.injEq ..).mp hr
   exact⟨_,_,hr',ho,hgr,fun k hk=>.inl hk⟩
  ·have hr':=Lib.run_append_grow_string (P:=P) w t u ty e i _ ht hu hi hz ⟨g,0,none⟩ n cap xs (by rw [hsize];exact hown.1) (hown.cells (g:=g) rfl) s (by omega) (by simp only [maxLen] at h63;omega) (growslice_fits (by omega) (by rw [hby];omega))
   rw [hr'] at hr
   obtain⟨rfl,rfl⟩:=(Result.ok.injEq ..).mp hr
   refine⟨_,_,hr',ho,hgr,fun k hk=>.inr ?_⟩
   have:w.heap.size=k:=by simpa [Value.ownBlock] using hk
   omega
theorem oG {o:Oper} {a:Act} {K:Act→World→Prop} {Q:Exit→Act→World→Prop} (s x:Operand) (t u:TypeId)
 (ho:o.op=.call { callee:=.builtin .append,args:=#[s,x],argTypes:=#[t,u] })
 (e:TypeId) (i:TypeInfo) (ht:P.underlying t=some (.slice e)) (hu:P.underlying u=some .string) (hi:P.info? e=some i) (hz:i.zero=some (.int .u8 0)) (hsize:i.size=1) (hby:i.bytes=1)
 (v:Value) (n:Nat) (xs:List Value) (hs:a.eval s=v) (hown:w.ownsRow 0 e 1 v n xs) (b:ByteArray) (hx:a.eval x=.string b)
 (h63:n+b.size≤maxLen) (hbytes:n+b.size≤140737488355328)
 (h:∀a' c' w',w'.ownsRow 0 e 1 (.slice a' (n+b.size) c') (n+b.size) (xs++Lib.strCells b)→w.grownBy w' v.ownBlock→Moved w v (.slice a' (n+b.size) c')→K (a.put o.dst (.slice a' (n+b.size) c')) w'):o.wp P a w K Q:=by
 obtain⟨v',w',hr,h2,h3,h4⟩:=mW (P:=P) w t u o.type e i ht hu hi hz hsize hby v n xs hown b h63 hbytes
 unfold Oper.wp execOp
 simp only [ho,resolve,invoke,builtin,Sem.run_bind,Sem.run_pure,Result.andThen_ok,List.map_toArray,List.map_cons,List.map_nil,hs,hx,hr]
 obtain⟨a',c',rfl⟩:=ownsRow_form h2
 exact h a' c' w' h2 h3 h4
theorem iK {ops:Array Oper} {rest:List Oper} {o:Oper} {a:Act} {Q:Exit→Act→World→Prop} (hgd:o.guard=none) (s x:Operand) (t u:TypeId)
 (ho:o.op=.call { callee:=.builtin .append,args:=#[s,x],argTypes:=#[t,u] })
 (e:TypeId) (i:TypeInfo) (ht:P.underlying t=some (.slice e)) (hu:P.underlying u=some .string) (hi:P.info? e=some i) (hz:i.zero=some (.int .u8 0)) (hsize:i.size=1) (hby:i.bytes=1)
 (v:Value) (n:Nat) (xs:List Value) (hs:a.eval s=v) (hown:w.ownsRow 0 e 1 v n xs) (b:ByteArray) (hx:a.eval x=.string b)
 (h63:n+b.size≤maxLen) (hbytes:n+b.size≤140737488355328)
 (h:∀a' c' w',w'.ownsRow 0 e 1 (.slice a' (n+b.size) c') (n+b.size) (xs++Lib.strCells b)→w.grownBy w' v.ownBlock→Moved w v (.slice a' (n+b.size) c')→wpList P ops Q rest (a.put o.dst (.slice a' (n+b.size) c')) w'):wpList P ops Q (o :: rest) a w:=
 wpList_plain hgd fun _ hK=>oG w s x t u ho e i ht hu hi hz hsize hby v n xs hs hown b hx h63 hbytes fun a' c' w' h2 h3 h4=>hK _ _ (h a' c' w' h2 h3 h4)
end
end
section
open Go.RowKit
theorem strCells_eq (l:Bytes):Lib.strCells ⟨l.toArray⟩=Bf l:=by simp [Lib.strCells,Bf,u8]
theorem xR (S:Nat→Prop) (w0 w:World) (p:Nat) (s:jW) (v:Int) (hv:-9223372036854775808≤v∧v≤9223372036854775807) (h:bN S w0 w p s) (hb:s.bs.length≤1073741824) :
 Calls Tryz.prog 214 #[.pointer (some ⟨p,0,none⟩),.int .i64 v] w fun e w'=>e=.returned (.pointer (some ⟨p,0,none⟩))∧bN S w0 w' p (eB s v 1):=by
 have hs:Calls Tryz.prog 117 #[.pointer (some ⟨p,0,none⟩),.int .i64 v,.int .i64 1] w fun e w'=>e=.returned (.pointer (some ⟨p,0,none⟩))∧bN S w0 w' p (eB s v 1):=zQ S w0 w p s v 1 hv (by omega) h hb
 have HS:=Lib.hid hs
 clear hs h hb hv
 go_enter Tryz.func214,Tryz.ntmps214
 go_wp2_with fail
 (with_reducible refine HS.out.mono ?_)
 rintro e w' ⟨rfl,hp⟩
 go_wp2_with fail
 go_ret
 exact⟨rfl,hp⟩
theorem ql (S:Nat→Prop) (w0 w:World) (p:Nat) (s:jW) (v:Int) (hv:-9223372036854775808≤v∧v≤9223372036854775807) (h:bN S w0 w p s) (hb:s.bs.length≤1073741824) :
 Calls Tryz.prog 48 #[.pointer (some ⟨p,0,none⟩),.int .i64 v] w fun e w'=>e=.returned (.pointer (some ⟨p,0,none⟩))∧bN S w0 w' p (eB s v 2):=by
 have hs:Calls Tryz.prog 117 #[.pointer (some ⟨p,0,none⟩),.int .i64 v,.int .i64 2] w fun e w'=>e=.returned (.pointer (some ⟨p,0,none⟩))∧bN S w0 w' p (eB s v 2):=zQ S w0 w p s v 2 hv (by omega) h hb
 have HS:=Lib.hid hs
 clear hs h hb hv
 go_enter Tryz.func48,Tryz.ntmps48
 go_wp2_with fail
 (with_reducible refine HS.out.mono ?_)
 rintro e w' ⟨rfl,hp⟩
 go_wp2_with fail
 go_ret
 exact⟨rfl,hp⟩
def CK (s:jW) (t:Bytes):jW:=if s.e≠0 then s else ⟨s.bs++t,s.e⟩
def uf (s:jW) (t:Bytes):jW:=if s.e≠0 then s else if 65535<t.length then ⟨s.bs,2⟩ else CK (eB s t.length 2) t
theorem MQ (S:Nat→Prop) (w0 w:World) (p:Nat) (s:jW) (t:Bytes) (h:bN S w0 w p s) (hb:s.bs.length≤1073741824) (ht:t.length≤1073741824) :
 Calls Tryz.prog 228 #[.pointer (some ⟨p,0,none⟩),str t] w fun e w'=>e=.returned (.pointer (some ⟨p,0,none⟩))∧bN S w0 w' p (CK s t):=by
 obtain⟨i0,hi,hz0,hz1,hz2⟩:=info_parts qj
 have HN:=Lib.hid h
 obtain⟨sv,hp⟩:=h
 have HP:=Lib.hid hp
 obtain⟨c0,c1,own,ne,z0,z1,new,Bg,since⟩:=hp
 have hb':p<w.heap.size:=lt_of_cell c0
 clear Bg since new
 by_cases he:s.e=0
 ·have hs:CK s t=⟨s.bs++t,s.e⟩:=by unfold CK;rw [if_neg (by simpa using he)]
  rw [hs]
  rw [he] at c1
  clear hs
  have HT:=Lib.hid (strCells_eq t)
  have HE:=Lib.hid he
  clear he
  go_enter Tryz.func228,Tryz.ntmps228
  go_wp2_with fail
  (with_reducible refine(oD p 0 0 false _ c1 (.inr rfl)).mono ?_)
  rintro e w' ⟨rfl,rfl⟩
  go_wp2_with (at_builtin;refine iK _ rfl _ _ 100 9 rfl 5 i0 Tryz.underlying100 Tryz.underlying9 hi hz0 hz1 hz2 _ _ _ rfl own ⟨t.toArray⟩ rfl (by unfold maxLen;simp [ByteArray.size];omega) (by simp [ByteArray.size];omega) ?_;intro a' c' wa hown2 hgr hmv;have hq:Only (fun k=>sv.ownBlock=some k) w wa:=(Only.refl _ w).grown hgr (fun k _ h=>h);have e0:=(hq.cell (p:=⟨p,0,none⟩) hb' ne).trans c0;have y0:=(hq.frozen (p:=⟨p,0,none⟩) hb' ne).trans z0;clear hgr)
  go_ret
  rw [HT.out] at hown2
  exact⟨rfl,_,HP.out.app hq hown2 (by simp [ByteArray.size]) hmv⟩
 ·have hs:CK s t=s:=by unfold CK;rw [if_pos (by simpa using he)]
  rw [hs]
  have hb2:(s.e != 0)=true:=by simpa using he
  clear hs
  go_enter Tryz.func228,Tryz.ntmps228
  go_wp2_with fail
  (with_reducible refine(oD p s.e 0 _ _ c1 (.inl he)).mono ?_)
  rintro e w' ⟨rfl,rfl⟩
  go_wp2_with fail
  go_ret
  exact⟨rfl,HN.out⟩
theorem oH (s:jW) (v n:Nat) (he:s.e=0) (hv:v<256 ^ n):eB s v n=⟨s.bs++bO v n,0⟩:=by
 unfold eB
 rw [if_neg (by simpa using he),if_neg (by omega),he,Int.toNat_natCast]
theorem xS (S:Nat→Prop) (w0 w:World) (p:Nat) (s:jW) (t:Bytes) (h:bN S w0 w p s) (hb:s.bs.length≤1073741000) (ht:t.length≤1073741824) :
 Calls Tryz.prog 215 #[.pointer (some ⟨p,0,none⟩),str t] w fun e w'=>e=.returned (.pointer (some ⟨p,0,none⟩))∧bN S w0 w' p (uf s t):=by
 have HN:=Lib.hid h
 obtain⟨sv,hp⟩:=h
 have HP:=Lib.hid hp
 obtain⟨c0,c1,own,ne,z0,z1,new,Bg,since⟩:=hp
 clear own Bg since c0 z0 ne new
 by_cases he:s.e=0
 ·by_cases hl:65535<t.length
  ·have hs:uf s t=⟨s.bs,2⟩:=by unfold uf;rw [if_neg (by simpa using he),if_pos hl]
   rw [hs]
   have HF:=Lib.hid (HP.out.err 2)
   rw [he] at c1
   have w1:(65535:Int)<(t.length:Int):=by omega
   clear hs he hb
   go_enter Tryz.func215,Tryz.ntmps215
   go_wp2_with fail
   (with_reducible refine(xQ p 2 (by omega) _ c1 z1).mono ?_)
   rintro e w' ⟨rfl,rfl⟩
   go_wp2_with fail
   go_ret
   exact⟨rfl,_,HF.out⟩
  ·have hsm:eB s t.length 2=⟨s.bs++bO t.length 2,0⟩:=oH s t.length 2 he (by omega)
   have hs:uf s t=CK (eB s t.length 2) t:=by unfold uf;rw [if_neg (by simpa using he),if_neg hl]
   rw [hs]
   have HH:=Lib.hid (ql S w0 w p s (t.length:Int) ⟨by omega,by omega⟩ HN.out (by omega))
   have TW:Hid ((eB s t.length 2).bs.length≤1073741824):=by rw [hsm];simp only [List.length_append,bf];exact(show _≤_ by omega)
   rw [he] at c1
   have w1:decide ((65535:Int)<(t.length:Int))=false:=by simp;omega
   clear hs he hsm
   generalize eB s t.length 2=s2 at *
   go_enter Tryz.func215,Tryz.ntmps215
   go_wp2_with fail
   (with_reducible refine(oD p 0 2 false _ c1 (.inr rfl)).mono ?_)
   rintro e w' ⟨rfl,rfl⟩
   go_wp2_with fail
   (with_reducible refine HH.out.mono ?_)
   rintro e w' ⟨rfl,hp2⟩
   have HR:=Lib.hid (MQ S w0 w' p s2 t hp2 TW.out ht)
   clear hp2
   go_wp2_with fail
   (with_reducible refine HR.out.mono ?_)
   rintro e w'' ⟨rfl,hp3⟩
   go_wp2_with fail
   go_ret
   exact⟨rfl,hp3⟩
 ·have hs:uf s t=s:=by unfold uf;rw [if_pos (by simpa using he)]
  rw [hs]
  have hb2:(s.e != 0)=true:=by simpa using he
  clear hs
  go_enter Tryz.func215,Tryz.ntmps215
  go_wp2_with fail
  (with_reducible refine(oD p s.e 2 _ _ c1 (.inl he)).mono ?_)
  rintro e w' ⟨rfl,rfl⟩
  go_wp2_with fail
  go_ret
  exact⟨rfl,HN.out⟩
def Hw (s:jW):Bytes×Int:=if s.e≠0 then ([],s.e) else (s.bs,0)
theorem xU (w:World) (sv:Value) (l:Bytes) (h:w.ownsRow 0 5 1 sv l.length (Bf l)):(convert 100 9 sv).run Tryz.prog w=.ok (str l) w:=by
 rcases h.2 with ⟨rfl,h0⟩ |⟨g,cap,cur,rfl,_⟩
 ·obtain rfl:l=[]:=List.eq_nil_of_length_eq_zero h0
  rw [run_convert_bytes_string w 100 9 5 none 0 0 Tryz.underlying100 Tryz.underlying5 Tryz.underlying9]
  simp [Conv.bytesToString]
  rfl
 ·refine run_convert_bytes_back w 100 9 5 ⟨g,0,none⟩ cap l Tryz.underlying100 Tryz.underlying5 Tryz.underlying9 (fun j hj=>?_)
  rw [show ((⟨g,0,none⟩:Addr).add j)=⟨g,j,none⟩ from by unfold Addr.add;split<;>simp_all]
  exact aZ h j _ (by simp [Bf,u8,hj])
theorem xw (S:Nat→Prop) (w0 w:World) (p:Nat) (s:jW) (h:bN S w0 w p s) :
 Calls Tryz.prog 50 #[.pointer (some ⟨p,0,none⟩)] w fun e w'=>e=.returned (.tuple #[str (Hw s).1,.int .i64 (Hw s).2])∧Only (fun _=>False) w w':=by
 obtain⟨sv,c0,c1,own,ne,z0,z1,new,Bg,since⟩:=h
 by_cases he:s.e=0
 ·have hs:Hw s=(s.bs,0):=by unfold Hw;rw [if_neg (by simpa using he)]
  rw [hs]
  rw [he] at c1
  have hcv:=xU w sv s.bs own
  obtain⟨a,c,rfl⟩:=ownsRow_form own
  clear hs he own Bg since
  go_enter Tryz.func50,Tryz.ntmps50
  go_wp2_with fail
  go_ret2
  exact⟨rfl,Only.refl _ _⟩
 ·have hs:Hw s=([],s.e):=by unfold Hw;rw [if_pos (by simpa using he)]
  rw [hs]
  have hb2:(s.e != 0)=true:=by simpa using he
  clear hs own Bg since
  go_enter Tryz.func50,Tryz.ntmps50
  go_wp2_with fail
  go_quiet (fail)
  go_wp2_with fail
  go_ret2
  exact⟨rfl,(Only.refl _ w).drewN _⟩
end
section
open Go.RowKit
theorem JJ (w:World) (t:Bytes) (ty:TypeId) :
 (Builtin.copy_ #[100,9] ty #[.slice (some ⟨w.heap.size,0,none⟩) t.length t.length,str t]).run Tryz.prog (w.alloc (.cells (madeCells #[Value.int .u8 0] t.length) 5)) =
  .ok (goInt t.length) (w.alloc (.cells (Bf t).toArray 5)):=by
 obtain⟨i0,hi,hz0,hz1,hz2⟩:=info_parts qj
 have h:=Lib.run_copy_row_string (P:=Tryz.prog) (w.alloc (.cells (madeCells #[Value.int .u8 0] t.length) 5)) 100 9 ty 5 w.heap.size 0 t.length t.length ⟨t.toArray⟩ (madeCells #[Value.int .u8 0] t.length) 5 Tryz.underlying100 (by rw [hi];simp [hz1]) (heap_alloc_new _ _) (by simp [ByteArray.size]) (by rw [size_madeCells];simp [ByteArray.size])
 rw [h]
 have e:((madeCells #[Value.int .u8 0] t.length).toList.take 0++Lib.byteCells (⟨t.toArray⟩:ByteArray).data.toList++(madeCells #[Value.int .u8 0] t.length).toList.drop (0+(⟨t.toArray⟩:ByteArray).size))=Bf t:=by
  rw [List.drop_of_length_le (by rw [Array.length_toList,size_madeCells];simp [ByteArray.size])]
  simp [Lib.byteCells,Bf,u8]
 rw [e,Bc]
 simp [ByteArray.size]
theorem O7 (t:Bytes) (ht:t.length≤140737488355328) (w:World):Calls Tryz.prog 114 #[str t] w fun e w'=>e=.returned (str t)∧Only (fun _=>False) w w':=by
 obtain⟨i0,hi,hz0,hz1,hz2⟩:=info_parts qj
 by_cases h0:t=[]
 ·subst h0
  go_enter Tryz.func114,Tryz.ntmps114
  go_wp2_with fail
  go_ret
  exact⟨rfl,Only.refl _ _⟩
 ·have hl:1≤t.length:=by cases t with
   | nil=>exact absurd rfl h0
   | cons _ _=>simp
  have hmk:∀w:World,(Instr.makeSlice 100 (.int .i64 (t.length:Int)) (.int .i64 (t.length:Int))).run Tryz.prog w=.ok (.slice (some ⟨w.heap.size,0,none⟩) t.length t.length) (w.alloc (.cells (madeCells #[Value.int .u8 0] t.length) 5)):=fun w=>by
   have h:=run_make (P:=Tryz.prog) w 100 5 i0 (.int .u8 0) Tryz.underlying100 hi hz0 .i64 .i64 (t.length:Int) (t.length:Int) (by omega) (by omega) (by rw [hz2];omega) (by omega)
   rw [hz1,Int.toNat_natCast,Nat.mul_one] at h
   exact h
  have hcp:=JJ w t
  have hlz:((t.length:Int) == 0)=false:=beq_eq_false_iff_ne.2 (by omega)
  have Yv:=fun ty=>Lib.run_unsafeString_row (P:=Tryz.prog) (w:=w.alloc (.cells (Bf t).toArray 5)) 224 3 ty 5 Tryz.underlying224 (by kernel_rfl) w.heap.size t.length (by simp only [World.shape?,heap_alloc_new];simp [Bf]) t h0 (Nat.le_refl _) (by omega) (fun j x hx=>bH w (Bf t) 5 _ j _ (by simp [Bf,u8,hx]))
  go_enter Tryz.func114,Tryz.ntmps114
  go_wp2_with fail
  go_ret
  exact⟨rfl,((Only.refl _ w).alloc _).freeze (fun q=>by simp at q) _⟩
theorem CO (t:Bytes) (ht:t.length≤140737488355328) (w:World):Calls Tryz.prog 40 #[str t] w fun e w'=>e=.returned (str t)∧Only (fun _=>False) w w':=by
 go_enter Tryz.func40,Tryz.ntmps40
 go_wp2_with fail
 (with_reducible refine(O7 t ht _).mono ?_)
 rintro e w' ⟨rfl,o⟩
 go_wp2_with fail
 go_ret
 exact⟨rfl,o⟩
end
section
open Go.RowKit
structure jm where
 rest:Bytes
 e:Int
structure fU (w:World) (g:Nat) (s:jm):Prop where
 c0:w.cell? ⟨g,0,none⟩=some (str s.rest)
 c1:w.cell? ⟨g,1,none⟩=some (.int .i64 s.e)
 z0:w.frozen? ⟨g,0,none⟩=false
 z1:w.frozen? ⟨g,1,none⟩=false
theorem fU.only {w w':World} {g:Nat} {s:jm} {S:Nat→Prop} (h:fU w g s) (ho:Only S w w') (hg:¬S g):fU w' g s:=by
 have hl:=lt_of_cell h.c0
 exact⟨(ho.cell hl hg).trans h.c0,(ho.cell hl hg).trans h.c1,(ho.frozen hl hg).trans h.z0,(ho.frozen hl hg).trans h.z1⟩
theorem fU.err {w:World} {g:Nat} {s:jm} (h:fU w g s) (c:Int):fU (w.setCell ⟨g,1,none⟩ (.int .i64 c)) g ⟨s.rest,c⟩:=
 ⟨(World.cell?_setCell_other _ _ _ _ (oC _ _ _ (by omega))).trans h.c0,jV h.c1 _,by simpa using h.z0,by simpa using h.z1⟩
theorem fU.cut {w:World} {g:Nat} {s:jm} (h:fU w g s) (r:Bytes):fU (w.setCell ⟨g,0,none⟩ (str r)) g ⟨r,s.e⟩:=
 ⟨jV h.c0 _,(World.cell?_setCell_other _ _ _ _ (oC _ _ _ (by omega))).trans h.c1,by simpa using h.z0,by simpa using h.z1⟩
theorem zR (l:Bytes) (a b:Nat):(⟨l.toArray⟩:ByteArray).extract a b=⟨((l.take b).drop a).toArray⟩:=by
 apply ByteArray.ext
 apply Array.ext'
 rw [Lib.extract_data]
 simp [List.drop_take]
theorem Hy (l:Bytes) (m:Nat):(⟨l.toArray⟩:ByteArray).extract 0 m=⟨(l.take m).toArray⟩:=by rw [zR];simp
theorem JK (l:Bytes) (m:Nat):(⟨l.toArray⟩:ByteArray).extract m l.length=⟨(l.drop m).toArray⟩:=by rw [zR];simp
def jA (w:World) (g:Nat) (s:jm) (w':World):Prop:=fU w' g s∧Only (fun k=>k=g) w w'
def iw (s:jm) (n:Int):Bytes×jm:=
 if s.e≠0 then ([],s) else if n<0 then ([],⟨s.rest,1⟩) else if (s.rest.length:Int)<n then ([],⟨s.rest,5⟩) else (s.rest.take n.toNat,⟨s.rest.drop n.toNat,s.e⟩)
theorem Bh (g:Nat) (s:jm) (n:Int) (w:World) (h:fU w g s) (hl:s.rest.length≤140737488355328) :
 Calls Tryz.prog 156 #[.pointer (some ⟨g,0,none⟩),.int .i64 n] w fun e w'=>e=.returned (str (iw s n).1)∧jA w g (iw s n).2 w':=by
 have HG:=Lib.hid h
 obtain⟨c0,c1,z0,z1⟩:=h
 by_cases he:s.e=0
 ·by_cases hn:n<0
  ·have hs:iw s n=([],⟨s.rest,1⟩):=by unfold iw;rw [if_neg (by simpa using he),if_pos hn]
   rw [hs]
   have HF:=Lib.hid (HG.out.err 1)
   rw [he] at c1
   clear hs he
   go_enter Tryz.func156,Tryz.ntmps156
   go_wp2_with fail
   go_ret
   exact⟨rfl,HF.out,(Only.refl (fun k=>k=g) w).put g 1 rfl _⟩
  ·by_cases hb:(s.rest.length:Int)<n
   ·have hs:iw s n=([],⟨s.rest,5⟩):=by unfold iw;rw [if_neg (by simpa using he),if_neg hn,if_pos hb]
    rw [hs]
    have HF:=Lib.hid (HG.out.err 5)
    rw [he] at c1
    clear hs he
    go_enter Tryz.func156,Tryz.ntmps156
    go_wp2_with fail
    go_ret
    exact⟨rfl,HF.out,(Only.refl (fun k=>k=g) w).put g 1 rfl _⟩
   ·have hs:iw s n=(s.rest.take n.toNat,⟨s.rest.drop n.toNat,s.e⟩):=by unfold iw;rw [if_neg (by simpa using he),if_neg hn,if_neg hb]
    rw [hs]
    obtain⟨m,rfl⟩:=Int.eq_ofNat_of_zero_le (show 0≤n by omega)
    rw [Int.toNat_natCast]
    have HF:=Lib.hid (HG.out.cut (s.rest.drop m))
    rw [he] at c1
    clear hs he
    go_enter Tryz.func156,Tryz.ntmps156
    go_wp2_with fail
    rw [Hy,JK]
    (with_reducible refine(CO (s.rest.take m) (by rw [List.length_take];omega) _).mono ?_)
    rintro e w' ⟨rfl,o⟩
    go_wp2_with fail
    go_ret
    have o2:=((Only.refl (fun k=>k=g) w).put g 0 rfl (str (s.rest.drop m))).trans o (fun _ _ q=>q.elim)
    exact⟨rfl,(HF.out).only o (fun q=>q),o2⟩
 ·have hs:iw s n=([],s):=by unfold iw;rw [if_pos (by simpa using he)]
  rw [hs]
  have hb2:(s.e != 0)=true:=by simpa using he
  clear hs
  go_enter Tryz.func156,Tryz.ntmps156
  go_wp2_with fail
  go_ret
  exact⟨rfl,HG.out,Only.refl _ _⟩
end
section
open Go.RowKit
def gu:Bytes→Nat
 | []=>0
 | c :: l=>c.toNat+256 * gu l
theorem qm (l:Bytes) (c:UInt8):gu (l++[c])=gu l+c.toNat * 256 ^ l.length:=by
 induction l with
 | nil=>simp [gu]
 | cons d l ih=>
  simp only [List.cons_append,gu,ih,List.length_cons,Nat.pow_succ]
  have:256 * (c.toNat * 256 ^ l.length)=c.toNat * (256 ^ l.length * 256):=by rw [Nat.mul_comm 256,Nat.mul_assoc]
  rw [Nat.mul_add]
  omega
theorem ug (l:Bytes):gu l<256 ^ l.length:=by
 induction l with
 | nil=>simp [gu]
 | cons d l ih=>simp only [gu,List.length_cons,Nat.pow_succ];have:=d.toNat_lt;omega
theorem Gg (v k:Nat) (c:UInt8) (hk:k<8) (hv:v<256 ^ k):bits .or .u64 (v:Int) (IntKind.u64.wrap (IntKind.u64.wrap (c.toNat:Int) * 2 ^ (8 * k)))=((v+c.toNat * 256 ^ k:Nat):Int):=by
 have e:(2:Int) ^ (8 * k)=((256 ^ k:Nat):Int):=by rw [Int.pow_mul];simp
 have e2:(2:Nat) ^ (8 * k)=256 ^ k:=by rw [Nat.pow_mul]
 have hp:256 ^ (k+1)≤256 ^ 8:=Nat.pow_le_pow_right (by omega) (by omega)
 have hc:=c.toNat_lt
 have hm:c.toNat * 256 ^ k≤255 * 256 ^ k:=Nat.mul_le_mul_right _ (by omega)
 rw [Nat.pow_succ] at hp
 have hm2:(c.toNat * 256 ^ k) % 2 ^ (8 * k)=0:=by rw [e2];exact Nat.mul_mod_left _ _
 have hj:=nat_join (8 * k) (c.toNat * 256 ^ k) v hm2 (by rw [e2];exact hv)
 rw [e,IntKind.wrap_u64 (c.toNat:Int),show (c.toNat:Int) % 18446744073709551616=(c.toNat:Int) from by omega,←Int.natCast_mul,IntKind.wrap_u64]
 generalize c.toNat * 256 ^ k=m at *
 generalize 256 ^ k=q at *
 rw [show ((m:Int) % 18446744073709551616)=(m:Int) from by omega,u64_or_nat v m (by omega) (by omega),Nat.or_comm,hj,Nat.add_comm]
theorem zS (t:Bytes) (k:Nat) (hk:k<t.length):gu (t.take (k+1))=gu (t.take k)+t[k].toNat * 256 ^ k:=by
 rw [List.take_succ_eq_append_getElem hk,qm,List.length_take,Nat.min_eq_left (by omega)]
theorem Gh (g:Nat) (s:jm) (n:Nat) (hn:n≤4) (w:World) (h:fU w g s) (hl:s.rest.length≤140737488355328) :
 Calls Tryz.prog 116 #[.pointer (some ⟨g,0,none⟩),.int .i64 (n:Int)] w fun e w'=>e=.returned (.int .u64 (gu (iw s n).1))∧jA w g (iw s n).2 w':=by
 have HR:=Lib.hid (Bh g s n w h hl)
 have HL:Hid ((iw s n).1.length≤n):=Lib.hid (by
  unfold iw
  repeat' split
  all_goals simp [List.length_take]
  omega)
 clear h hl
 generalize (iw s n).2=s2 at *
 generalize (iw s n).1=t at *
 go_enter Tryz.func116,Tryz.ntmps116
 go_wp2_with fail
 (with_reducible refine HR.out.mono ?_)
 rintro e w' ⟨rfl,HG⟩
 have HG:=Lib.hid HG
 clear HR
 have hlen:=HL.out
 go_wp2_with fail
 go_loopg [5,13] t.length (fun g i j wr=>∃k:Nat,g+k=t.length∧i=.int .u64 (gu (t.take k))∧j=.int .i64 k∧wr=w')
 case atStart=>exact⟨0,by omega,by simp [gu],rfl,rfl⟩
 case round=>
  obtain⟨k,hg,rfl,rfl,rfl⟩:=hrel
  by_cases hk:k<t.length
  ·have w1:IntKind.i64.wrap (8 * (k:Int))=8 * (k:Int):=by exact IntWalk.i64_in _ (by omega)
   have w2:(0:Int)≤8 * (k:Int):=by omega
   have w3:8 * (k:Int)≤64:=by omega
   have w4:(8 * (k:Int)).toNat=8 * k:=by omega
   have hk2:(k:Int)<(t.length:Int):=by omega
   have w5:=Gg (gu (t.take k)) k t[k] (by omega) (by have:=ug (t.take k);rwa [List.length_take,Nat.min_eq_left (by omega)] at this)
   rw [←zS t k hk] at w5
   have HW:=Lib.hid w5
   clear w5
   go_wp2_with fail
   go_roundg (gk-1)
   case measure=>omega
   case rel=>exact⟨k+1,by omega,congrArg (Value.int .u64) HW.out,by go_num,rfl⟩
  ·obtain rfl:k=t.length:=by omega
   rw [List.take_length]
   go_wp2_with fail
   go_ret
   exact⟨rfl,HG.out⟩
def iy (s:jm) (n:Nat):Nat×jm:=(gu (iw s n).1,(iw s n).2)
theorem Bj (s:jm) (n:Nat):(iy s n).1<256 ^ n:=by
 refine Nat.lt_of_lt_of_le (ug _) (Nat.pow_le_pow_right (by omega) ?_)
 unfold iw
 repeat' split
 all_goals simp [List.length_take]
 omega
theorem wm (s:jm) (n:Int):(iw s n).2.rest.length≤s.rest.length:=by
 unfold iw
 repeat' split
 all_goals simp
theorem xV (g:Nat) (s:jm) (w:World) (h:fU w g s) (hl:s.rest.length≤140737488355328) :
 Calls Tryz.prog 201 #[.pointer (some ⟨g,0,none⟩)] w fun e w'=>e=.returned (.int .i64 (iy s 1).1)∧jA w g (iy s 1).2 w':=by
 have HL:Calls Tryz.prog 116 #[.pointer (some ⟨g,0,none⟩),.int .i64 1] w fun e w'=>e=.returned (.int .u64 (iy s 1).1)∧jA w g (iy s 1).2 w':=Gh g s 1 (by omega) w h hl
 have HL:=Lib.hid HL
 have hw:=Bj s 1
 clear h hl
 generalize (iy s 1).2=s2 at *
 generalize (iy s 1).1=m at *
 have hw:IntKind.i64.wrap (m:Int)=(m:Int):=by exact IntWalk.i64_in _ (by omega)
 go_enter Tryz.func201,Tryz.ntmps201
 go_wp2_with fail
 (with_reducible refine HL.out.mono ?_)
 rintro e w' ⟨rfl,HG⟩
 go_wp2_with fail
 go_ret
 exact⟨rfl,HG⟩
theorem qo (g:Nat) (s:jm) (w:World) (h:fU w g s) (hl:s.rest.length≤140737488355328) :
 Calls Tryz.prog 46 #[.pointer (some ⟨g,0,none⟩)] w fun e w'=>e=.returned (.int .i64 (iy s 2).1)∧jA w g (iy s 2).2 w':=by
 have HL:Calls Tryz.prog 116 #[.pointer (some ⟨g,0,none⟩),.int .i64 2] w fun e w'=>e=.returned (.int .u64 (iy s 2).1)∧jA w g (iy s 2).2 w':=Gh g s 2 (by omega) w h hl
 have HL:=Lib.hid HL
 have hw:=Bj s 2
 clear h hl
 generalize (iy s 2).2=s2 at *
 generalize (iy s 2).1=m at *
 have hw:IntKind.i64.wrap (m:Int)=(m:Int):=by exact IntWalk.i64_in _ (by omega)
 go_enter Tryz.func46,Tryz.ntmps46
 go_wp2_with fail
 (with_reducible refine HL.out.mono ?_)
 rintro e w' ⟨rfl,HG⟩
 go_wp2_with fail
 go_ret
 exact⟨rfl,HG⟩
def CP (s:jm):Bytes×jm:=iw (iy s 2).2 ((iy s 2).1:Nat)
theorem xW (g:Nat) (s:jm) (w:World) (h:fU w g s) (hl:s.rest.length≤140737488355328) :
 Calls Tryz.prog 202 #[.pointer (some ⟨g,0,none⟩)] w fun e w'=>e=.returned (str (CP s).1)∧jA w g (CP s).2 w':=by
 have HH:=Lib.hid (qo g s w h hl)
 have TW:Hid ((iy s 2).2.rest.length≤140737488355328):=Lib.hid (Nat.le_trans (wm s 2) hl)
 clear h hl
 unfold CP
 generalize (iy s 2).2=s2 at *
 generalize (iy s 2).1=m at *
 go_enter Tryz.func202,Tryz.ntmps202
 go_wp2_with fail
 (with_reducible refine HH.out.mono ?_)
 rintro e w' ⟨rfl,hg,ho⟩
 have HR:=Lib.hid (Bh g s2 (m:Int) w' hg TW.out)
 clear hg
 go_wp2_with fail
 (with_reducible refine HR.out.mono ?_)
 rintro e w'' ⟨rfl,hg2,ho2⟩
 go_wp2_with fail
 go_ret
 exact⟨rfl,hg2,ho.trans ho2 (fun _ _ q=>q)⟩
theorem Bl (g:Nat) (s:jm) (w:World) (h:fU w g s) :
 Calls Tryz.prog 223 #[.pointer (some ⟨g,0,none⟩)] w fun e w'=>e=.returned (.int .i64 s.e)∧w=w':=by
 obtain⟨c0,c1,z0,z1⟩:=h
 go_enter Tryz.func223,Tryz.ntmps223
 go_wp2_with fail
 go_ret
 exact⟨rfl,rfl⟩
def leftG (s:jm):Nat:=if s.e≠0 then 0 else s.rest.length
theorem JL (g:Nat) (s:jm) (w:World) (h:fU w g s) :
 Calls Tryz.prog 222 #[.pointer (some ⟨g,0,none⟩)] w fun e w'=>e=.returned (.int .i64 (leftG s))∧w=w':=by
 have HB:=Lib.hid (Bl g s w h)
 obtain⟨c0,c1,z0,z1⟩:=h
 by_cases he:s.e=0
 ·have hs:leftG s=s.rest.length:=by unfold leftG;rw [if_neg (by simpa using he)]
  rw [hs]
  have hb2:(s.e != 0)=false:=by simpa using he
  clear hs
  go_enter Tryz.func222,Tryz.ntmps222
  go_wp2_with fail
  (with_reducible refine HB.out.mono ?_)
  rintro e w' ⟨rfl,rfl⟩
  go_wp2_with fail
  go_ret
  exact⟨rfl,rfl⟩
 ·have hs:leftG s=0:=by unfold leftG;rw [if_pos (by simpa using he)]
  rw [hs]
  have hb2:(s.e != 0)=true:=by simpa using he
  clear hs
  go_enter Tryz.func222,Tryz.ntmps222
  go_wp2_with fail
  (with_reducible refine HB.out.mono ?_)
  rintro e w' ⟨rfl,rfl⟩
  go_wp2_with fail
  go_ret
  exact⟨rfl,rfl⟩
def Hz (s:jm):jm:=if 0<leftG s then ⟨s.rest,6⟩ else s
theorem Gi (g:Nat) (s:jm) (w:World) (h:fU w g s) :
 Calls Tryz.prog 203 #[.pointer (some ⟨g,0,none⟩)] w fun e w'=>e=.returned (.int .i64 (Hz s).e)∧jA w g (Hz s) w':=by
 have HL:=Lib.hid (JL g s w h)
 have HG:=Lib.hid h
 obtain⟨c0,c1,z0,z1⟩:=h
 by_cases he:0<leftG s
 ·have hs:Hz s=⟨s.rest,6⟩:=by unfold Hz;rw [if_pos he]
  rw [hs]
  have hb2:decide ((0:Int)<(leftG s:Int))=true:=by simpa using he
  have HF:=Lib.hid (HG.out.err 6)
  have HB:=Lib.hid (Bl g ⟨s.rest,6⟩ _ HF.out)
  clear hs
  generalize leftG s=m at *
  go_enter Tryz.func203,Tryz.ntmps203
  go_wp2_with fail
  (with_reducible refine HL.out.mono ?_)
  rintro e w' ⟨rfl,rfl⟩
  go_wp2_with fail
  (with_reducible refine HB.out.mono ?_)
  rintro e w' ⟨rfl,rfl⟩
  go_wp2_with fail
  go_ret
  exact⟨rfl,HF.out,(Only.refl (fun k=>k=g) w).put g 1 rfl _⟩
 ·have hs:Hz s=s:=by unfold Hz;rw [if_neg he]
  rw [hs]
  have hb2:decide ((0:Int)<(leftG s:Int))=false:=by simpa using he
  have HB:=Lib.hid (Bl g s _ HG.out)
  clear hs
  generalize leftG s=m at *
  go_enter Tryz.func203,Tryz.ntmps203
  go_wp2_with fail
  (with_reducible refine HL.out.mono ?_)
  rintro e w' ⟨rfl,rfl⟩
  go_wp2_with fail
  (with_reducible refine HB.out.mono ?_)
  rintro e w' ⟨rfl,rfl⟩
  go_wp2_with fail
  go_ret
  exact⟨rfl,HG.out,Only.refl _ _⟩
theorem uh (l:Bytes) (w:World) :
 Calls Tryz.prog 45 #[str l] w fun e w'=>e=.returned (.pointer (some ⟨w.heap.size,0,none⟩))∧fU w' w.heap.size ⟨l,0⟩∧Only (fun _=>False) w w':=by
 go_enter Tryz.func45,Tryz.ntmps45
 go_wp2_with fail
 go_ret
 refine⟨rfl,⟨?_,?_,?_,?_⟩,(Only.refl _ w).alloc _⟩
 ·simp only [World.cell?,heap_alloc_new];rfl
 ·simp only [World.cell?,heap_alloc_new];rfl
 ·simp only [World.frozen?,heap_alloc_new];rfl
 ·simp only [World.frozen?,heap_alloc_new];rfl
end
end Go.Proofs.YtbhiamcmiopnoaaGreatDoor
