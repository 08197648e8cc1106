/- A slice of structs that came in, opened to its cells, for any program. Conditions: each field is one cell. -/
import Derived.Deep.Slices
import Derived.Deep.Fields
import Derived.ChangeSame
import Derived.Test.YtbhiamcmiopnoaaGreatDoorZRowG
import Derived.Test.YtbhiamcmiopnoaaGreatDoorZBkS
import Derived.OpenShut
import Derived.ProofKit
import Derived.Deep.Strs
import Derived.Deep.RegionWith
set_option maxHeartbeats 8000000
set_option maxRecDepth 100000
namespace Go.Proofs.YtbhiamcmiopnoaaGreatDoor
section
open Go.ChangeShapes Go.WideShapes Go.Deep
section
variable {H : Type} {enc : TypeId × Value → H} {P : Program} {w : World} {base : Nat} {spare : Nat → Bool} {held : Bool}
theorem uX {t e:TypeId} {fs:Array Field} {fuel:Nat} {cs:List Value} {x:DataW H×List MemPlace} (ht:P.underlying t=some (.slice e)) (he:P.underlying e=some (.struct fs))
 (hone:oneCellFields P fs=true) (hC:P.cellsOf e=fs.size) (h:DataW.trod enc P w base spare held fuel t cs=some x) :
 (cs=[.slice none 0 0]∧x=(.nil,[]))∨
 ∃(a:Addr) (len cap m:Nat) (D:Nat→DataW H) (Pl:Nat→List MemPlace),cs=[.slice (some a) len cap]∧base≤a.block∧len≤cap∧cap≤maxLen∧m=(if spare a.block then cap else len)∧
  x=(.slice ((List.range len).map D) ((List.range (m-len)).map fun j=>D (len+j)),MemPlace.row a (m * fs.size)++(List.range m).flatMap Pl)∧
  ∀i,i<m→∃(ys:List (DataW H×List MemPlace)) (n:Nat),D i=.agg (ys.map (·.1))∧Pl i=ys.flatMap (·.2)∧ys.length=fs.size∧
   ∀(j:Nat) (f:Field),fs[j]? = some f→∃(v:Value) (y:DataW H×List MemPlace),w.cell? (a.add (i * fs.size+j))=some v∧ys[j]? = some y∧DataW.trod enc P w base spare held n f.type [v]=some y:=by
 rcases open_slice ht h with h0 |⟨a,len,cap,m,n,D,Pl,hcs,hb,hl,hm,hmm,hx,hi⟩
 ·exact .inl h0
 ·refine .inr ⟨a,len,cap,m,D,Pl,hcs,hb,hl,hm,hmm,by rw [hC] at hx;exact hx,fun i him=>?_⟩
  obtain⟨cs',hc,ht'⟩:=hi i him
  rw [hC] at hc
  obtain⟨ys,n',hn',hy,hlen,hyl,hf⟩:=DataW.trod_struct he ht'
  obtain⟨_,hcl,hat⟩:=World.cells?_some hc
  simp only [Prod.mk.injEq] at hy
  refine⟨ys,n',hy.1,hy.2,hyl,fun j f hj=>?_⟩
  obtain⟨ho,hk⟩:=hone_of hone j f hj
  have hjl:j<fs.size:=(Array.getElem?_eq_some_iff.1 hj).1
  have hcell:=hat j hjl
  have hv:cs'[j]? = some (cs'[j]'(by omega)):=List.getElem?_eq_getElem (by omega)
  have h1:=hf j f hj
  rw [ho,hk] at h1
  have hone':(cs'.drop j).take 1=[cs'[j]'(by omega)]:=by
   rw [List.drop_eq_getElem_cons (by omega)]
   rfl
  rw [hone'] at h1
  have hys:ys[j]? = some (ys[j]'(by omega)):=List.getElem?_eq_getElem (by omega)
  refine⟨_,_,?_,hys,h1.trans hys⟩
  rw [←Go.Deep.add_add,hcell,hv]
end
end
section
open Go.RowKit Go.ChangeShapes Go.WideShapes Go.Deep
structure EB where
 kind:Int
 path:Bytes
 key:Bytes
 val:Bytes
def opC (x:EB):List Value:=[.int .i64 x.kind,str x.path,str x.key,str x.val]
theorem Cj {P:Program} {w:World} {r:Reach} {base:Nat} {t e:TypeId} {a:Addr} {len cap:Nat} (ht:P.underlying t=some (.slice e)) (h:Cell.okWide P w r base t (.slice (some a) len cap)):a.spot=none∧a.block<w.heap.size:=by
 simp only [ht,Cell.okWide,Cell.ok] at h
 obtain⟨_,_,_,hs,row,cells,hsh,_⟩:=h
 refine⟨hs,?_⟩
 apply Classical.byContradiction
 intro q
 unfold World.shape? at hsh
 rw [Array.getElem?_eq_none (by omega)] at hsh
 cases hsh
theorem EJ {w:World} {a:Option Addr} {n c:Nat} {l:List EB} (h:bL opC 4 w (.slice a n c) l) {k:Nat} {x:EB} (hx:l[k]? = some x) :
 ∃g off,a=some ⟨g,off,none⟩∧w.cell? ⟨g,off+k * 4,none⟩=some (.int .i64 x.kind)∧w.cell? ⟨g,off+k * 4+1,none⟩=some (str x.path)∧w.cell? ⟨g,off+k * 4+2,none⟩=some (str x.key)∧w.cell? ⟨g,off+k * 4+3,none⟩=some (str x.val):=by
 cases h with
 | none=>simp at hx
 | some g off cap _ hc=>exact⟨g,off,rfl,hc k x 0 _ hx rfl,hc k x 1 _ hx rfl,hc k x 2 _ hx rfl,hc k x 3 _ hx rfl⟩
theorem Lu (w:World) (left:Int) (zs:List Nat) (g cap:Nat) (hl:-1≤left∧left≤30000) (hz3:zs.length=3) (hz:∀z∈zs,z≤9223372036854775807) (hc:∀(i z:Nat),zs[i]? = some z→w.cell? ⟨g,i,none⟩=some (.int .i64 (z:Int))) :
 Calls Tryz.prog 87 #[.int .i64 left,.slice (some ⟨g,0,none⟩) 3 cap] w fun e w'=>(∃z:Int,e=.returned (.int .i64 z)∧-1≤z∧z≤30000∧(0≤z→z=left-(zs.sum:Int)))∧Only (fun _=>False) w w':=by
 have HC:=Lib.hid hc
 clear hc
 go_enter Tryz.func87,Tryz.ntmps87
 go_wp2_with fail
 go_loopg [0,5] 3 (fun gh lv iv wr=>∃(i:Nat) (lf:Int),gh+i=3∧iv=.int .i64 i∧lv=.int .i64 lf∧wr=w∧(-1≤lf∧lf≤30000)∧lf=left-((zs.take i).sum:Int))
 case atStart=>exact⟨0,left,by omega,rfl,rfl,rfl,hl,by simp⟩
 case round=>
  obtain⟨i,lf,u6,rfl,rfl,rfl,hlf,hs⟩:=hrel
  have HS:=Lib.hid hs
  clear hs
  by_cases hi:i<3
  ·obtain⟨z,hzi⟩:∃z,zs[i]? = some z:=⟨_,List.getElem?_eq_getElem (by omega)⟩
   have hcz:=HC.out i z hzi
   have hzb:=hz z (List.mem_of_getElem? hzi)
   have zF:Hid ((zs.take (i+1)).sum=(zs.take i).sum+z):=Lib.hid (by rw [List.take_add_one,hzi];simp)
   have hi1:(i:Int)<3:=by omega
   have hi0:(0:Int)≤(i:Int):=by omega
   have hwi:IntKind.i64.wrap ((i:Int)+1)=(i:Int)+1:=by exact IntWalk.i64_in _ (by omega)
   have hws:IntKind.i64.wrap (lf-(z:Int))=lf-(z:Int):=by exact IntWalk.i64_in _ (by omega)
   clear hzi
   by_cases h1:lf<0
   ·have e1:decide (lf<0)=true:=decide_eq_true h1
    go_wp2_with fail
    go_ret
    exact⟨⟨-1,rfl,by omega,by omega,fun q=>by omega⟩,Only.refl _ _⟩
   ·have e1:decide (lf<0)=false:=decide_eq_false h1
    by_cases h2:(z:Int) > lf
    ·have e2:decide (lf<(z:Int))=true:=decide_eq_true h2
     have e3:decide ((z:Int) > lf)=true:=decide_eq_true h2
     go_wp2_with fail
     go_ret
     exact⟨⟨-1,rfl,by omega,by omega,fun q=>by omega⟩,Only.refl _ _⟩
    ·have e2:decide (lf<(z:Int))=false:=decide_eq_false (by omega)
     have e3:decide ((z:Int) > lf)=false:=decide_eq_false h2
     go_wp2_with fail
     go_roundg (gk-1)
     case measure=>omega
     case rel=>exact⟨i+1,_,by omega,by go_num,rfl,rfl,by omega,by rw [zF.out,HS.out];push_cast;omega⟩
  ·obtain rfl:i=3:=by omega
   go_wp2_with fail
   go_ret
   refine⟨⟨lf,rfl,hlf.1,hlf.2,fun _=>?_⟩,Only.refl _ _⟩
   rw [HS.out,List.take_of_length_le (by omega)]
def dJ (l:List EB):Nat:=(l.map fun x=>x.val.length).sum
def kR (l:List EB):Nat:=(l.map fun x=>x.path.length+x.key.length+x.val.length).sum
theorem vg (l:List EB):dJ l≤kR l:=by
 induction l with
 | nil=>simp [dJ,kR]
 | cons x l ih=>
  simp only [dJ,kR,List.map_cons,List.sum_cons] at ih ⊢
  omega
theorem one_le (l:List EB):∀x∈l,x.path.length+x.key.length+x.val.length≤kR l:=by
 induction l with
 | nil=>intro x hx;cases hx
 | cons y l ih=>
  intro x hx
  simp only [kR,List.map_cons,List.sum_cons] at ih ⊢
  rcases List.mem_cons.1 hx with rfl | hx
  ·omega
  ·have:=ih x hx
   omega
def qp (w:World) (l:List EB) (e:Ending) (w':World):Prop:=∃bl:Bool,e=.returned (.bool bl)∧(bl=true→l.length≤60∧kR l≤30000)∧Only (fun _=>False) w w'
theorem xX (w:World) (v:Value) (l:List EB) (h:bL opC 4 w v l) (hn:l.length≤9223372036854775807) (hlen:∀x∈l,x.path.length≤9223372036854775807∧x.key.length≤9223372036854775807∧x.val.length≤9223372036854775807) :
 Calls Tryz.prog 18 #[v] w (qp w l):=by
 obtain⟨a,c,rfl⟩:=bk.lH h
 have HV:=Lib.hid h
 clear h
 go_enter Tryz.func18,Tryz.ntmps18
 go_wp2_with fail
 go_loopg [3,4] 201 (fun gh rm ix wr=>∃(k:Nat) (room:Int),gh+k=201∧k≤200∧ix=.int .i64 k∧rm=.int .i64 room∧-1≤room∧room≤30000∧(0≤room→room=30000-(kR (l.take k):Int))∧Only (fun _=>False) w wr)
 case atStart=>exact⟨0,30000,by omega,by omega,rfl,rfl,by omega,by omega,fun _=>by simp [kR],Only.refl _ w⟩
 case round=>
  obtain⟨k,room,hgh,Ww,rfl,rfl,hr1,hr2,hsum,ho⟩:=hrel
  have HO:=Lib.hid ho
  have Wx:=Lib.hid hsum
  clear ho hsum
  by_cases hk:k<l.length
  ·have hk1:(k:Int)<(l.length:Int):=by omega
   by_cases hk3:k<200
   ·have Vb:(k:Int)<200:=by omega
    by_cases hr:0≤room
    ·obtain⟨x,hx⟩:∃x,l[k]? = some x:=⟨_,List.getElem?_eq_getElem hk⟩
     have hrow:=aU HV.out HO.out (fun _ _=>fun q=>q)
     obtain⟨g,off,rfl,_,i0,i1,i2⟩:=EJ hrow hx
     have hxl:=hlen x (List.mem_of_getElem? hx)
     have hw1:IntKind.i64.wrap ((k:Int)+1)=(k:Int)+1:=by exact IntWalk.i64_in _ (by omega)
     have JA:Hid (kR (l.take (k+1))=kR (l.take k)+(x.path.length+x.key.length+x.val.length)):=Lib.hid (by rw [List.take_add_one,hx];simp [kR])
     have XY:Hid (∀(W:World) (g2 cap:Nat),W.heap[g2]? = some (.cells #[.int .i64 (x.path.length:Int),.int .i64 (x.key.length:Int),.int .i64 (x.val.length:Int)] 3 (0,0))→Calls Tryz.prog 87 #[.int .i64 room,.slice (some ⟨g2,0,none⟩) 3 cap] W fun e w'=>(∃z:Int,e=.returned (.int .i64 z)∧-1≤z∧z≤30000∧(0≤z→z=room-((x.path.length+x.key.length+x.val.length:Nat):Int)))∧Only (fun _=>False) W w'):=Lib.hid (fun W g2 cap hb=>(Lu W room [x.path.length,x.key.length,x.val.length] g2 cap (by omega) rfl (fun z hz=>by
      simp only [List.mem_cons,List.not_mem_nil,or_false] at hz
      omega) (fun i z hi=>by
       match i,hi with
       | 0,hi=>cases hi;exact aj hb 0
       | 1,hi=>cases hi;exact aj hb 1
       | 2,hi=>cases hi;exact aj hb 2
       | i+3,hi=>cases hi)).mono fun e w' q=>by
        obtain⟨⟨z,h1,h2,h3,h4⟩,h5⟩:=q
        exact⟨⟨z,h1,h2,h3,fun q=>by rw [h4 q];simp;omega⟩,h5⟩)
     have HB:Hid (∀W:World,((W.alloc (.cells #[.int .i64 (x.path.length:Int),.int .i64 (x.key.length:Int),.int .i64 (x.val.length:Int)] 3)).drew).heap[W.heap.size]? = some (.cells #[.int .i64 (x.path.length:Int),.int .i64 (x.key.length:Int),.int .i64 (x.val.length:Int)] 3 (0,0))):=Lib.hid (fun W=>heap_alloc_new W _)
     have oA:=((Only.refl (fun _=>False) wr).alloc (.cells #[.int .i64 (x.path.length:Int),.int .i64 (x.key.length:Int),.int .i64 (x.val.length:Int)] 3)).drew
     have XZ:=Lib.hid (HO.out.trans oA (fun _ _ q=>q))
     clear hrow hx oA
     go_wp2_with fail
     go_region_with (go_at_call 87;refine(XY.out _ _ _ (HB.out wr)).mono ?_;rintro e w4 ⟨⟨rm,rfl,z1,z2,z3⟩,o4⟩)
     all_goals
      go_wp2_with fail
      go_roundg (gk-1)
      case measure=>omega
      case rel=>exact⟨k+1,rm,by omega,by omega,by go_num,rfl,z1,z2,fun q=>by rw [z3 q,JA.out,Wx.out hr];push_cast;omega,XZ.out.trans o4 (fun _ _ q=>q)⟩
    ·have hr':¬(0:Int)≤room:=by omega
     go_wp2_with fail
     all_goals go_ret
     all_goals exact⟨false,rfl,by simp,HO.out⟩
   ·have Vb:¬(k:Int)<200:=by omega
    have hbig:¬(l.length:Int)≤60:=by omega
    go_wp2_with fail
    all_goals go_ret
    all_goals exact⟨false,rfl,by simp,HO.out⟩
  ·have hk1:¬(k:Int)<(l.length:Int):=by omega
   by_cases hsm:l.length≤60
   ·by_cases hr:0≤room
    ·have hs:=Wx.out hr
     rw [List.take_of_length_le (by omega)] at hs
     have HF:Hid (l.length≤60∧kR l≤30000):=Lib.hid ⟨hsm,by omega⟩
     clear hs
     go_wp2_with fail
     all_goals go_ret
     all_goals exact⟨_,rfl,fun _=>HF.out,HO.out⟩
    ·have hr':decide (room≥0)=false:=decide_eq_false (by omega)
     have hr2':decide (0≤room)=false:=decide_eq_false (by omega)
     go_wp2_with fail
     all_goals go_ret
     all_goals exact⟨false,rfl,by simp,HO.out⟩
   ·have hbig:¬(l.length:Int)≤60:=by omega
    go_wp2_with fail
    all_goals go_ret
    all_goals exact⟨false,rfl,by simp,HO.out⟩
end
section
open Go.RowKit Go.ChangeShapes Go.WideShapes Go.Deep
def Cy (w:World) (v:Value) (l:List EB):Prop:=bL opC 4 w v l∧l.length≤9223372036854775807∧∀x∈l,x.path.length≤9223372036854775807∧x.key.length≤9223372036854775807∧x.val.length≤9223372036854775807
theorem JC {H:Type} {enc:TypeId×Value→H} {W:World} {r:Reach} {base:Nat} {v:Value} {fuel:Nat} {x:DataW H×List MemPlace} (hval:Cell.okWide Tryz.prog W r base 50 v)
 (hf:DataW.trod enc Tryz.prog W 0 (fun _=>true) true fuel 50 [v]=some x):∃l,Cy W v l:=by
 rcases uX Tryz.underlying50 Tryz.underlying55 (by kernel_rfl) (by kernel_rfl) hf with ⟨hcs,_⟩ |⟨a,len,cap,m,D,Pl,hcs,_,hl,hc,hm,_,hi⟩
 ·simp only [List.cons.injEq,and_true] at hcs
  subst hcs
  exact⟨[],.none,by simp,fun x hx=>by cases hx⟩
 ·simp only [List.cons.injEq,and_true] at hcs
  subst hcs
  rw [if_pos rfl] at hm
  obtain⟨hsp,hlt⟩:=Cj Tryz.underlying50 hval
  obtain⟨g,off,sp⟩:=a
  simp only at hsp hlt
  subst hsp
  have key:∀i,i<len→∃q:EB,W.cell? ⟨g,off+i * 4,none⟩=some (.int .i64 q.kind)∧W.cell? ⟨g,off+(i * 4+1),none⟩=some (str q.path)∧W.cell? ⟨g,off+(i * 4+2),none⟩=some (str q.key)∧
   W.cell? ⟨g,off+(i * 4+3),none⟩=some (str q.val)∧(q.path.length≤9223372036854775807∧q.key.length≤9223372036854775807∧q.val.length≤9223372036854775807):=by
   intro i hlt
   obtain⟨ys,n,_,_,_,hf⟩:=hi i (by omega)
   obtain⟨v0,y0,c0,_,t0⟩:=hf 0 _ rfl
   obtain⟨v1,y1,c1,_,t1⟩:=hf 1 _ rfl
   obtain⟨v2,y2,c2,_,t2⟩:=hf 2 _ rfl
   obtain⟨v3,y3,c3,_,t3⟩:=hf 3 _ rfl
   obtain⟨q0,e0,_,_⟩:=DataW.trod_int Tryz.underlying3 t0
   obtain⟨s1,e1,_,w1⟩:=DataW.trod_string Tryz.underlying9 t1
   obtain⟨s2,e2,_,w2⟩:=DataW.trod_string Tryz.underlying9 t2
   obtain⟨s3,e3,_,w3⟩:=DataW.trod_string Tryz.underlying9 t3
   simp only [List.cons.injEq,and_true] at e0 e1 e2 e3
   subst e0 e1 e2 e3
   rw [Go.WideShapes.add_plain] at c0 c1 c2 c3
   refine⟨⟨q0,s1.data.toList,s2.data.toList,s3.data.toList⟩,?_,?_,?_,?_,?_⟩
   ·rw [Nat.add_zero] at c0
    exact c0
   ·exact c1.trans (by simp [str])
   ·exact c2.trans (by simp [str])
   ·exact c3.trans (by simp [str])
   ·have hmx:maxLen=9223372036854775807:=by decide
    rw [hmx] at w1 w2 w3
    exact⟨by simpa using w1,by simpa using w2,by simpa using w3⟩
  have hall:∃f:Nat→EB,∀i,i<len→W.cell? ⟨g,off+i * 4,none⟩=some (.int .i64 (f i).kind)∧W.cell? ⟨g,off+(i * 4+1),none⟩=some (str (f i).path)∧W.cell? ⟨g,off+(i * 4+2),none⟩=some (str (f i).key)∧
   W.cell? ⟨g,off+(i * 4+3),none⟩=some (str (f i).val)∧((f i).path.length≤9223372036854775807∧(f i).key.length≤9223372036854775807∧(f i).val.length≤9223372036854775807):=
   ⟨fun i=>if h:i<len then (key i h).choose else ⟨0,[],[],[]⟩,fun i h=>by simp only [dif_pos h];exact(key i h).choose_spec⟩
  obtain⟨f,hf⟩:=hall
  have hlen:((List.range len).map f).length=len:=by simp
  have hget:∀i x,((List.range len).map f)[i]? = some x→i<len∧x=f i:=fun i x hx=>by
   have hlt:=(List.getElem?_eq_some_iff.1 hx).1
   rw [hlen] at hlt
   rw [List.getElem?_map,List.getElem?_range hlt] at hx
   exact⟨hlt,(Option.some.inj hx).symm⟩
  refine⟨(List.range len).map f,?_,?_,fun x hx=>?_⟩
  ·have:=bL.some (enc:=opC) (k:=4) (w:=W) g off cap ((List.range len).map f) fun i x j u hx hu=>by
    obtain⟨hlt,rfl⟩:=hget i x hx
    obtain⟨c0,c1,c2,c3,_⟩:=hf i hlt
    match j,hu with
    | 0,hu=>cases hu;exact c0
    | 1,hu=>cases hu;exact c1
    | 2,hu=>cases hu;exact c2
    | 3,hu=>cases hu;exact c3
    | j+4,hu=>cases hu
   rwa [hlen] at this
  ·have:maxLen=9223372036854775807:=by decide
   omega
  ·obtain⟨k,hk,rfl⟩:=List.mem_map.1 hx
   exact(hf k (List.mem_range.1 hk)).2.2.2.2
end
end Go.Proofs.YtbhiamcmiopnoaaGreatDoor
