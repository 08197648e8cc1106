/- A region that draws its order, whose operations read and whose callees leave all old blocks as they were, is walked once, for any program. Conditions: those that each law names. -/
import Derived.Test.YtbhiamcmiopnoaaGreatDoorZBase
import Derived.Deep.QuietTactic
import Derived.Test.YtbhiamcmiopnoaaGreatDoorZPlain
import Derived.Test.YtbhiamcmiopnoaaGreatDoorZRowG
import Derived.Deep.RegionHeld3
import Derived.Test.YtbhiamcmiopnoaaGreatDoorZPutG
import Derived.Conc.MuLone
set_option maxHeartbeats 4000000
set_option maxRecDepth 100000
namespace Go.Proofs.YtbhiamcmiopnoaaGreatDoor
section
open Go.RowKit
structure fu (w:World) where
 u:World
 h:Only (fun _=>False) w u
instance (w:World):Inhabited (fu w):=⟨⟨w,Only.refl _ w⟩⟩
theorem fu.cell {w:World} (p:fu w) {b o:Nat} {v:Value} (hc:w.cell? ⟨b,o,none⟩=some v):p.u.cell? ⟨b,o,none⟩=some v:=(p.h.cell (p:=⟨b,o,none⟩) (lt_of_cell hc) id).trans hc
theorem fu.calls {P:Program} {f:FuncId} {args:Array Value} {w:World} (p:fu w) {v:Value} (h:Calls P f args p.u fun e w'=>e=.returned v∧Only (fun _=>False) p.u w') :
 Calls P f args p.u fun e w''=>e=.returned v∧∃p:fu w,w''=p.u:=
 h.mono fun _ w' ⟨he,ho⟩=>⟨he,⟨w',p.h.trans ho (fun _ _ q=>q)⟩,rfl⟩
theorem bD {P:Program} {id:Nat} {Q:Exit→Act→World→Prop} {a:Act} {w:World} {l:List Oper} (hm:P.follows .mixedOrders=true) (hB:Region.lexB .any l.toArray=true)
 (h:∀W:List Oper→Act→Prop,(∀a',(∀p:fu w,Q .normal a' p.u)→W [] a')→
  (∀o rest a,(∀K:Act→Prop,(∀a,W rest a→K a)→if Region.wanted o (yielded l.toArray a.tmps) then o.quiet P a (fun w'=>∃p:fu w,w'=p.u) K else K (a.put o.dst undef))→W (o :: rest) a)→W l a) :
 (Code.region id l.toArray true).wp P Q a w:=
 wp_region_quiet (C:=fun w'=>∃p:fu w,w'=p.u) hm hB ⟨⟨_,(Only.refl _ w).drew⟩,rfl⟩
  (h (wpQuiet P l.toArray (fun w'=>∃p:fu w,w'=p.u) (fun a'=>∀w',(∃p:fu w,w'=p.u)→Q .normal a' w')) (fun _ hq _ ⟨p,e⟩=>e▸hq p) fun _ _ _ h=>wpQuiet_step h)
end
section
open Go.RowKit
def aJ (i:Item):List Value:=[str i.key,str i.val,.int .i64 i.kind]
def iA (i:Item):Value:=.agg (aJ i).toArray
theorem BM {w wr:World} {g off:Nat} {l:List Item} (hc:∀(i:Nat) (x:Item) (j:Nat) (u:Value),l[i]? = some x→(aJ x)[j]? = some u→w.cell? ⟨g,off+(i * 3+j),none⟩=some u) {S:Nat→Prop} (ho:Only S w wr) (hg:¬S g) {k:Nat} {x:Item} (hx:l[k]? = some x) :
 wr.cell? ⟨g,off+k * 3,none⟩=some (str x.key)∧wr.cell? ⟨g,off+k * 3+1,none⟩=some (str x.val)∧wr.cell? ⟨g,off+k * 3+2,none⟩=some (.int .i64 x.kind)∧g<w.heap.size:=by
 have hb:=lt_of_cell (hc k _ 0 _ hx rfl)
 exact⟨(ho.cell (p:=⟨g,off+(k * 3+0),none⟩) hb hg).trans (hc k _ 0 _ hx rfl),(ho.cell (p:=⟨g,off+(k * 3+1),none⟩) hb hg).trans (hc k _ 1 _ hx rfl),(ho.cell (p:=⟨g,off+(k * 3+2),none⟩) hb hg).trans (hc k _ 2 _ hx rfl),hb⟩
theorem Dy (i:Item) (w:World):Calls Tryz.prog 172 #[iA i] w fun e w'=>e=.returned (.bool (dK i))∧Only (fun _=>False) w w':=by
 unfold iA aJ
 go_enter Tryz.func172,Tryz.ntmps172
 go_wp2_with fail
 all_goals
  go_ret
  refine⟨congrArg (fun b=>Ending.returned (Value.bool b)) ?_,(Only.refl _ w).alloc _⟩
  unfold dK
  first
  | exact(decide_eq_false (by omega)).symm
  | exact decide_eq_decide.2 (by omega)
theorem jN (l:List Item):l.length≤aT l:=by
 induction l with
 | nil=>simp
 | cons a l ih=>
  rw [bC,List.length_cons]
  have:Keyed.cost a=5+a.key.length+a.val.length:=rfl
  omega
theorem Dz {α:Type} [Keyed α] {l:List α} {k:Nat} {x:α} (hx:l[k]? = some x) (h:Keyed.ok x=false):qb l k=false:=by unfold qb;rw [hx];simp [h]
theorem GH (v:Value) (l:List Item) (w:World) (h:bL aJ 3 w v l) (hs:aT l≤1073741824) :
 Calls Tryz.prog 212 #[v] w fun e w'=>e=.returned (.int .i64 (aT l))∧Only (fun _=>False) w w':=by
 cases h with
 | none=>
  go_enter Tryz.func212,Tryz.ntmps212
  go_wp2_with fail
  refine wp_loop_rounds 1 ?_
  rw [rounds_succ]
  go_wp2_with fail
  go_ret
  exact⟨rfl,Only.refl _ _⟩
 | some g off cap _ hc=>
  have HS:=Lib.hid hs
  have HC:=Lib.hid hc
  clear hs hc
  go_enter Tryz.func212,Tryz.ntmps212
  go_wp2_with fail
  go_loopg [3,8] l.length (fun gh n i wr=>∃k:Nat,gh+k=l.length∧n=.int .i64 (aT (l.take k))∧i=.int .i64 k∧Only (fun _=>False) w wr)
  case atStart=>exact⟨0,by omega,by simp [aT],rfl,Only.refl _ _⟩
  case round=>
   obtain⟨k,hg,rfl,rfl,ho⟩:=hrel
   by_cases hk:k<l.length
   ·have hx:l[k]? = some l[k]:=List.getElem?_eq_getElem hk
    have hst:=tq l k hk
    have lX:Keyed.cost l[k]=5+l[k].key.length+l[k].val.length:=rfl
    have hle:aT (l.take (k+1))≤1073741824:=Nat.le_trans (lQ l (k+1)) HS.out
    obtain⟨c0,c1,c2,hb⟩:=BM HC.out ho (fun q=>q) hx
    have hk2:(k:Int)<(l.length:Int):=by omega
    have w1:IntKind.i64.wrap (5+(l[k].key.length:Int))=5+(l[k].key.length:Int):=by exact IntWalk.i64_in _ (by omega)
    have w2:IntKind.i64.wrap (5+(l[k].key.length:Int)+(l[k].val.length:Int))=5+(l[k].key.length:Int)+(l[k].val.length:Int):=by exact IntWalk.i64_in _ (by omega)
    have w3:IntKind.i64.wrap ((aT (l.take k):Int)+(5+(l[k].key.length:Int)+(l[k].val.length:Int)))=(aT (l.take (k+1)):Int):=by rw [IntWalk.i64_in _ (by omega)];omega
    have w4:IntKind.i64.wrap ((k:Int)+1)=(k:Int)+1:=by
     have:l.length≤aT l:=jN l
     have:=HS.out
     exact IntWalk.i64_in _ (by omega)
    generalize l[k]=x at *
    have HO:=Lib.hid ho
    go_wp2_with fail
    go_roundg (gk-1)
    case measure=>omega
    case rel=>exact⟨k+1,by omega,congrArg (Value.int .i64) (by omega),by go_num,HO.out.alloc _⟩
   ·obtain rfl:k=l.length:=by omega
    rw [List.take_length]
    go_wp2_with fail
    go_ret
    exact⟨rfl,ho⟩
theorem DC (v:Value) (l:List Item) (w:World) (h:bL aJ 3 w v l) (hs:l.length≤1073741824) :
 Calls Tryz.prog 211 #[v] w fun e w'=>e=.returned (.bool (bJ l))∧Only (fun _=>False) w w':=by
 cases h with
 | none=>
  go_enter Tryz.func211,Tryz.ntmps211
  go_wp2_with fail
  refine wp_loop_rounds 1 ?_
  rw [rounds_succ]
  go_wp2_with fail
  go_ret
  exact⟨rfl,Only.refl _ _⟩
 | some g off cap _ hc=>
  have HS:=Lib.hid hs
  have HC:=Lib.hid hc
  clear hs hc
  go_enter Tryz.func211,Tryz.ntmps211
  go_wp2_with fail
  go_loopg [7] l.length (fun gh i wr=>∃k:Nat,gh+k=l.length∧i=.int .i64 k∧Only (fun _=>False) w wr∧∀j,j<k→qb l j=true)
  case atStart=>exact⟨0,by omega,rfl,Only.refl _ _,fun j hj=>by omega⟩
  case round=>
   obtain⟨k,hg,rfl,ho,hj⟩:=hrel
   by_cases hk:k<l.length
   ·obtain⟨x,hx⟩:∃x,l[k]? = some x:=⟨l[k],List.getElem?_eq_getElem hk⟩
    obtain⟨c0,c1,c2,hb⟩:=BM HC.out ho (fun q=>q) hx
    have hk2:(k:Int)<(l.length:Int):=by omega
    have w4:IntKind.i64.wrap ((k:Int)+1)=(k:Int)+1:=by have:=HS.out;exact IntWalk.i64_in _ (by omega)
    have HO:=Lib.hid ho
    have HJ:=Lib.hid hj
    have HX:=Lib.hid hx
    have HV:=Lib.hid (Dy x)
    unfold iA aJ at HV
    have hk0:(0:Int)≤(k:Int):=by omega
    clear hj hx
    go_wp2_with fail
    have HOW:=Lib.hid (HO.out.alloc (.cells #[Value.string ⟨x.key.toArray⟩,Value.string ⟨x.val.toArray⟩,Value.int .i64 x.kind] 131))
    have b0:(wr.alloc (.cells #[Value.string ⟨x.key.toArray⟩,Value.string ⟨x.val.toArray⟩,Value.int .i64 x.kind] 131)).cell? ⟨wr.heap.size,0,none⟩=some (str x.key):=by simp only [World.cell?,heap_alloc_new];rfl
    have b1:(wr.alloc (.cells #[Value.string ⟨x.key.toArray⟩,Value.string ⟨x.val.toArray⟩,Value.int .i64 x.kind] 131)).cell? ⟨wr.heap.size,1,none⟩=some (str x.val):=by simp only [World.cell?,heap_alloc_new];rfl
    have b2:(wr.alloc (.cells #[Value.string ⟨x.key.toArray⟩,Value.string ⟨x.val.toArray⟩,Value.int .i64 x.kind] 131)).cell? ⟨wr.heap.size,2,none⟩=some (.int .i64 x.kind):=by simp only [World.cell?,heap_alloc_new];rfl
    generalize (wr.alloc (.cells #[Value.string ⟨x.key.toArray⟩,Value.string ⟨x.val.toArray⟩,Value.int .i64 x.kind] 131))=W at *
    generalize wr.heap.size=B at *
    clear c0 c1 c2
    have q0:∀p:fu W,p.u.cell? ⟨B,0,none⟩=some (str x.key):=fun p=>p.cell b0
    have q1:∀p:fu W,p.u.cell? ⟨B,1,none⟩=some (str x.val):=fun p=>p.cell b1
    have q2:∀p:fu W,p.u.cell? ⟨B,2,none⟩=some (.int .i64 x.kind):=fun p=>p.cell b2
    clear b0 b1 b2
    cases hv:dK x with
    | false=>
     rw [hv] at HV
     have hn:qb l k=false:=Dz HX.out hv
     have hn:=Lib.hid (rQ hk hn)
     have hkb:∃b:Bool,decide ((0:Int)<(k:Int))=b:=⟨_,rfl⟩
     obtain⟨b,hkb⟩:=hkb
     refine bD (by kernel_rfl) (by kernel_rfl) (fun _W h0 h1=>?_)
     repeat (refine h1 _ _ _ (fun K hK=>?_);go_simp;first |(refine hK _ ?_;clear hK K) |(apply Exists.intro;refine⟨fun _=>?_,hK _ ?_⟩;(refine fu.calls _ (HV.out _));clear hK K))
     refine h0 _ (fun p=>?_)
     clear h0 h1
     go_wp2_with fail
     go_ret
     exact⟨by rw [hn.out];rfl,HOW.out.trans p.h (fun _ _ q=>q)⟩
    | true=>
     rw [hv] at HV
     cases k with
     | zero=>
      have HN:Hid (qb l 0=true):=Lib.hid ((rP HX.out).trans hv)
      clear hv
      refine bD (by kernel_rfl) (by kernel_rfl) (fun _W h0 h1=>?_)
      repeat (refine h1 _ _ _ (fun K hK=>?_);go_simp;first |(refine hK _ ?_;clear hK K) |(apply Exists.intro;refine⟨fun _=>?_,hK _ ?_⟩;(refine fu.calls _ (HV.out _));clear hK K))
      refine h0 _ (fun p=>?_)
      clear h0 h1
      go_wp2_with fail
      go_roundg (gk-1)
      case measure=>omega
      case rel=>exact⟨1,by omega,by go_num,HOW.out.trans p.h (fun _ _ q=>q),fun j hj=>(show j=0 by omega)▸HN.out⟩
     | succ m=>
      obtain⟨y,hy⟩:∃y,l[m]? = some y:=⟨l[m],List.getElem?_eq_getElem (by omega)⟩
      obtain⟨d0,_,_,_⟩:=BM HC.out HOW.out (fun q=>q) hy
      have q3:∀p:fu W,p.u.cell? ⟨g,off+m * 3,none⟩=some (str y.key):=fun p=>p.cell d0
      clear d0
      have HN:Hid (qb l (m+1)=(dK x && !(Op.bytesLess x.key y.key || x.key == y.key))):=Lib.hid (iV HX.out hy)
      rw [hv] at HN
      clear hv hy
      have w5:IntKind.i64.wrap (m:Int)=(m:Int):=by have:=HS.out;exact IntWalk.i64_in _ (by omega)
      have hm0:(0:Int)≤(m:Int):=by omega
      have hkb:decide ((0:Int)<((m+1:Nat):Int))=true:=by simp
      have hm1:(m:Int)<(l.length:Int):=by omega
      have w6:IntKind.i64.wrap ((m:Int)+1+1)=(m:Int)+1+1:=by have:=HS.out;exact IntWalk.i64_in _ (by omega)
      obtain⟨bb,hbb⟩:∃bb,(Op.bytesLess x.key y.key || x.key == y.key)=bb:=⟨_,rfl⟩
      rw [hbb] at HN
      cases bb with
      | true=>
       have hn:=Lib.hid (rQ hk HN.out)
       refine bD (by kernel_rfl) (by kernel_rfl) (fun _W h0 h1=>?_)
       repeat (refine h1 _ _ _ (fun K hK=>?_);go_simp;first |(refine hK _ ?_;clear hK K) |(apply Exists.intro;refine⟨fun _=>?_,hK _ ?_⟩;(refine fu.calls _ (HV.out _));clear hK K))
       refine h0 _ (fun p=>?_)
       clear h0 h1
       go_wp2_with fail
       go_ret
       exact⟨by rw [hn.out];rfl,HOW.out.trans p.h (fun _ _ q=>q)⟩
      | false=>
       refine bD (by kernel_rfl) (by kernel_rfl) (fun _W h0 h1=>?_)
       repeat (refine h1 _ _ _ (fun K hK=>?_);go_simp;first |(refine hK _ ?_;clear hK K) |(apply Exists.intro;refine⟨fun _=>?_,hK _ ?_⟩;(refine fu.calls _ (HV.out _));clear hK K))
       refine h0 _ (fun p=>?_)
       clear h0 h1
       go_wp2_with fail
       go_roundg (gk-1)
       case measure=>omega
       case rel=>exact⟨m+1+1,by omega,by go_num,HOW.out.trans p.h (fun _ _ q=>q),fun j hj=>by
        by_cases hjm:j<m+1
        ·exact HJ.out j hjm
        ·obtain rfl:j=m+1:=by omega
         exact HN.out⟩
   ·obtain rfl:k=l.length:=by omega
    have hr:bJ l=true:=decide_eq_true hj
    go_wp2_with fail
    go_ret
    exact⟨by rw [hr];rfl,ho⟩
end
section
open Go.RowKit
def dV (t:Bytes):Bytes:=bO t.length 2++t
def encI (i:Item):Bytes:=bO i.kind.toNat 1++dV i.key++dV i.val
def jT (l:List Item):Bytes:=bO l.length 1++l.flatMap encI
theorem wH (i:Item):(encI i).length=Keyed.cost i:=by
 show _=5+i.key.length+i.val.length
 simp only [encI,dV,List.length_append,bf]
 omega
theorem vF (l:List Item):(l.flatMap encI).length+1=aT l:=by
 induction l with
 | nil=>rfl
 | cons a l ih=>rw [List.flatMap_cons,List.length_append,wH,bC];omega
def iC (l:List Item):Bytes×Int:=if bJ l=true then (if 232<aT l∨255<l.length then ([],2) else (jT l,0)) else ([],1)
theorem vH (s:jW) (t:Bytes) (he:s.e=0) (ht:t.length<65536):uf s t=⟨s.bs++dV t,0⟩:=by
 unfold uf CK
 rw [if_neg (by simpa using he),if_neg (by omega),oH s t.length 2 he (by omega),if_neg (by simp)]
 simp [dV]
theorem yG (w:World) (i:Item) (t:TypeId):(w.alloc (.cells #[str i.key,str i.val,.int .i64 i.kind] t)).cell? ⟨w.heap.size,0,none⟩=some (str i.key)∧
 (w.alloc (.cells #[str i.key,str i.val,.int .i64 i.kind] t)).cell? ⟨w.heap.size,1,none⟩=some (str i.val)∧(w.alloc (.cells #[str i.key,str i.val,.int .i64 i.kind] t)).cell? ⟨w.heap.size,2,none⟩=some (.int .i64 i.kind):=by
 refine⟨?_,?_,?_⟩<;>(simp only [World.cell?,heap_alloc_new];rfl)
theorem jL {w:World} {a:Option Addr} {n c:Nat} {l:List Item} (h:bL aJ 3 w (.slice a n c) l) {k:Nat} {x:Item} (hx:l[k]? = some x) :
 ∃g off,a=some ⟨g,off,none⟩∧w.cell? ⟨g,off+k * 3,none⟩=some (str x.key)∧w.cell? ⟨g,off+k * 3+1,none⟩=some (str x.val)∧w.cell? ⟨g,off+k * 3+2,none⟩=some (.int .i64 x.kind):=by
 cases h with
 | none=>simp at hx
 | some g off cap _ hc=>exact⟨g,off,rfl,hc k x 0 _ hx rfl,hc k x 1 _ hx rfl,hc k x 2 _ hx rfl⟩
theorem KD (v:Value) (l:List Item) (w:World) (h:bL aJ 3 w v l) (hs:aT l≤1073741824) :
 Calls Tryz.prog 194 #[v] w fun e w'=>e=.returned (.tuple #[str (iC l).1,.int .i64 (iC l).2])∧Only (fun _=>False) w w':=by
 have HR:=Lib.hid (DC v l w h (Nat.le_trans (jN l) hs))
 have hform:∃a c,v=.slice a l.length c:=by cases h with
  | none=>exact⟨_,_,rfl⟩
  | some g off cap=>exact⟨_,_,rfl⟩
 obtain⟨a,c,rfl⟩:=hform
 have HA:=Lib.hid h
 have HS:=Lib.hid hs
 clear h hs
 cases hr:bJ l with
 | false=>
  have hl:iC l=([],1):=by unfold iC;rw [if_neg (by rw [hr];exact Bool.noConfusion)]
  rw [hl]
  rw [hr] at HR
  clear hl hr
  go_enter Tryz.func194,Tryz.ntmps194
  go_wp2_with fail
  (with_reducible refine HR.out.mono ?_)
  rintro e w1 ⟨rfl,o1⟩
  go_wp2_with fail
  go_ret2
  exact⟨rfl,o1⟩
 | true=>
  rw [hr] at HR
  have HZ:∀w1,Only (fun _=>False) w w1→Calls Tryz.prog 212 #[.slice a l.length c] w1 fun e w'=>e=.returned (.int .i64 (aT l))∧Only (fun _=>False) w1 w':=
   fun w1 o1=>GH _ l w1 (aU HA.out o1 fun _ _=>id) HS.out
  have HZ:=Lib.hid HZ
  by_cases hb:232<aT l∨255<l.length
  ·have hl:iC l=([],2):=by unfold iC;rw [if_pos hr,if_pos hb]
   rw [hl]
   clear hl hr
   by_cases h1:232<aT l
   ·have h1:(232:Int)<(aT l:Int):=by omega
    clear hb
    go_enter Tryz.func194,Tryz.ntmps194
    go_wp2_with fail
    (with_reducible refine HR.out.mono ?_)
    rintro e w1 ⟨rfl,o1⟩
    have HZ:=Lib.hid (HZ.out w1 o1)
    go_wp2_with fail
    (with_reducible refine HZ.out.mono ?_)
    rintro e w2 ⟨rfl,o2⟩
    go_wp2_with fail
    go_ret2
    exact⟨rfl,o1.trans o2 (fun _ _ q=>q)⟩
   ·have h2:(255:Int)<(l.length:Int):=by omega
    have h1:¬(232:Int)<(aT l:Int):=by omega
    clear hb
    go_enter Tryz.func194,Tryz.ntmps194
    go_wp2_with fail
    (with_reducible refine HR.out.mono ?_)
    rintro e w1 ⟨rfl,o1⟩
    have HZ:=Lib.hid (HZ.out w1 o1)
    go_wp2_with fail
    (with_reducible refine HZ.out.mono ?_)
    rintro e w2 ⟨rfl,o2⟩
    go_wp2_with fail
    go_ret2
    exact⟨rfl,o1.trans o2 (fun _ _ q=>q)⟩
  ·have hl:iC l=(jT l,0):=by unfold iC;rw [if_pos hr,if_neg hb]
   rw [hl]
   have h1:¬(232:Int)<(aT l:Int):=by omega
   have h2:¬(255:Int)<(l.length:Int):=by omega
   have HF:=Lib.hid (show aT l≤232∧l.length≤255 by omega)
   have OI:=Lib.hid hr
   clear hb hl hr
   go_enter Tryz.func194,Tryz.ntmps194
   go_wp2_with fail
   (with_reducible refine HR.out.mono ?_)
   rintro e w1 ⟨rfl,o1⟩
   have HZ:=Lib.hid (HZ.out w1 o1)
   go_wp2_with fail
   (with_reducible refine HZ.out.mono ?_)
   rintro e w2 ⟨rfl,o2⟩
   have O2:=Lib.hid (o1.trans o2 (fun _ _ q=>q))
   clear o1 o2 HR HZ
   go_wp2_with fail
   have HP:=Lib.hid (xR _ _ _ _ _ (l.length:Int) ⟨by omega,by omega⟩ (rT w2 102) (by simp))
   rw [oH _ _ _ rfl (by omega)] at HP
   (with_reducible refine HP.out.mono ?_)
   rintro e w3 ⟨rfl,hp⟩
   have HP:=Lib.hid hp
   clear hp
   generalize w2.heap.size=p at *
   go_wp2_with fail
   go_loopg [27] l.length (fun gh i wr=>∃k:Nat,gh+k=l.length∧i=.int .i64 k∧bN (fun _=>False) w2 wr p ⟨bO l.length 1++(l.take k).flatMap encI,0⟩)
   case atStart=>exact⟨0,by omega,rfl,by simpa using HP.out⟩
   case round=>
    obtain⟨k,hg,rfl,hp⟩:=hrel
    by_cases hk:k<l.length
    ·obtain⟨x,hx⟩:∃x,l[k]? = some x:=⟨l[k],List.getElem?_eq_getElem hk⟩
     obtain⟨sv,hp⟩:=hp
     have Nn:=Lib.hid hp
     have HW:=Lib.hid (aU HA.out (O2.out.trans hp.since (fun _ _ q=>q)) (fun _ _=>id))
     clear hp
     obtain⟨g,off,rfl,c0,c1,c2⟩:=jL HW.out hx
     have hk2:(k:Int)<(l.length:Int):=by omega
     have hk0:(0:Int)≤(k:Int):=by omega
     have w4:IntKind.i64.wrap ((k:Int)+1)=(k:Int)+1:=by exact IntWalk.i64_in _ (by omega)
     have hok:dK x=true:=((aH l).1 OI.out).1 x (List.mem_of_getElem? hx)
     have UK:=Lib.hid hok
     simp only [dK,decide_eq_true_eq] at hok
     have hlen:(l.take k).flatMap encI++encI x=(l.take (k+1)).flatMap encI:=by
      have hx2:l[k]=x:=by rw [List.getElem?_eq_getElem hk] at hx;exact Option.some.inj hx
      rw [List.take_succ_eq_append_getElem hk,List.flatMap_append,hx2];simp
     have hle:(bO l.length 1++(l.take k).flatMap encI).length+(encI x).length≤300:=by
      have h1:=vF (l.take (k+1))
      have h2:=lQ l (k+1)
      rw [←hlen] at h1
      have:=HF.out.1
      simp only [List.length_append,bf] at h1 ⊢
      omega
     have hxl:=wH x
     have lX:Keyed.cost x=5+x.key.length+x.val.length:=rfl
     generalize hpre:bO l.length 1++(l.take k).flatMap encI=pre at *
     have JA:Hid (pre++bO x.kind.toNat 1++dV x.key++dV x.val=bO l.length 1++(l.take (k+1)).flatMap encI):=Lib.hid (by
      rw [←hlen,←List.append_assoc,hpre];simp [encI])
     clear hlen hpre hx HW UK HF
     go_wp2_with fail
     obtain⟨b0,b1,b2⟩:=yG wr x 131
     have wI:=Lib.hid (Nn.out.alloc (.cells #[str x.key,str x.val,.int .i64 x.kind] 131))
     have UL:p<wr.heap.size:=lt_of_cell Nn.out.c0
     have hBr:∀q,sv.ownBlock=some q→q<wr.heap.size:=fun q hq=>(Nn.out.own.lt q hq).2
     clear Nn
     change Hid (jy _ w2 (wr.alloc (.cells #[Value.string ⟨x.key.toArray⟩,Value.string ⟨x.val.toArray⟩,Value.int .i64 x.kind] 131)) p _ sv) at wI
     change (wr.alloc (.cells #[Value.string ⟨x.key.toArray⟩,Value.string ⟨x.val.toArray⟩,Value.int .i64 x.kind] 131)).cell? _=_ at b0 b1 b2
     generalize (wr.alloc (.cells #[Value.string ⟨x.key.toArray⟩,Value.string ⟨x.val.toArray⟩,Value.int .i64 x.kind] 131))=W at *
     generalize wr.heap.size=B at *
     clear c0 c1 c2
     have hB:∀w' s',bN (Lays p sv) W w' p s'→w'.cell? ⟨B,0,none⟩=some (str x.key)∧w'.cell? ⟨B,1,none⟩=some (str x.val)∧w'.cell? ⟨B,2,none⟩=some (.int .i64 x.kind):=by
      rintro w' s' ⟨Ms,q⟩
      have hn:¬Lays p sv B:=by rintro(q | q);omega;have:=hBr _ q;omega
      exact⟨(q.since.cell (p:=⟨B,0,none⟩) (lt_of_cell b0) hn).trans b0,(q.since.cell (p:=⟨B,1,none⟩) (lt_of_cell b1) hn).trans b1,(q.since.cell (p:=⟨B,2,none⟩) (lt_of_cell b2) hn).trans b2⟩
     have hS0:bN (Lays p sv) W W.drew p ⟨pre,0⟩:=⟨_,wI.out.here.drew⟩
     have RO:Hid (∀w',bN (Lays p sv) W w' p ⟨pre,0⟩→Calls Tryz.prog 214 #[.pointer (some ⟨p,0,none⟩),.int .i64 x.kind] w' fun e w''=>e=.returned (.pointer (some ⟨p,0,none⟩))∧bN (Lays p sv) W w'' p ⟨pre++bO x.kind.toNat 1,0⟩):=Lib.hid (fun w' h=>by
      have:=xR _ W w' p ⟨pre,0⟩ x.kind ⟨by omega,by omega⟩ h (by simp only;omega)
      have e:eB ⟨pre,0⟩ x.kind 1=⟨pre++bO x.kind.toNat 1,0⟩:=by unfold eB;rw [if_neg (by simp),if_neg (by omega)]
      rwa [e] at this)
     have Dc:Hid (∀w',bN (Lays p sv) W w' p ⟨pre++bO x.kind.toNat 1,0⟩→Calls Tryz.prog 215 #[.pointer (some ⟨p,0,none⟩),str x.key] w' fun e w''=>e=.returned (.pointer (some ⟨p,0,none⟩))∧bN (Lays p sv) W w'' p ⟨pre++bO x.kind.toNat 1++dV x.key,0⟩):=Lib.hid (fun w' h=>by
      have:=xS _ W w' p _ x.key h (by simp only [List.length_append,bf];omega) (by omega)
      rwa [vH _ _ rfl (by omega)] at this)
     have Tp:Hid (∀w',bN (Lays p sv) W w' p ⟨pre++bO x.kind.toNat 1++dV x.key,0⟩→Calls Tryz.prog 215 #[.pointer (some ⟨p,0,none⟩),str x.val] w' fun e w''=>e=.returned (.pointer (some ⟨p,0,none⟩))∧bN (Lays p sv) W w'' p ⟨pre++bO x.kind.toNat 1++dV x.key++dV x.val,0⟩):=Lib.hid (fun w' h=>by
      have:=xS _ W w' p _ x.val h (by simp only [dV,List.length_append,bf];omega) (by omega)
      rwa [vH _ _ rfl (by omega)] at this)
     generalize pre++bO x.kind.toNat 1++dV x.key++dV x.val=t3 at *
     generalize pre++bO x.kind.toNat 1++dV x.key=t2 at *
     generalize pre++bO x.kind.toNat 1=t1 at *
     clear b0 b1 b2 UL hBr
     have HB:=Lib.hid hB
     clear hB
     have q0:=hS0
     go_region_held3 (fun w'=>w'.cell? ⟨B,0,none⟩=some (str x.key)∧w'.cell? ⟨B,1,none⟩=some (str x.val)∧w'.cell? ⟨B,2,none⟩=some (.int .i64 x.kind)) (exact HB.out _ _ (by assumption)) (first |((with_reducible refine(RO.out _ (by assumption)).mono ?_);rintro _ _ ⟨rfl,hq1⟩) |((with_reducible refine(Dc.out _ (by assumption)).mono ?_);rintro _ _ ⟨rfl,hq2⟩) |((with_reducible refine(Tp.out _ (by assumption)).mono ?_);rintro _ _ ⟨rfl,hq3⟩))
     have HN:=Lib.hid (wI.out.back hq3)
     clear hq1 hq2 hq3 q0 hS0 RO Dc Tp HB wI
     go_wp2_with fail
     go_roundg (gk-1)
     case measure=>omega
     case rel=>exact⟨k+1,by omega,by go_num,by rw [←JA.out];exact HN.out⟩
    ·obtain rfl:k=l.length:=by omega
     rw [List.take_length] at hp
     have HE:=Lib.hid (xw _ _ _ _ _ hp)
     have HO:=Lib.hid (hp.choose_spec.since)
     clear hp
     go_wp2_with fail
     (with_reducible refine HE.out.mono ?_)
     rintro e w4 ⟨rfl,o4⟩
     go_wp2_with fail
     go_ret2
     exact⟨rfl,(O2.out.trans HO.out (fun _ _ q=>q)).trans o4 (fun _ _ q=>q)⟩
end
section
open Go.RowKit
theorem IJ (v n:Nat):gu (bO v n)=v % 256 ^ n:=by
 induction n with
 | zero=>simp [bO,gu,Nat.mod_one]
 | succ n ih=>rw [bO,qm,ih,bf,Nat.mod_pow_succ,UInt8.toNat_ofNat',Nat.mul_comm]
theorem DF (t r:Bytes):iw ⟨t++r,0⟩ t.length=(t,⟨r,0⟩):=by
 unfold iw
 rw [if_neg (by simp),if_neg (by omega),if_neg (by simp only [List.length_append];omega)]
 simp
theorem qH (v n:Nat) (r:Bytes) (hv:v<256 ^ n):iy ⟨bO v n++r,0⟩ n=(v,⟨r,0⟩):=by
 have h:=DF (bO v n) r
 rw [bf] at h
 unfold iy
 rw [h]
 simp only [IJ,Nat.mod_eq_of_lt hv]
theorem tL (t r:Bytes) (ht:t.length<65536):CP ⟨dV t++r,0⟩=(t,⟨r,0⟩):=by
 unfold CP dV
 rw [List.append_assoc,qH _ _ _ (by omega)]
 exact DF t r
theorem nA:(Tryz.prog.info? 131).map (fun i=>(i.zero,i.size,i.bytes))=some (some (.agg #[str [],str [],.int .i64 0]),3,40):=by kernel_rfl
theorem flat_get {α:Type} {enc:α→List Value} {k:Nat} (hk:∀x,(enc x).length=k) (xs:List α) (i j:Nat) (x:α) (u:Value) (hx:xs[i]? = some x) (hu:(enc x)[j]? = some u):(xs.flatMap enc)[i * k+j]? = some u:=by
 have hj:j<k:=by rw [←hk x];exact(List.getElem?_eq_some_iff.1 hu).1
 induction xs generalizing i with
 | nil=>simp at hx
 | cons y ys ih=>
  rw [List.flatMap_cons]
  cases i with
  | zero=>
   simp only [List.getElem?_cons_zero,Option.some.injEq] at hx
   subst hx
   rw [Nat.zero_mul,Nat.zero_add,List.getElem?_append_left (by rw [hk];exact hj)]
   exact hu
  | succ i=>
   rw [List.getElem?_cons_succ] at hx
   rw [List.getElem?_append_right (by rw [hk,Nat.succ_mul];omega),hk,Nat.succ_mul,show i * k+k+j-k=i * k+j by omega]
   exact ih i hx
theorem bS {α:Type} {enc:α→List Value} {k:Nat} {w:World} {ty:TypeId} {v:Value} {xs:List α} (hk:∀x,(enc x).length=k) (h:w.ownsRow 0 ty k v xs.length (xs.flatMap enc)):bL enc k w v xs:=by
 rcases h.2 with ⟨rfl,h0⟩ |⟨g,cap,cur,rfl,_⟩
 ·have:xs=[]:=List.eq_nil_of_length_eq_zero h0
  subst this
  exact .none
 ·refine .some g 0 cap xs fun i x j u hx hu=>aZ h (0+(i * k+j)) u ?_
  rw [Nat.zero_add]
  exact flat_get hk xs i j x u hx hu
theorem bg {v:Value} {w:World} {ty:TypeId} {k n:Nat} {xs:List Value} (h:w.ownsRow 0 ty k v n xs):bI v=v.ownBlock:=by
 rcases h.2 with ⟨rfl,_⟩ |⟨g,cap,cur,rfl,_⟩<;>rfl
theorem Np (l:List Item) (hr:bJ l=true) (h1:aT l≤232) (h2:l.length≤255) (w:World) :
 Calls Tryz.prog 177 #[str (jT l)] w fun e w'=>∃v,e=.returned (.tuple #[v,.int .i64 0])∧gN aJ 3 w' v l∧Only (fun _=>False) w w'∧∀b,bI v=some b→w.heap.size≤b:=by
 obtain⟨i0,hi,hz0,hz1,hz2⟩:=info_parts nA
 have hlen:=vF l
 have HB:∀g w',fU w' g ⟨jT l,0⟩→Calls Tryz.prog 201 #[.pointer (some ⟨g,0,none⟩)] w' fun e w''=>e=.returned (.int .i64 (l.length:Int))∧jA w' g ⟨l.flatMap encI,0⟩ w'':=fun g w' h=>by
  have:=xV g _ w' h (by simp only [jT,List.length_append,bf];omega)
  rwa [jT,qH _ _ _ (by omega)] at this
 have HB:=Lib.hid HB
 have XA:Hid (iC l=(jT l,0)):=Lib.hid (by unfold iC;rw [if_pos hr,if_neg (by omega)])
 have OI:=Lib.hid hr
 have HZ:=Lib.hid h1
 clear hr h1 hlen
 generalize hb:jT l=b at *
 have Wd:=Lib.hid hb
 clear hb
 go_enter Tryz.func177,Tryz.ntmps177
 go_wp2_with fail
 (with_reducible refine(uh b w).mono ?_)
 rintro e w1 ⟨rfl,hg,o1⟩
 have HB:=Lib.hid (HB.out _ _ hg)
 clear hg
 go_wp2_with fail
 (with_reducible refine HB.out.mono ?_)
 rintro e w2 ⟨rfl,hg,o2⟩
 have hw1:=o1.size
 have hgw:w.heap.size≤w.heap.size:=Nat.le_refl _
 have O2:Hid (Only (fun _=>False) w w2):=Lib.hid (o1.trans o2 (fun i hi q=>by omega))
 clear o1 o2 HB hw1
 generalize hgg:w.heap.size=g at *
 have HG:=Lib.hid hg
 clear hg
 go_wp2_with fail
 go_loopg [5,14] l.length (fun gh ov i wr=>∃k:Nat,gh+k=l.length∧i=.int .i64 k∧fU wr g ⟨(l.drop k).flatMap encI,0⟩∧wr.ownsRow 0 131 3 ov k ((l.take k).flatMap aJ)∧ov.ownBlock≠some g∧(∀q,ov.ownBlock=some q→w.heap.size≤q)∧Only (fun _=>False) w wr)
 case atStart=>exact⟨0,by omega,rfl,HG.out,⟨rfl,.inl ⟨rfl,rfl⟩⟩,by simp [Value.ownBlock],fun q hq=>by simp [Value.ownBlock] at hq,O2.out⟩
 case round=>
  obtain⟨k,u6,rfl,hgt,own,hne,hnew,ho⟩:=hrel
  by_cases hk:k<l.length
  ·obtain⟨x,hx⟩:∃x,l[k]? = some x:=⟨l[k],List.getElem?_eq_getElem hk⟩
   have hk2:(k:Int)<(l.length:Int):=by omega
   have w4:IntKind.i64.wrap ((k:Int)+1)=(k:Int)+1:=by exact IntWalk.i64_in _ (by omega)
   have hok:dK x=true:=((aH l).1 OI.out).1 x (List.mem_of_getElem? hx)
   simp only [dK,decide_eq_true_eq] at hok
   have hx2:l[k]=x:=by rw [List.getElem?_eq_getElem hk] at hx;exact Option.some.inj hx
   have htake:(l.take k).flatMap aJ++aJ x=(l.take (k+1)).flatMap aJ:=by
    rw [List.take_succ_eq_append_getElem hk,List.flatMap_append,hx2];simp
   have hdrop:(l.drop k).flatMap encI=bO x.kind.toNat 1++(dV x.key++(dV x.val++(l.drop (k+1)).flatMap encI)):=by
    rw [List.drop_eq_getElem_cons hk,List.flatMap_cons,hx2];simp [encI]
   have hdl:((l.drop k).flatMap encI).length≤300:=by
    have h1:=vF (l.drop k)
    have h2:=oZ l k
    have:=HZ.out
    omega
   rw [hdrop] at hgt hdl
   have lX:Keyed.cost x=5+x.key.length+x.val.length:=rfl
   simp only [List.length_append,bf] at hdl
   have HK:Hid (∀w',fU w' g ⟨bO x.kind.toNat 1++(dV x.key++(dV x.val++(l.drop (k+1)).flatMap encI)),0⟩→Calls Tryz.prog 201 #[.pointer (some ⟨g,0,none⟩)] w' fun e w''=>e=.returned (.int .i64 x.kind)∧jA w' g ⟨dV x.key++(dV x.val++(l.drop (k+1)).flatMap encI),0⟩ w''):=Lib.hid (fun w' h=>by
    have:=xV g _ w' h (by simp only [List.length_append,bf];omega)
    rw [qH _ _ _ (by omega)] at this
    simp only [Int.toNat_of_nonneg (show 0≤x.kind by omega)] at this
    exact this)
   have HT1:Hid (∀w',fU w' g ⟨dV x.key++(dV x.val++(l.drop (k+1)).flatMap encI),0⟩→Calls Tryz.prog 202 #[.pointer (some ⟨g,0,none⟩)] w' fun e w''=>e=.returned (str x.key)∧jA w' g ⟨dV x.val++(l.drop (k+1)).flatMap encI,0⟩ w''):=Lib.hid (fun w' h=>by
    have:=xW g _ w' h (by simp only [List.length_append];omega)
    rwa [tL _ _ (by omega)] at this)
   have HT2:Hid (∀w',fU w' g ⟨dV x.val++(l.drop (k+1)).flatMap encI,0⟩→Calls Tryz.prog 202 #[.pointer (some ⟨g,0,none⟩)] w' fun e w''=>e=.returned (str x.val)∧jA w' g ⟨(l.drop (k+1)).flatMap encI,0⟩ w''):=Lib.hid (fun w' h=>by
    have:=xW g _ w' h (by simp only [List.length_append];omega)
    rwa [tL _ _ (by omega)] at this)
   have QF:=Lib.hid htake
   have RP:=Lib.hid (show k+1≤255 by omega)
   have HOWN:=Lib.hid own
   have Mw:=Lib.hid hgt
   have HO:=Lib.hid ho
   have jo:=Lib.hid hnew
   have PY:g<wr.heap.size:=lt_of_cell hgt.c0
   clear htake hdrop hdl own hgt ho hnew hx2 hx hok lX
   generalize bO x.kind.toNat 1++(dV x.key++(dV x.val++(l.drop (k+1)).flatMap encI))=r0 at *
   generalize dV x.key++(dV x.val++(l.drop (k+1)).flatMap encI)=r1 at *
   generalize dV x.val++(l.drop (k+1)).flatMap encI=r2 at *
   generalize h3:(l.drop (k+1)).flatMap encI=r3 at *
   have H3:=Lib.hid h3
   clear h3
   go_wp2_with fail
   (with_reducible refine(HK.out _ Mw.out).mono ?_)
   rintro e wa ⟨rfl,ga,oa⟩
   have HOWN:=Lib.hid (aP HOWN.out oa (fun q hq e=>hne (e▸hq)))
   have HO:=Lib.hid (HO.out.trans oa (fun i hi e=>by omega))
   have GA:=Lib.hid ga
   have PZ:g<wa.heap.size:=lt_of_cell ga.c0
   have KE:∀q,u5.ownBlock=some q→q<wa.heap.size:=fun q hq=>(HOWN.out.lt q hq).2
   clear ga oa Mw HK PY
   go_wp2_with fail
   obtain⟨b0,b1,b2⟩:=yG wa ⟨[],[],x.kind⟩ 131
   have z0:(wa.alloc (.cells #[str [],str [],.int .i64 x.kind] 131)).frozen? ⟨wa.heap.size,0,none⟩=false:=by simp only [World.frozen?,heap_alloc_new];rfl
   have z1:(wa.alloc (.cells #[str [],str [],.int .i64 x.kind] 131)).frozen? ⟨wa.heap.size,1,none⟩=false:=by simp only [World.frozen?,heap_alloc_new];rfl
   have oW:=(Only.refl (fun _=>False) wa).alloc (.cells #[str [],str [],.int .i64 x.kind] 131)
   have HOWN:=Lib.hid (aP HOWN.out oW (fun _ _=>id))
   have HO:=Lib.hid (HO.out.trans oW (fun _ _=>id))
   have GA:=Lib.hid (GA.out.only oW id)
   clear oW
   change (wa.alloc (.cells #[Value.string { data:=#[] },Value.string { data:=#[] },.int .i64 x.kind] 131)).cell? _=_ at b0 b1 b2
   change (wa.alloc (.cells #[Value.string { data:=#[] },Value.string { data:=#[] },.int .i64 x.kind] 131)).frozen? _=_ at z0 z1
   change Hid (Only _ w (wa.alloc (.cells #[Value.string { data:=#[] },Value.string { data:=#[] },.int .i64 x.kind] 131))) at HO
   change Hid (fU (wa.alloc (.cells #[Value.string { data:=#[] },Value.string { data:=#[] },.int .i64 x.kind] 131)) g _) at GA
   change Hid ((wa.alloc (.cells #[Value.string { data:=#[] },Value.string { data:=#[] },.int .i64 x.kind] 131)).ownsRow 0 _ _ _ _ _) at HOWN
   generalize (wa.alloc (.cells #[Value.string { data:=#[] },Value.string { data:=#[] },.int .i64 x.kind] 131))=W at *
   generalize wa.heap.size=B at *
   have hBg:B≠g:=by omega
   have hBr:∀q,u5.ownBlock=some q→q≠B:=fun q hq e=>by have:=KE q hq;omega
   have hBW:=lt_of_cell b0
   have hnw:w.heap.size≤B:=by omega
   clear KE PZ
   (with_reducible refine(HT1.out _ GA.out).mono ?_)
   rintro e wc ⟨rfl,gc,oc⟩
   have b0:=(oc.cell (p:=⟨B,0,none⟩) hBW hBg).trans b0
   have b1:=(oc.cell (p:=⟨B,1,none⟩) hBW hBg).trans b1
   have b2:=(oc.cell (p:=⟨B,2,none⟩) hBW hBg).trans b2
   have z0:=(oc.frozen (p:=⟨B,0,none⟩) hBW hBg).trans z0
   have z1:=(oc.frozen (p:=⟨B,1,none⟩) hBW hBg).trans z1
   have HOWN:=Lib.hid (aP HOWN.out oc (fun q hq e=>hne (e▸hq)))
   have HO:=Lib.hid (HO.out.trans oc (fun i hi e=>by omega))
   have QG:=lt_of_cell b0
   have GC:=Lib.hid gc
   clear gc oc GA HT1
   go_wp2_with fail
   (with_reducible refine(HT2.out _ GC.out).mono ?_)
   rintro e wd ⟨rfl,gd,od⟩
   have b0:=(od.cell (p:=⟨B,0,none⟩) QG hBg).trans b0
   have b1:=(od.cell (p:=⟨B,1,none⟩) QG hBg).trans b1
   have b2:=(od.cell (p:=⟨B,2,none⟩) QG hBg).trans b2
   have z0:=(od.frozen (p:=⟨B,0,none⟩) QG hBg).trans z0
   have z1:=(od.frozen (p:=⟨B,1,none⟩) QG hBg).trans z1
   have HOWN:=Lib.hid (aP HOWN.out od (fun q hq e=>hne (e▸hq)))
   have HO:=Lib.hid (HO.out.trans od (fun i hi e=>by omega))
   have hBd:=lt_of_cell b0
   have GD:=Lib.hid gd
   clear gd od GC HT2 QG
   have hBw:B<w.heap.size→False:=fun q=>by omega
   have hgd2:g<wd.heap.size:=lt_of_cell GD.out.c0
   have HO:=Lib.hid ((HO.out.setCell (p:=⟨B,0,none⟩) hBw (str x.key)).setCell (p:=⟨B,1,none⟩) hBw (str x.val))
   have hY:((wd.setCell ⟨B,0,none⟩ (str x.key)).setCell ⟨B,1,none⟩ (str x.val)).heap.size=wd.heap.size:=by simp [World.setCell]
   have HC:=bH ((wd.setCell ⟨B,0,none⟩ (str x.key)).setCell ⟨B,1,none⟩ (str x.val)) (aJ x) 131 (0,0)
   rw [hY] at HC
   have HC:=Lib.hid HC
   have UM:Hid (Only (fun q=>u5.ownBlock=some q∨q=B) wd (((wd.setCell ⟨B,0,none⟩ (str x.key)).setCell ⟨B,1,none⟩ (str x.val)).alloc (.cells (aJ x).toArray 131 (0,0)))):=
    Lib.hid ((((Only.refl _ wd).setCell (p:=⟨B,0,none⟩) (fun _=>.inr rfl) (str x.key)).setCell (p:=⟨B,1,none⟩) (fun _=>.inr rfl) (str x.val)).alloc _)
   have HOWN:=Lib.hid (aP (dB (dB HOWN.out (fun e=>hBr _ e rfl) 0 (str x.key)) (fun e=>hBr _ e rfl) 1 (str x.val)) ((Only.refl (fun _=>False) _).alloc (.cells (aJ x).toArray 131 (0,0))) (fun _ _=>id))
   have HO:=Lib.hid (HO.out.alloc (.cells (aJ x).toArray 131 (0,0)))
   have hX:(((wd.setCell ⟨B,0,none⟩ (str x.key)).setCell ⟨B,1,none⟩ (str x.val)).alloc (.cells (aJ x).toArray 131 (0,0))).heap.size=wd.heap.size+1:=by rw [←hY];simp
   have hkl:((l.take k).flatMap aJ).length=k * 3:=HOWN.out.1
   go_wp2_with (at_builtin;refine aM _ rfl _ _ 140 rfl 131 i0 _ 3 40 Tryz.underlying140 hi hz0 hz1 hz2 rfl (by decide) _ _ _ rfl HOWN.out ⟨wd.heap.size,0,none⟩ 1 1 (aJ x) rfl rfl HC.out (by simp [aJ,Value.oneCell']) (by unfold maxLen;have:=RP.out;omega) (by have:=RP.out;omega) ?_;intro a' c' wx hown2 hgr hmv;have HX:=Lib.hid (And.intro hown2 (And.intro hgr hmv));clear hown2 hgr hmv)
   go_roundg (gk-1)
   case measure=>omega
   case rel=>
    obtain⟨hown2,hgr,hmv⟩:=HX.out
    rw [QF.out] at hown2
    have hq:=UM.out.grown hgr (fun q _ e=>.inl e)
    refine⟨k+1,by omega,by go_num,by rw [H3.out];exact GD.out.only hq (fun e=>e.elim hne (fun e=>hBg e.symm)),hown2,fun e=>?_,fun q e=>?_,HO.out.grown hgr (fun q hq2 e=>?_)⟩
    ·rcases hmv _ e with e | e
     ·exact hne e
     ·have:wd.heap.size+1≤g:=by rw [←hX];exact e
      omega
    ·rcases hmv _ e with e | e
     ·exact jo.out q e
     ·have:wd.heap.size+1≤q:=by rw [←hX];exact e
      omega
    ·have:=jo.out q e;omega
  ·obtain rfl:k=l.length:=by omega
   rw [List.take_length] at own
   rw [List.drop_length] at hgt
   have HE:Calls Tryz.prog 203 #[.pointer (some ⟨g,0,none⟩)] wr fun e w'=>e=.returned (.int .i64 0)∧jA wr g ⟨[],0⟩ w':=Gi g ⟨[],0⟩ wr hgt
   have HE:=Lib.hid HE
   have HOWN:=Lib.hid own
   have HO:=Lib.hid ho
   have jo:=Lib.hid hnew
   clear own hgt ho hnew
   go_wp2_with fail
   (with_reducible refine HE.out.mono ?_)
   rintro e wa ⟨rfl,ga,oa⟩
   have hrow:=aP HOWN.out oa (fun q hq e=>hne (e▸hq))
   have UN:=Lib.hid (bg hrow)
   have OJ:=Lib.hid (dQ hrow)
   have iX:=Lib.hid (bS (enc:=aJ) (k:=3) (xs:=l) (fun _=>rfl) hrow)
   have HO:=Lib.hid (HO.out.trans oa (fun i hi e=>by omega))
   have RQ:=Lib.hid (KD _ l wa iX.out (by have:=HZ.out;omega))
   rw [XA.out] at RQ
   clear ga oa HE hrow
   go_wp2_with fail
   (with_reducible refine RQ.out.mono ?_)
   rintro e wb ⟨rfl,ob⟩
   have hbb:(b == b)=true:=by simp
   go_wp2_with fail
   go_ret2
   exact⟨_,rfl,⟨aU iX.out ob (fun _ _=>id),OJ.out⟩,HO.out.trans ob (fun _ _=>id),fun q hq=>jo.out q (by rw [←UN.out];exact hq)⟩
end
section
open Go.RowKit
theorem Am (g:Nat) (cap:Array Value) (n:Nat) (p:Nat→Bool) (w:World) (hg:∀args w,(callFunc g args).run Tryz.prog w=.ok (.enter g args) w) (hn:n≤1073741824)
 (hp:∀w',Only (fun _=>False) w w'→∀i:Nat,i<n→Calls Tryz.prog g (#[.int .i64 i]++cap) w' fun e w''=>e=.returned (.bool (p i))∧Only (fun _=>False) w' w'')
 (m:Nat) (hm:m≤n) (hlo:∀i,i<m→p i=false) (hhi:∀i,m≤i→i<n→p i=true) :
 Calls Tryz.prog 179 #[.int .i64 (n:Int),.func (.func g) #[] cap] w fun e w'=>e=.returned (.int .i64 (m:Int))∧Only (fun _=>False) w w':=by
 have HP:=Lib.hid hp
 have XB:=Lib.hid hlo
 have XC:=Lib.hid hhi
 clear hp hlo hhi
 go_enter Tryz.func179,Tryz.ntmps179
 go_wp2_with fail
 go_loopg [5,6] n (fun gh a b wr=>∃lo hi:Nat,a=.int .i64 lo∧b=.int .i64 hi∧lo≤m∧m≤hi∧hi≤n∧hi-lo≤gh∧Only (fun _=>False) w wr)
 case atStart=>exact⟨0,n,rfl,rfl,by omega,hm,by omega,by omega,Only.refl _ _⟩
 case round=>
  obtain⟨lo,hi,rfl,rfl,h1,h2,h3,h4,ho⟩:=hrel
  have HO:=Lib.hid ho
  clear ho
  by_cases hlt:lo<hi
  ·have hc:=HP.out wr HO.out ((lo+hi) / 2) (by omega)
   rw [show (((lo+hi) / 2:Nat):Int)=((lo:Int)+(hi:Int)) / 2 by omega] at hc
   have hi2:(lo:Int)<(hi:Int):=by omega
   cases hb:p ((lo+hi) / 2) with
   | false=>
    have hml:(lo+hi) / 2<m:=by
     apply Classical.byContradiction
     intro q
     rw [XC.out _ (by omega) (by omega)] at hb
     cases hb
    rw [hb] at hc
    have HC:=Lib.hid hc
    clear hc hb
    go_wp2_with fail
    (with_reducible refine HC.out.mono ?_)
    rintro e w9 ⟨rfl,o9⟩
    have HO:=Lib.hid (HO.out.trans o9 (fun _ _=>id))
    have w1:IntKind.i64.wrap (((lo:Int)+(hi:Int)) / 2+1)=((lo:Int)+(hi:Int)) / 2+1:=by exact IntWalk.i64_in _ (by omega)
    clear o9 HC
    go_wp2_with fail
    go_roundg (hi-((lo+hi) / 2+1))
    case measure=>omega
    case rel=>exact⟨(lo+hi) / 2+1,hi,by congr 1,rfl,by omega,h2,h3,by omega,HO.out⟩
   | true=>
    have hml:m≤(lo+hi) / 2:=by
     apply Classical.byContradiction
     intro q
     rw [XB.out _ (by omega)] at hb
     cases hb
    rw [hb] at hc
    have HC:=Lib.hid hc
    clear hc hb
    go_wp2_with fail
    (with_reducible refine HC.out.mono ?_)
    rintro e w9 ⟨rfl,o9⟩
    have HO:=Lib.hid (HO.out.trans o9 (fun _ _=>id))
    clear o9 HC
    go_wp2_with fail
    go_roundg ((lo+hi) / 2-lo)
    case measure=>omega
    case rel=>exact⟨lo,(lo+hi) / 2,rfl,by congr 1,h1,hml,by omega,by omega,HO.out⟩
  ·obtain rfl:lo=m:=by omega
   go_wp2_with fail
   go_ret
   exact⟨rfl,HO.out⟩
theorem KF (v:Value) (l:List Item) (key:Bytes) (b2 b3 i:Nat) (x:Item) (w:World) (h:bL aJ 3 w v l) (c2:w.cell? ⟨b2,0,none⟩=some v) (c3:w.cell? ⟨b3,0,none⟩=some (str key)) (hx:l[i]? = some x) (hn:l.length≤1073741824) :
 Calls Tryz.prog 180 #[.int .i64 (i:Int),.pointer (some ⟨b2,0,none⟩),.pointer (some ⟨b3,0,none⟩)] w fun e w'=>e=.returned (.bool (!Op.bytesLess x.key key))∧Only (fun _=>False) w w':=by
 have hform:∃a c,v=.slice a l.length c:=by cases h with
  | none=>exact⟨_,_,rfl⟩
  | some g off cap=>exact⟨_,_,rfl⟩
 obtain⟨a,c,rfl⟩:=hform
 have hi:i<l.length:=(List.getElem?_eq_some_iff.1 hx).1
 obtain⟨g,off,rfl,c0,_,_⟩:=jL h hx
 have hi1:(i:Int)<(l.length:Int):=by omega
 have hi0:(0:Int)≤(i:Int):=by omega
 clear h hx
 go_enter Tryz.func180,Tryz.ntmps180
 go_wp2_with fail
 have q0:∀p:fu w,p.u.cell? ⟨g,off+i * 3,none⟩=some (str x.key):=fun p=>p.cell c0
 have q2:∀p:fu w,p.u.cell? ⟨b2,0,none⟩=some (.slice (some ⟨g,off,none⟩) l.length c):=fun p=>p.cell c2
 have q3:∀p:fu w,p.u.cell? ⟨b3,0,none⟩=some (str key):=fun p=>p.cell c3
 refine bD (by kernel_rfl) (by kernel_rfl) (fun _W h0 h1=>?_)
 repeat (refine h1 _ _ _ (fun K hK=>?_);go_simp;(refine hK _ ?_;clear hK K))
 refine h0 _ (fun p=>?_)
 clear h0 h1
 go_wp2_with fail
 go_ret
 exact⟨by simp,p.h⟩
def pX (l:List Item) (key:Bytes):Bool:=match l[findAt l key]? with
 | some x=>x.key == key
 | none=>false
theorem BN (args:Array Value) (w:World):(callFunc 180 args).run Tryz.prog w=.ok (.enter 180 args) w:=Go.MuLone.run_callFunc_enter Tryz.func180 (by kernel_rfl) rfl args w
theorem Ao (w:World) (u v:Value) (s t:TypeId):((w.alloc (.cells #[u] s)).alloc (.cells #[v] t)).cell? ⟨w.heap.size,0,none⟩=some u∧((w.alloc (.cells #[u] s)).alloc (.cells #[v] t)).cell? ⟨w.heap.size+1,0,none⟩=some v:=by
 refine⟨?_,?_⟩
 ·have h1:(w.alloc (.cells #[u] s)).cell? ⟨w.heap.size,0,none⟩=some u:=by simp only [World.cell?,heap_alloc_new];rfl
  exact(((Only.refl (fun _=>False) (w.alloc (.cells #[u] s))).alloc (.cells #[v] t)).cell (p:=⟨w.heap.size,0,none⟩) (by simp) id).trans h1
 ·have e:(w.alloc (.cells #[u] s)).heap.size=w.heap.size+1:=by simp
  rw [←e]
  simp only [World.cell?,heap_alloc_new];rfl
theorem xD (v:Value) (l:List Item) (key:Bytes) (w:World) (h:bL aJ 3 w v l) (hr:bF l) (hn:l.length≤1073741824) :
 Calls Tryz.prog 146 #[v,str key] w fun e w'=>e=.returned (.tuple #[.int .i64 (findAt l key:Nat),.bool (pX l key)])∧Only (fun _=>False) w w':=by
 have hform:∃a c,v=.slice a l.length c:=by cases h with
  | none=>exact⟨_,_,rfl⟩
  | some g off cap=>exact⟨_,_,rfl⟩
 obtain⟨a,c,rfl⟩:=hform
 have HA:=Lib.hid h
 have HR:=Lib.hid hr
 have HN:=Lib.hid hn
 clear h hr
 go_enter Tryz.func146,Tryz.ntmps146
 go_wp2_with fail
 obtain⟨c2,c3⟩:=Ao w (.slice a l.length c) (str key) 140 9
 have oW:=((Only.refl (fun _=>False) w).alloc (.cells #[.slice a l.length c] 140)).alloc (.cells #[str key] 9)
 have HA:=Lib.hid (aU HA.out oW (fun _ _=>id))
 have HW:=Lib.hid oW
 clear oW
 generalize (w.alloc (.cells #[.slice a l.length c] 140)).alloc (.cells #[str key] 9)=W at *
 generalize w.heap.size+1=b3 at *
 generalize w.heap.size=b2 at *
 have hl2:=lt_of_cell c2
 have hl3:=lt_of_cell c3
 have hS:=Am 180 #[.pointer (some ⟨b2,0,none⟩),.pointer (some ⟨b3,0,none⟩)] l.length (fun i=>match l[i]? with | some x=>!Op.bytesLess x.key key | none=>true) W BN HN.out
  (fun w' o i hi=>by
   have hx:l[i]? = some l[i]:=List.getElem?_eq_getElem hi
   rw [hx]
   exact KF _ l key b2 b3 i l[i] w' (aU HA.out o (fun _ _=>id)) ((o.cell hl2 id).trans c2) ((o.cell hl3 id).trans c3) hx HN.out)
  (findAt l key) (lq l key)
  (fun i hi=>by
   have hil:i<l.length:=by have:=lq l key;omega
   have hx:l[i]? = some l[i]:=List.getElem?_eq_getElem hil
   have:l[i].key<key:=(Ad HR.out key i _ hx).1 hi
   simp only [hx,bytesLess_eq]
   rw [decide_eq_true this];rfl)
  (fun i hi hin=>by
   have hx:l[i]? = some l[i]:=List.getElem?_eq_getElem hin
   have:¬l[i].key<key:=fun q=>by have:=(Ad HR.out key i _ hx).2 q;omega
   simp only [hx,bytesLess_eq]
   rw [decide_eq_false this];rfl)
 have HS:=Lib.hid hS
 clear hS
 (with_reducible refine HS.out.mono ?_)
 rintro e w1 ⟨rfl,o1⟩
 have c2:=(o1.cell hl2 id).trans c2
 have c3:=(o1.cell hl3 id).trans c3
 have HA:=Lib.hid (aU HA.out o1 (fun _ _=>id))
 have HW:=Lib.hid (HW.out.trans o1 (fun _ _=>id))
 clear o1 HS hl2 hl3
 have hle:=lq l key
 have HI:Hid (pX l key=(match l[findAt l key]? with | some x=>x.key == key | none=>false)):=Lib.hid rfl
 generalize hkk:findAt l key=k at *
 have HKK:=Lib.hid hkk
 clear hkk
 have hk0:(0:Int)≤(k:Int):=by omega
 by_cases hk:k<l.length
 ·obtain⟨x,hx⟩:∃x,l[k]? = some x:=⟨l[k],List.getElem?_eq_getElem hk⟩
  rw [hx] at HI
  obtain⟨g,off,rfl,c0,_,_⟩:=jL HA.out hx
  have hk1:(k:Int)<(l.length:Int):=by omega
  have q0:∀p:fu w1,p.u.cell? ⟨g,off+k * 3,none⟩=some (str x.key):=fun p=>p.cell c0
  have q2:∀p:fu w1,p.u.cell? ⟨b2,0,none⟩=some (.slice (some ⟨g,off,none⟩) l.length c):=fun p=>p.cell c2
  have q3:∀p:fu w1,p.u.cell? ⟨b3,0,none⟩=some (str key):=fun p=>p.cell c3
  clear hx
  go_wp2_with fail
  refine bD (by kernel_rfl) (by kernel_rfl) (fun _W h0 h1=>?_)
  repeat (refine h1 _ _ _ (fun K hK=>?_);go_simp;(refine hK _ ?_;clear hK K))
  refine h0 _ (fun p=>?_)
  clear h0 h1
  go_wp2_with fail
  go_ret2
  exact⟨by rw [HI.out,HKK.out];rfl,HW.out.trans p.h (fun _ _=>id)⟩
 ·have hk1:¬(k:Int)<(l.length:Int):=by omega
  rw [List.getElem?_eq_none (by omega)] at HI
  have q2:∀p:fu w1,p.u.cell? ⟨b2,0,none⟩=some (.slice a l.length c):=fun p=>p.cell c2
  go_wp2_with fail
  refine bD (by kernel_rfl) (by kernel_rfl) (fun _W h0 h1=>?_)
  repeat (refine h1 _ _ _ (fun K hK=>?_);go_simp;(refine hK _ ?_;clear hK K))
  refine h0 _ (fun p=>?_)
  clear h0 h1
  go_wp2_with fail
  go_ret2
  exact⟨by rw [HI.out,HKK.out];rfl,HW.out.trans p.h (fun _ _=>id)⟩
end
end Go.Proofs.YtbhiamcmiopnoaaGreatDoor
