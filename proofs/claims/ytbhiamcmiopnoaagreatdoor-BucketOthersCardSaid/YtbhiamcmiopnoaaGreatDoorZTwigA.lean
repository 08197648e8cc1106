/- Package twig: which children can be, how many bytes they need, their order. Conditions: the children lie in memory; fewer than 2^30 bytes. -/
import Derived.Test.YtbhiamcmiopnoaaGreatDoorZLeaf6
import Derived.Test.YtbhiamcmiopnoaaGreatDoorZPlain
set_option maxHeartbeats 4000000
set_option maxRecDepth 100000
namespace Go.Proofs.YtbhiamcmiopnoaaGreatDoor
section
open Go.RowKit
def aR (i:Kid):List Value:=[str i.key,.int .i64 i.page]
def P6 (i:Kid):Value:=.agg (aR i).toArray
theorem Fu {w wr:World} {g off:Nat} {l:List Kid} (hc:∀(i:Nat) (x:Kid) (j:Nat) (u:Value),l[i]? = some x→(aR x)[j]? = some u→w.cell? ⟨g,off+(i * 2+j),none⟩=some u) {S:Nat→Prop} (ho:Only S w wr) (hg:¬S g) {k:Nat} {x:Kid} (hx:l[k]? = some x) :
 wr.cell? ⟨g,off+k * 2,none⟩=some (str x.key)∧wr.cell? ⟨g,off+k * 2+1,none⟩=some (.int .i64 x.page)∧g<w.heap.size:=by
 have hb:=lt_of_cell (hc k _ 0 _ hx rfl)
 exact⟨(ho.cell (p:=⟨g,off+(k * 2+0),none⟩) hb hg).trans (hc k _ 0 _ hx rfl),(ho.cell (p:=⟨g,off+(k * 2+1),none⟩) hb hg).trans (hc k _ 1 _ hx rfl),hb⟩
theorem IL (i:Kid) (w:World):Calls Tryz.prog 234 #[P6 i] w fun e w'=>e=.returned (.bool (fF i))∧Only (fun _=>False) w w':=by
 unfold P6 aR
 go_enter Tryz.func234,Tryz.ntmps234
 go_wp2_with fail
 all_goals
  go_ret
  refine⟨congrArg (fun b=>Ending.returned (Value.bool b)) ?_,(Only.refl _ w).alloc _⟩
  unfold fF
  first
  | exact(decide_eq_false (by omega)).symm
  | exact decide_eq_decide.2 (by omega)
theorem pQ (l:List Kid):l.length≤aT l:=by
 induction l with
 | nil=>simp
 | cons a l ih=>
  rw [bC,List.length_cons]
  have:Keyed.cost a=4+a.key.length:=rfl
  omega
theorem DJ (v:Value) (l:List Kid) (w:World) (h:bL aR 2 w v l) (hs:aT l≤1073741824) :
 Calls Tryz.prog 225 #[v] w fun e w'=>e=.returned (.int .i64 (aT l))∧Only (fun _=>False) w w':=by
 cases h with
 | none=>
  go_enter Tryz.func225,Tryz.ntmps225
  go_wp2_with fail
  refine wp_loop_rounds 1 ?_
  rw [rounds_succ]
  go_wp2_with fail
  go_ret
  exact⟨rfl,Only.refl _ _⟩
 | some g off cap _ hc=>
  have HS:=Lib.hid hs
  have HC:=Lib.hid hc
  clear hs hc
  go_enter Tryz.func225,Tryz.ntmps225
  go_wp2_with fail
  go_loopg [3,8] l.length (fun gh n i wr=>∃k:Nat,gh+k=l.length∧n=.int .i64 (aT (l.take k))∧i=.int .i64 k∧Only (fun _=>False) w wr)
  case atStart=>exact⟨0,by omega,by simp [aT],rfl,Only.refl _ _⟩
  case round=>
   obtain⟨k,hg,rfl,rfl,ho⟩:=hrel
   by_cases hk:k<l.length
   ·have hx:l[k]? = some l[k]:=List.getElem?_eq_getElem hk
    have hst:=tq l k hk
    have lX:Keyed.cost l[k]=4+l[k].key.length:=rfl
    have hle:aT (l.take (k+1))≤1073741824:=Nat.le_trans (lQ l (k+1)) HS.out
    obtain⟨c0,c1,hb⟩:=Fu HC.out ho (fun q=>q) hx
    have hk2:(k:Int)<(l.length:Int):=by omega
    have w1:IntKind.i64.wrap (4+(l[k].key.length:Int))=4+(l[k].key.length:Int):=by exact IntWalk.i64_in _ (by omega)
    have w3:IntKind.i64.wrap ((aT (l.take k):Int)+(4+(l[k].key.length:Int)))=(aT (l.take (k+1)):Int):=by rw [IntWalk.i64_in _ (by omega)];omega
    have w4:IntKind.i64.wrap ((k:Int)+1)=(k:Int)+1:=by
     have:l.length≤aT l:=pQ l
     have:=HS.out
     exact IntWalk.i64_in _ (by omega)
    generalize l[k]=x at *
    have HO:=Lib.hid ho
    go_wp2_with fail
    go_roundg (gk-1)
    case measure=>omega
    case rel=>exact⟨k+1,by omega,congrArg (Value.int .i64) (by omega),by go_num,HO.out.alloc _⟩
   ·obtain rfl:k=l.length:=by omega
    rw [List.take_length]
    go_wp2_with fail
    go_ret
    exact⟨rfl,ho⟩
theorem Ap (v:Value) (l:List Kid) (w:World) (h:bL aR 2 w v l) (hs:l.length≤1073741824) :
 Calls Tryz.prog 224 #[v] w fun e w'=>e=.returned (.bool (bJ l))∧Only (fun _=>False) w w':=by
 cases h with
 | none=>
  go_enter Tryz.func224,Tryz.ntmps224
  go_wp2_with fail
  refine wp_loop_rounds 1 ?_
  rw [rounds_succ]
  go_wp2_with fail
  go_ret
  exact⟨rfl,Only.refl _ _⟩
 | some g off cap _ hc=>
  have HS:=Lib.hid hs
  have HC:=Lib.hid hc
  clear hs hc
  go_enter Tryz.func224,Tryz.ntmps224
  go_wp2_with fail
  go_loopg [7] l.length (fun gh i wr=>∃k:Nat,gh+k=l.length∧i=.int .i64 k∧Only (fun _=>False) w wr∧∀j,j<k→qb l j=true)
  case atStart=>exact⟨0,by omega,rfl,Only.refl _ _,fun j hj=>by omega⟩
  case round=>
   obtain⟨k,hg,rfl,ho,hj⟩:=hrel
   by_cases hk:k<l.length
   ·obtain⟨x,hx⟩:∃x,l[k]? = some x:=⟨l[k],List.getElem?_eq_getElem hk⟩
    obtain⟨c0,c1,hb⟩:=Fu HC.out ho (fun q=>q) hx
    have hk2:(k:Int)<(l.length:Int):=by omega
    have w4:IntKind.i64.wrap ((k:Int)+1)=(k:Int)+1:=by have:=HS.out;exact IntWalk.i64_in _ (by omega)
    have HO:=Lib.hid ho
    have HJ:=Lib.hid hj
    have HX:=Lib.hid hx
    have HV:=Lib.hid (IL x)
    unfold P6 aR at HV
    have hk0:(0:Int)≤(k:Int):=by omega
    clear hj hx
    go_wp2_with fail
    have HOW:=Lib.hid (HO.out.alloc (.cells #[Value.string ⟨x.key.toArray⟩,Value.int .i64 x.page] 185))
    have b0:(wr.alloc (.cells #[Value.string ⟨x.key.toArray⟩,Value.int .i64 x.page] 185)).cell? ⟨wr.heap.size,0,none⟩=some (str x.key):=by simp only [World.cell?,heap_alloc_new];rfl
    have b1:(wr.alloc (.cells #[Value.string ⟨x.key.toArray⟩,Value.int .i64 x.page] 185)).cell? ⟨wr.heap.size,1,none⟩=some (.int .i64 x.page):=by simp only [World.cell?,heap_alloc_new];rfl
    generalize (wr.alloc (.cells #[Value.string ⟨x.key.toArray⟩,Value.int .i64 x.page] 185))=W at *
    generalize wr.heap.size=B at *
    clear c0 c1
    have q0:∀p:fu W,p.u.cell? ⟨B,0,none⟩=some (str x.key):=fun p=>p.cell b0
    have q1:∀p:fu W,p.u.cell? ⟨B,1,none⟩=some (.int .i64 x.page):=fun p=>p.cell b1
    clear b0 b1
    cases hv:fF x with
    | false=>
     rw [hv] at HV
     have hn:qb l k=false:=Dz HX.out hv
     have hn:=Lib.hid (rQ hk hn)
     have hkb:∃b:Bool,decide ((0:Int)<(k:Int))=b:=⟨_,rfl⟩
     obtain⟨b,hkb⟩:=hkb
     refine bD (by kernel_rfl) (by kernel_rfl) (fun _W h0 h1=>?_)
     repeat (refine h1 _ _ _ (fun K hK=>?_);go_simp;first |(refine hK _ ?_;clear hK K) |(apply Exists.intro;refine⟨fun _=>?_,hK _ ?_⟩;(refine fu.calls _ (HV.out _));clear hK K))
     refine h0 _ (fun p=>?_)
     clear h0 h1
     go_wp2_with fail
     go_ret
     exact⟨by rw [hn.out];rfl,HOW.out.trans p.h (fun _ _ q=>q)⟩
    | true=>
     rw [hv] at HV
     cases k with
     | zero=>
      have HN:Hid (qb l 0=true):=Lib.hid ((rP HX.out).trans hv)
      clear hv
      refine bD (by kernel_rfl) (by kernel_rfl) (fun _W h0 h1=>?_)
      repeat (refine h1 _ _ _ (fun K hK=>?_);go_simp;first |(refine hK _ ?_;clear hK K) |(apply Exists.intro;refine⟨fun _=>?_,hK _ ?_⟩;(refine fu.calls _ (HV.out _));clear hK K))
      refine h0 _ (fun p=>?_)
      clear h0 h1
      go_wp2_with fail
      go_roundg (gk-1)
      case measure=>omega
      case rel=>exact⟨1,by omega,by go_num,HOW.out.trans p.h (fun _ _ q=>q),fun j hj=>(show j=0 by omega)▸HN.out⟩
     | succ m=>
      obtain⟨y,hy⟩:∃y,l[m]? = some y:=⟨l[m],List.getElem?_eq_getElem (by omega)⟩
      obtain⟨d0,_,_⟩:=Fu HC.out HOW.out (fun q=>q) hy
      have q3:∀p:fu W,p.u.cell? ⟨g,off+m * 2,none⟩=some (str y.key):=fun p=>p.cell d0
      clear d0
      have HN:Hid (qb l (m+1)=(fF x && !(Op.bytesLess x.key y.key || x.key == y.key))):=Lib.hid (iV HX.out hy)
      rw [hv] at HN
      clear hv hy
      have w5:IntKind.i64.wrap (m:Int)=(m:Int):=by have:=HS.out;exact IntWalk.i64_in _ (by omega)
      have hm0:(0:Int)≤(m:Int):=by omega
      have hkb:decide ((0:Int)<((m+1:Nat):Int))=true:=by simp
      have hm1:(m:Int)<(l.length:Int):=by omega
      have w6:IntKind.i64.wrap ((m:Int)+1+1)=(m:Int)+1+1:=by have:=HS.out;exact IntWalk.i64_in _ (by omega)
      obtain⟨bb,hbb⟩:∃bb,(Op.bytesLess x.key y.key || x.key == y.key)=bb:=⟨_,rfl⟩
      rw [hbb] at HN
      cases bb with
      | true=>
       have hn:=Lib.hid (rQ hk HN.out)
       refine bD (by kernel_rfl) (by kernel_rfl) (fun _W h0 h1=>?_)
       repeat (refine h1 _ _ _ (fun K hK=>?_);go_simp;first |(refine hK _ ?_;clear hK K) |(apply Exists.intro;refine⟨fun _=>?_,hK _ ?_⟩;(refine fu.calls _ (HV.out _));clear hK K))
       refine h0 _ (fun p=>?_)
       clear h0 h1
       go_wp2_with fail
       go_ret
       exact⟨by rw [hn.out];rfl,HOW.out.trans p.h (fun _ _ q=>q)⟩
      | false=>
       refine bD (by kernel_rfl) (by kernel_rfl) (fun _W h0 h1=>?_)
       repeat (refine h1 _ _ _ (fun K hK=>?_);go_simp;first |(refine hK _ ?_;clear hK K) |(apply Exists.intro;refine⟨fun _=>?_,hK _ ?_⟩;(refine fu.calls _ (HV.out _));clear hK K))
       refine h0 _ (fun p=>?_)
       clear h0 h1
       go_wp2_with fail
       go_roundg (gk-1)
       case measure=>omega
       case rel=>exact⟨m+1+1,by omega,by go_num,HOW.out.trans p.h (fun _ _ q=>q),fun j hj=>by
        by_cases hjm:j<m+1
        ·exact HJ.out j hjm
        ·obtain rfl:j=m+1:=by omega
         exact HN.out⟩
   ·obtain rfl:k=l.length:=by omega
    have hr:bJ l=true:=decide_eq_true hj
    go_wp2_with fail
    go_ret
    exact⟨by rw [hr];rfl,ho⟩
end
section
open Go.RowKit
def kK (i:Kid):Bytes:=bO i.page.toNat 2++dV i.key
def jE (l:List Kid):Bytes:=bO l.length 1++l.flatMap kK
theorem wJ (i:Kid):(kK i).length=Keyed.cost i:=by
 show _=4+i.key.length
 simp only [kK,dV,List.length_append,bf]
 omega
theorem vJ (l:List Kid):(l.flatMap kK).length+1=aT l:=by
 induction l with
 | nil=>rfl
 | cons a l ih=>rw [List.flatMap_cons,List.length_append,wJ,bC];omega
theorem GI (w:World) (i:Kid) (t:TypeId):(w.alloc (.cells #[str i.key,.int .i64 i.page] t)).cell? ⟨w.heap.size,0,none⟩=some (str i.key)∧
 (w.alloc (.cells #[str i.key,.int .i64 i.page] t)).cell? ⟨w.heap.size,1,none⟩=some (.int .i64 i.page):=by
 refine⟨?_,?_⟩<;>(simp only [World.cell?,heap_alloc_new];rfl)
theorem fE {w:World} {a:Option Addr} {n c:Nat} {l:List Kid} (h:bL aR 2 w (.slice a n c) l) {k:Nat} {x:Kid} (hx:l[k]? = some x) :
 ∃g off,a=some ⟨g,off,none⟩∧w.cell? ⟨g,off+k * 2,none⟩=some (str x.key)∧w.cell? ⟨g,off+k * 2+1,none⟩=some (.int .i64 x.page):=by
 cases h with
 | none=>simp at hx
 | some g off cap _ hc=>exact⟨g,off,rfl,hc k x 0 _ hx rfl,hc k x 1 _ hx rfl⟩
theorem GJ (v:Value) (l:List Kid) (w:World) (h:bL aR 2 w v l) (hne:l≠[]) (hr:bJ l=true) (hz1:aT l≤232) (hz2:l.length≤255) :
 Calls Tryz.prog 204 #[v] w fun e w'=>e=.returned (.tuple #[str (jE l),.int .i64 0])∧Only (fun _=>False) w w':=by
 have HR:=Lib.hid (Ap v l w h (by omega))
 rw [hr] at HR
 have hform:∃a c,v=.slice a l.length c:=by cases h with
  | none=>exact⟨_,_,rfl⟩
  | some g off cap=>exact⟨_,_,rfl⟩
 obtain⟨a,c,rfl⟩:=hform
 have HA:=Lib.hid h
 have HZ:∀w1,Only (fun _=>False) w w1→Calls Tryz.prog 225 #[.slice a l.length c] w1 fun e w'=>e=.returned (.int .i64 (aT l))∧Only (fun _=>False) w1 w':=
  fun w1 o1=>DJ _ l w1 (aU HA.out o1 fun _ _=>id) (by omega)
 have HZ:=Lib.hid HZ
 have hn0:¬((l.length:Int)=0):=by have:=List.length_pos_iff.2 hne;omega
 have h1:¬(232:Int)<(aT l:Int):=by omega
 have h2:¬(255:Int)<(l.length:Int):=by omega
 have HF:=Lib.hid (And.intro hz1 hz2)
 have OI:=Lib.hid hr
 clear hr h
 go_enter Tryz.func204,Tryz.ntmps204
 go_wp2_with fail
 (with_reducible refine HR.out.mono ?_)
 rintro e w1 ⟨rfl,o1⟩
 have HZ:=Lib.hid (HZ.out w1 o1)
 go_wp2_with fail
 (with_reducible refine HZ.out.mono ?_)
 rintro e w2 ⟨rfl,o2⟩
 have O2:=Lib.hid (o1.trans o2 (fun _ _ q=>q))
 clear o1 o2 HR HZ
 go_wp2_with fail
 have HP:=Lib.hid (xR _ _ _ _ _ (l.length:Int) ⟨by omega,by omega⟩ (rT w2 102) (by simp))
 rw [oH _ _ _ rfl (by omega)] at HP
 (with_reducible refine HP.out.mono ?_)
 rintro e w3 ⟨rfl,hp⟩
 have HP:=Lib.hid hp
 clear hp
 generalize w2.heap.size=p at *
 go_wp2_with fail
 go_loopg [32] l.length (fun gh i wr=>∃k:Nat,gh+k=l.length∧i=.int .i64 k∧bN (fun _=>False) w2 wr p ⟨bO l.length 1++(l.take k).flatMap kK,0⟩)
 case atStart=>exact⟨0,by omega,rfl,by simpa using HP.out⟩
 case round=>
  obtain⟨k,hg,rfl,hp⟩:=hrel
  by_cases hk:k<l.length
  ·obtain⟨x,hx⟩:∃x,l[k]? = some x:=⟨l[k],List.getElem?_eq_getElem hk⟩
   obtain⟨sv,hp⟩:=hp
   have Nn:=Lib.hid hp
   have HW:=Lib.hid (aU HA.out (O2.out.trans hp.since (fun _ _ q=>q)) (fun _ _=>id))
   clear hp
   obtain⟨g,off,rfl,c0,c1⟩:=fE HW.out hx
   have hk2:(k:Int)<(l.length:Int):=by omega
   have hk0:(0:Int)≤(k:Int):=by omega
   have w4:IntKind.i64.wrap ((k:Int)+1)=(k:Int)+1:=by exact IntWalk.i64_in _ (by omega)
   have hok:fF x=true:=((aH l).1 OI.out).1 x (List.mem_of_getElem? hx)
   have UK:=Lib.hid hok
   simp only [fF,decide_eq_true_eq] at hok
   have hlen:(l.take k).flatMap kK++kK x=(l.take (k+1)).flatMap kK:=by
    have hx2:l[k]=x:=by rw [List.getElem?_eq_getElem hk] at hx;exact Option.some.inj hx
    rw [List.take_succ_eq_append_getElem hk,List.flatMap_append,hx2];simp
   have hle:(bO l.length 1++(l.take k).flatMap kK).length+(kK x).length≤300:=by
    have h1:=vJ (l.take (k+1))
    have h2:=lQ l (k+1)
    rw [←hlen] at h1
    have:=HF.out.1
    simp only [List.length_append,bf] at h1 ⊢
    omega
   have hxl:=wJ x
   have lX:Keyed.cost x=4+x.key.length:=rfl
   generalize hpre:bO l.length 1++(l.take k).flatMap kK=pre at *
   have JA:Hid (pre++bO x.page.toNat 2++dV x.key=bO l.length 1++(l.take (k+1)).flatMap kK):=Lib.hid (by
    rw [←hlen,←List.append_assoc,hpre];simp [kK])
   clear hlen hpre hx HW UK HF
   go_wp2_with fail
   obtain⟨b0,b1⟩:=GI wr x 185
   have wI:=Lib.hid (Nn.out.alloc (.cells #[str x.key,.int .i64 x.page] 185))
   have UL:p<wr.heap.size:=lt_of_cell Nn.out.c0
   have hBr:∀q,sv.ownBlock=some q→q<wr.heap.size:=fun q hq=>(Nn.out.own.lt q hq).2
   clear Nn
   change Hid (jy _ w2 (wr.alloc (.cells #[Value.string ⟨x.key.toArray⟩,Value.int .i64 x.page] 185)) p _ sv) at wI
   change (wr.alloc (.cells #[Value.string ⟨x.key.toArray⟩,Value.int .i64 x.page] 185)).cell? _=_ at b0 b1
   generalize (wr.alloc (.cells #[Value.string ⟨x.key.toArray⟩,Value.int .i64 x.page] 185))=W at *
   generalize wr.heap.size=B at *
   clear c0 c1
   have hB:∀w' s',bN (Lays p sv) W w' p s'→w'.cell? ⟨B,0,none⟩=some (str x.key)∧w'.cell? ⟨B,1,none⟩=some (.int .i64 x.page):=by
    rintro w' s' ⟨Ms,q⟩
    have hn:¬Lays p sv B:=by rintro(q | q);omega;have:=hBr _ q;omega
    exact⟨(q.since.cell (p:=⟨B,0,none⟩) (lt_of_cell b0) hn).trans b0,(q.since.cell (p:=⟨B,1,none⟩) (lt_of_cell b1) hn).trans b1⟩
   have hS0:bN (Lays p sv) W W.drew p ⟨pre,0⟩:=⟨_,wI.out.here.drew⟩
   have RO:Hid (∀w',bN (Lays p sv) W w' p ⟨pre,0⟩→Calls Tryz.prog 48 #[.pointer (some ⟨p,0,none⟩),.int .i64 x.page] w' fun e w''=>e=.returned (.pointer (some ⟨p,0,none⟩))∧bN (Lays p sv) W w'' p ⟨pre++bO x.page.toNat 2,0⟩):=Lib.hid (fun w' h=>by
    have:=ql _ W w' p ⟨pre,0⟩ x.page ⟨by omega,by omega⟩ h (by simp only;omega)
    have e:eB ⟨pre,0⟩ x.page 2=⟨pre++bO x.page.toNat 2,0⟩:=by unfold eB;rw [if_neg (by simp),if_neg (by omega)]
    rwa [e] at this)
   have Dc:Hid (∀w',bN (Lays p sv) W w' p ⟨pre++bO x.page.toNat 2,0⟩→Calls Tryz.prog 215 #[.pointer (some ⟨p,0,none⟩),str x.key] w' fun e w''=>e=.returned (.pointer (some ⟨p,0,none⟩))∧bN (Lays p sv) W w'' p ⟨pre++bO x.page.toNat 2++dV x.key,0⟩):=Lib.hid (fun w' h=>by
    have:=xS _ W w' p _ x.key h (by simp only [List.length_append,bf];omega) (by omega)
    rwa [vH _ _ rfl (by omega)] at this)
   generalize pre++bO x.page.toNat 2++dV x.key=t2 at *
   generalize pre++bO x.page.toNat 2=t1 at *
   clear b0 b1 UL hBr
   have HB:=Lib.hid hB
   clear hB
   have q0:=hS0
   go_region_held3 (fun w'=>w'.cell? ⟨B,0,none⟩=some (str x.key)∧w'.cell? ⟨B,1,none⟩=some (.int .i64 x.page)) (exact HB.out _ _ (by assumption)) (first |((with_reducible refine(RO.out _ (by assumption)).mono ?_);rintro _ _ ⟨rfl,hq1⟩) |((with_reducible refine(Dc.out _ (by assumption)).mono ?_);rintro _ _ ⟨rfl,hq2⟩))
   have HN:=Lib.hid (wI.out.back hq2)
   clear hq1 hq2 q0 hS0 RO Dc HB wI
   go_wp2_with fail
   go_roundg (gk-1)
   case measure=>omega
   case rel=>exact⟨k+1,by omega,by go_num,by rw [←JA.out];exact HN.out⟩
  ·obtain rfl:k=l.length:=by omega
   rw [List.take_length] at hp
   have HE:=Lib.hid (xw _ _ _ _ _ hp)
   have HO:=Lib.hid (hp.choose_spec.since)
   clear hp
   go_wp2_with fail
   (with_reducible refine HE.out.mono ?_)
   rintro e w4 ⟨rfl,o4⟩
   go_wp2_with fail
   go_ret2
   exact⟨rfl,(O2.out.trans HO.out (fun _ _ q=>q)).trans o4 (fun _ _ q=>q)⟩
end
section
open Go.RowKit
theorem kF:(Tryz.prog.info? 185).map (fun i=>(i.zero,i.size,i.bytes))=some (some (.agg #[str [],.int .i64 0]),2,24):=by kernel_rfl
theorem DK (l:List Kid) (hne:l≠[]) (hr:bJ l=true) (h1:aT l≤232) (h2:l.length≤255) (w:World) :
 Calls Tryz.prog 178 #[str (jE l)] w fun e w'=>∃v,e=.returned (.tuple #[v,.int .i64 0])∧gN aR 2 w' v l∧Only (fun _=>False) w w'∧∀b,bI v=some b→w.heap.size≤b:=by
 obtain⟨i0,hi,hz0,hz1,hz2⟩:=info_parts kF
 have hlen:=vJ l
 have HB:∀g w',fU w' g ⟨jE l,0⟩→Calls Tryz.prog 201 #[.pointer (some ⟨g,0,none⟩)] w' fun e w''=>e=.returned (.int .i64 (l.length:Int))∧jA w' g ⟨l.flatMap kK,0⟩ w'':=fun g w' h=>by
  have:=xV g _ w' h (by simp only [jE,List.length_append,bf];omega)
  rwa [jE,qH _ _ _ (by omega)] at this
 have HB:=Lib.hid HB
 have ED:=Lib.hid hne
 have OI:=Lib.hid hr
 have HZ:=Lib.hid h1
 clear hr h1 hlen
 generalize hb:jE l=b at *
 have Wd:=Lib.hid hb
 clear hb
 go_enter Tryz.func178,Tryz.ntmps178
 go_wp2_with fail
 (with_reducible refine(uh b w).mono ?_)
 rintro e w1 ⟨rfl,hg,o1⟩
 have HB:=Lib.hid (HB.out _ _ hg)
 clear hg
 go_wp2_with fail
 (with_reducible refine HB.out.mono ?_)
 rintro e w2 ⟨rfl,hg,o2⟩
 have hw1:=o1.size
 have hgw:w.heap.size≤w.heap.size:=Nat.le_refl _
 have O2:Hid (Only (fun _=>False) w w2):=Lib.hid (o1.trans o2 (fun i hi q=>by omega))
 clear o1 o2 HB hw1
 generalize hgg:w.heap.size=g at *
 have HG:=Lib.hid hg
 clear hg
 go_wp2_with fail
 go_loopg [5,14] l.length (fun gh ov i wr=>∃k:Nat,gh+k=l.length∧i=.int .i64 k∧fU wr g ⟨(l.drop k).flatMap kK,0⟩∧wr.ownsRow 0 185 2 ov k ((l.take k).flatMap aR)∧ov.ownBlock≠some g∧(∀q,ov.ownBlock=some q→w.heap.size≤q)∧Only (fun _=>False) w wr)
 case atStart=>exact⟨0,by omega,rfl,HG.out,⟨rfl,.inl ⟨rfl,rfl⟩⟩,by simp [Value.ownBlock],fun q hq=>by simp [Value.ownBlock] at hq,O2.out⟩
 case round=>
  obtain⟨k,u6,rfl,hgt,own,hne,hnew,ho⟩:=hrel
  by_cases hk:k<l.length
  ·obtain⟨x,hx⟩:∃x,l[k]? = some x:=⟨l[k],List.getElem?_eq_getElem hk⟩
   have hk2:(k:Int)<(l.length:Int):=by omega
   have w4:IntKind.i64.wrap ((k:Int)+1)=(k:Int)+1:=by exact IntWalk.i64_in _ (by omega)
   have hok:fF x=true:=((aH l).1 OI.out).1 x (List.mem_of_getElem? hx)
   simp only [fF,decide_eq_true_eq] at hok
   have hx2:l[k]=x:=by rw [List.getElem?_eq_getElem hk] at hx;exact Option.some.inj hx
   have htake:(l.take k).flatMap aR++aR x=(l.take (k+1)).flatMap aR:=by
    rw [List.take_succ_eq_append_getElem hk,List.flatMap_append,hx2];simp
   have hdrop:(l.drop k).flatMap kK=bO x.page.toNat 2++(dV x.key++(l.drop (k+1)).flatMap kK):=by
    rw [List.drop_eq_getElem_cons hk,List.flatMap_cons,hx2];simp [kK]
   have hdl:((l.drop k).flatMap kK).length≤300:=by
    have h1:=vJ (l.drop k)
    have h2:=oZ l k
    have:=HZ.out
    omega
   rw [hdrop] at hgt hdl
   have lX:Keyed.cost x=4+x.key.length:=rfl
   simp only [List.length_append,bf] at hdl
   have HK:Hid (∀w',fU w' g ⟨bO x.page.toNat 2++(dV x.key++(l.drop (k+1)).flatMap kK),0⟩→Calls Tryz.prog 46 #[.pointer (some ⟨g,0,none⟩)] w' fun e w''=>e=.returned (.int .i64 x.page)∧jA w' g ⟨dV x.key++(l.drop (k+1)).flatMap kK,0⟩ w''):=Lib.hid (fun w' h=>by
    have:=qo g _ w' h (by simp only [List.length_append,bf];omega)
    rw [qH _ _ _ (by omega)] at this
    simp only [Int.toNat_of_nonneg (show 0≤x.page by omega)] at this
    exact this)
   have HT1:Hid (∀w',fU w' g ⟨dV x.key++(l.drop (k+1)).flatMap kK,0⟩→Calls Tryz.prog 202 #[.pointer (some ⟨g,0,none⟩)] w' fun e w''=>e=.returned (str x.key)∧jA w' g ⟨(l.drop (k+1)).flatMap kK,0⟩ w''):=Lib.hid (fun w' h=>by
    have:=xW g _ w' h (by simp only [List.length_append];omega)
    rwa [tL _ _ (by omega)] at this)
   have QF:=Lib.hid htake
   have RP:=Lib.hid (show k+1≤255 by omega)
   have HOWN:=Lib.hid own
   have Mw:=Lib.hid hgt
   have HO:=Lib.hid ho
   have jo:=Lib.hid hnew
   have PY:g<wr.heap.size:=lt_of_cell hgt.c0
   clear htake hdrop hdl own hgt ho hnew hx2 hx hok lX
   generalize bO x.page.toNat 2++(dV x.key++(l.drop (k+1)).flatMap kK)=r0 at *
   generalize dV x.key++(l.drop (k+1)).flatMap kK=r1 at *
   generalize h3:(l.drop (k+1)).flatMap kK=r3 at *
   have H3:=Lib.hid h3
   clear h3
   go_wp2_with fail
   (with_reducible refine(HK.out _ Mw.out).mono ?_)
   rintro e wa ⟨rfl,ga,oa⟩
   have HOWN:=Lib.hid (aP HOWN.out oa (fun q hq e=>hne (e▸hq)))
   have HO:=Lib.hid (HO.out.trans oa (fun i hi e=>by omega))
   have GA:=Lib.hid ga
   have PZ:g<wa.heap.size:=lt_of_cell ga.c0
   have KE:∀q,u5.ownBlock=some q→q<wa.heap.size:=fun q hq=>(HOWN.out.lt q hq).2
   clear ga oa Mw HK PY
   go_wp2_with fail
   obtain⟨b0,b1⟩:=GI wa ⟨[],x.page⟩ 185
   have z0:(wa.alloc (.cells #[str [],.int .i64 x.page] 185)).frozen? ⟨wa.heap.size,0,none⟩=false:=by simp only [World.frozen?,heap_alloc_new];rfl
   have oW:=(Only.refl (fun _=>False) wa).alloc (.cells #[str [],.int .i64 x.page] 185)
   have HOWN:=Lib.hid (aP HOWN.out oW (fun _ _=>id))
   have HO:=Lib.hid (HO.out.trans oW (fun _ _=>id))
   have GA:=Lib.hid (GA.out.only oW id)
   clear oW
   change (wa.alloc (.cells #[Value.string { data:=#[] },.int .i64 x.page] 185)).cell? _=_ at b0 b1
   change (wa.alloc (.cells #[Value.string { data:=#[] },.int .i64 x.page] 185)).frozen? _=_ at z0
   change Hid (Only _ w (wa.alloc (.cells #[Value.string { data:=#[] },.int .i64 x.page] 185))) at HO
   change Hid (fU (wa.alloc (.cells #[Value.string { data:=#[] },.int .i64 x.page] 185)) g _) at GA
   change Hid ((wa.alloc (.cells #[Value.string { data:=#[] },.int .i64 x.page] 185)).ownsRow 0 _ _ _ _ _) at HOWN
   generalize (wa.alloc (.cells #[Value.string { data:=#[] },.int .i64 x.page] 185))=W at *
   generalize wa.heap.size=B at *
   have hBg:B≠g:=by omega
   have hBr:∀q,u5.ownBlock=some q→q≠B:=fun q hq e=>by have:=KE q hq;omega
   have hBW:=lt_of_cell b0
   have hnw:w.heap.size≤B:=by omega
   clear KE PZ
   (with_reducible refine(HT1.out _ GA.out).mono ?_)
   rintro e wd ⟨rfl,gd,od⟩
   have b0:=(od.cell (p:=⟨B,0,none⟩) hBW hBg).trans b0
   have b1:=(od.cell (p:=⟨B,1,none⟩) hBW hBg).trans b1
   have z0:=(od.frozen (p:=⟨B,0,none⟩) hBW hBg).trans z0
   have HOWN:=Lib.hid (aP HOWN.out od (fun q hq e=>hne (e▸hq)))
   have HO:=Lib.hid (HO.out.trans od (fun i hi e=>by omega))
   have hBd:=lt_of_cell b0
   have GD:=Lib.hid gd
   clear gd od GA HT1
   have hBw:B<w.heap.size→False:=fun q=>by omega
   have hgd2:g<wd.heap.size:=lt_of_cell GD.out.c0
   have HO:=Lib.hid (HO.out.setCell (p:=⟨B,0,none⟩) hBw (str x.key))
   have hY:(wd.setCell ⟨B,0,none⟩ (str x.key)).heap.size=wd.heap.size:=by simp [World.setCell]
   have HC:=bH (wd.setCell ⟨B,0,none⟩ (str x.key)) (aR x) 185 (0,0)
   rw [hY] at HC
   have HC:=Lib.hid HC
   have UM:Hid (Only (fun q=>u5.ownBlock=some q∨q=B) wd ((wd.setCell ⟨B,0,none⟩ (str x.key)).alloc (.cells (aR x).toArray 185 (0,0)))):=
    Lib.hid (((Only.refl _ wd).setCell (p:=⟨B,0,none⟩) (fun _=>.inr rfl) (str x.key)).alloc _)
   have HOWN:=Lib.hid (aP (dB HOWN.out (fun e=>hBr _ e rfl) 0 (str x.key)) ((Only.refl (fun _=>False) _).alloc (.cells (aR x).toArray 185 (0,0))) (fun _ _=>id))
   have HO:=Lib.hid (HO.out.alloc (.cells (aR x).toArray 185 (0,0)))
   have hX:((wd.setCell ⟨B,0,none⟩ (str x.key)).alloc (.cells (aR x).toArray 185 (0,0))).heap.size=wd.heap.size+1:=by rw [←hY];simp
   have hkl:((l.take k).flatMap aR).length=k * 2:=HOWN.out.1
   go_wp2_with (at_builtin;refine aM _ rfl _ _ 163 rfl 185 i0 _ 2 24 Tryz.underlying163 hi hz0 hz1 hz2 rfl (by decide) _ _ _ rfl HOWN.out ⟨wd.heap.size,0,none⟩ 1 1 (aR x) rfl rfl HC.out (by simp [aR,Value.oneCell']) (by unfold maxLen;have:=RP.out;omega) (by have:=RP.out;omega) ?_;intro a' c' wx hown2 hgr hmv;have HX:=Lib.hid (And.intro hown2 (And.intro hgr hmv));clear hown2 hgr hmv)
   go_roundg (gk-1)
   case measure=>omega
   case rel=>
    obtain⟨hown2,hgr,hmv⟩:=HX.out
    rw [QF.out] at hown2
    have hq:=UM.out.grown hgr (fun q _ e=>.inl e)
    refine⟨k+1,by omega,by go_num,by rw [H3.out];exact GD.out.only hq (fun e=>e.elim hne (fun e=>hBg e.symm)),hown2,fun e=>?_,fun q e=>?_,HO.out.grown hgr (fun q hq2 e=>?_)⟩
    ·rcases hmv _ e with e | e
     ·exact hne e
     ·have:wd.heap.size+1≤g:=by rw [←hX];exact e
      omega
    ·rcases hmv _ e with e | e
     ·exact jo.out q e
     ·have:wd.heap.size+1≤q:=by rw [←hX];exact e
      omega
    ·have:=jo.out q e;omega
  ·obtain rfl:k=l.length:=by omega
   rw [List.take_length] at own
   rw [List.drop_length] at hgt
   have HE:Calls Tryz.prog 203 #[.pointer (some ⟨g,0,none⟩)] wr fun e w'=>e=.returned (.int .i64 0)∧jA wr g ⟨[],0⟩ w':=Gi g ⟨[],0⟩ wr hgt
   have HE:=Lib.hid HE
   have HOWN:=Lib.hid own
   have HO:=Lib.hid ho
   have jo:=Lib.hid hnew
   clear own hgt ho hnew
   go_wp2_with fail
   (with_reducible refine HE.out.mono ?_)
   rintro e wa ⟨rfl,ga,oa⟩
   have hrow:=aP HOWN.out oa (fun q hq e=>hne (e▸hq))
   have UN:=Lib.hid (bg hrow)
   have OJ:=Lib.hid (dQ hrow)
   have iX:=Lib.hid (bS (enc:=aR) (k:=2) (xs:=l) (fun _=>rfl) hrow)
   have HO:=Lib.hid (HO.out.trans oa (fun i hi e=>by omega))
   have RQ:=Lib.hid (GJ _ l wa iX.out ED.out OI.out HZ.out h2)
   rw [Wd.out] at RQ
   clear ga oa HE hrow
   go_wp2_with fail
   (with_reducible refine RQ.out.mono ?_)
   rintro e wb ⟨rfl,ob⟩
   have hbb:(b == b)=true:=by simp
   go_wp2_with fail
   go_ret2
   exact⟨_,rfl,⟨aU iX.out ob (fun _ _=>id),OJ.out⟩,HO.out.trans ob (fun _ _=>id),fun q hq=>jo.out q (by rw [←UN.out];exact hq)⟩
end
section
open Go.RowKit
theorem GK {l:List Kid} (hr:bF l) (key:Bytes) (i:Nat) (x:Kid) (hx:l[i]? = some x):i<(l.takeWhile fun x=>!decide (key<x.key)).length↔¬key<x.key:=by
 induction l generalizing i with
 | nil=>simp at hx
 | cons y ys ih=>
  have hp:=List.pairwise_cons.1 hr
  rw [List.takeWhile_cons]
  by_cases hy:key<y.key
  ·rw [if_neg (by simpa using hy)]
   have:key<x.key:=by
    cases i with
    | zero=>simp only [List.getElem?_cons_zero,Option.some.injEq] at hx;rw [←hx];exact hy
    | succ i=>rw [List.getElem?_cons_succ] at hx;exact List.lt_trans hy (hp.1 x (List.mem_of_getElem? hx))
   simp [this]
  ·rw [if_pos (by simpa using hy),List.length_cons]
   cases i with
   | zero=>simp only [List.getElem?_cons_zero,Option.some.injEq] at hx;rw [←hx];simp [hy]
   | succ i=>
    rw [List.getElem?_cons_succ] at hx
    rw [←ih hp.2 i hx]
    omega
theorem IQ (v:Value) (l:List Kid) (key:Bytes) (b2 b3 i:Nat) (x:Kid) (w:World) (h:bL aR 2 w v l) (c2:w.cell? ⟨b2,0,none⟩=some v) (c3:w.cell? ⟨b3,0,none⟩=some (str key)) (hx:l[i]? = some x) (hn:l.length≤1073741824) :
 Calls Tryz.prog 181 #[.int .i64 (i:Int),.pointer (some ⟨b2,0,none⟩),.pointer (some ⟨b3,0,none⟩)] w fun e w'=>e=.returned (.bool (!(Op.bytesLess x.key key || x.key == key)))∧Only (fun _=>False) w w':=by
 have hform:∃a c,v=.slice a l.length c:=by cases h with
  | none=>exact⟨_,_,rfl⟩
  | some g off cap=>exact⟨_,_,rfl⟩
 obtain⟨a,c,rfl⟩:=hform
 have hi:i<l.length:=(List.getElem?_eq_some_iff.1 hx).1
 obtain⟨g,off,rfl,c0,_⟩:=fE h hx
 have hi1:(i:Int)<(l.length:Int):=by omega
 have hi0:(0:Int)≤(i:Int):=by omega
 clear h hx
 go_enter Tryz.func181,Tryz.ntmps181
 go_wp2_with fail
 have q0:∀p:fu w,p.u.cell? ⟨g,off+i * 2,none⟩=some (str x.key):=fun p=>p.cell c0
 have q2:∀p:fu w,p.u.cell? ⟨b2,0,none⟩=some (.slice (some ⟨g,off,none⟩) l.length c):=fun p=>p.cell c2
 have q3:∀p:fu w,p.u.cell? ⟨b3,0,none⟩=some (str key):=fun p=>p.cell c3
 refine bD (by kernel_rfl) (by kernel_rfl) (fun _W h0 h1=>?_)
 repeat (refine h1 _ _ _ (fun K hK=>?_);go_simp;(refine hK _ ?_;clear hK K))
 refine h0 _ (fun p=>?_)
 clear h0 h1
 go_wp2_with fail
 go_ret
 exact⟨by simp,p.h⟩
theorem zD (args:Array Value) (w:World):(callFunc 181 args).run Tryz.prog w=.ok (.enter 181 args) w:=Go.MuLone.run_callFunc_enter Tryz.func181 (by kernel_rfl) rfl args w
theorem uy (v:Value) (l:List Kid) (key:Bytes) (w:World) (h:bL aR 2 w v l) (hne:l≠[]) (hr:bF l) (hn:l.length≤1073741824) :
 Calls Tryz.prog 147 #[v,str key] w fun e w'=>e=.returned (.int .i64 (eH l key:Nat))∧Only (fun _=>False) w w':=by
 have hform:∃a c,v=.slice a l.length c:=by cases h with
  | none=>exact⟨_,_,rfl⟩
  | some g off cap=>exact⟨_,_,rfl⟩
 obtain⟨a,c,rfl⟩:=hform
 have HA:=Lib.hid h
 have HR:=Lib.hid hr
 have HN:=Lib.hid hn
 have hl0:0<l.length:=List.length_pos_iff.2 hne
 clear h hr
 go_enter Tryz.func147,Tryz.ntmps147
 go_wp2_with fail
 obtain⟨c2,c3⟩:=Ao w (.slice a l.length c) (str key) 163 9
 have oW:=((Only.refl (fun _=>False) w).alloc (.cells #[.slice a l.length c] 163)).alloc (.cells #[str key] 9)
 have HA:=Lib.hid (aU HA.out oW (fun _ _=>id))
 have HW:=Lib.hid oW
 clear oW
 generalize (w.alloc (.cells #[.slice a l.length c] 163)).alloc (.cells #[str key] 9)=W at *
 generalize w.heap.size+1=b3 at *
 generalize w.heap.size=b2 at *
 have hl2:=lt_of_cell c2
 have hl3:=lt_of_cell c3
 have hm:(l.takeWhile fun x=>!decide (key<x.key)).length≤l.length:=by
  have:=congrArg List.length (List.takeWhile_append_dropWhile (p:=fun x:Kid=>!decide (key<x.key)) (l:=l))
  rw [List.length_append] at this
  omega
 have hS:=Am 181 #[.pointer (some ⟨b2,0,none⟩),.pointer (some ⟨b3,0,none⟩)] l.length (fun i=>match l[i]? with | some x=>!(Op.bytesLess x.key key || x.key == key) | none=>true) W zD HN.out
  (fun w' o i hi=>by
   have hx:l[i]? = some l[i]:=List.getElem?_eq_getElem hi
   rw [hx]
   exact IQ _ l key b2 b3 i l[i] w' (aU HA.out o (fun _ _=>id)) ((o.cell hl2 id).trans c2) ((o.cell hl3 id).trans c3) hx HN.out)
  (l.takeWhile fun x=>!decide (key<x.key)).length hm
  (fun i hi=>by
   have hil:i<l.length:=by omega
   have hx:l[i]? = some l[i]:=List.getElem?_eq_getElem hil
   have:=(GK HR.out key i _ hx).1 hi
   simp only [hx]
   rw [lS,decide_eq_false this])
  (fun i hi hin=>by
   have hx:l[i]? = some l[i]:=List.getElem?_eq_getElem hin
   have:key<l[i].key:=Classical.byContradiction fun q=>by have:=(GK HR.out key i _ hx).2 q;omega
   simp only [hx]
   rw [lS,decide_eq_true this])
 have HS:=Lib.hid hS
 have Wh:Hid (eH l key=(l.takeWhile fun x=>!decide (key<x.key)).length-1):=Lib.hid rfl
 clear hS
 generalize (l.takeWhile fun x=>!decide (key<x.key)).length=m at *
 (with_reducible refine HS.out.mono ?_)
 rintro e w1 ⟨rfl,o1⟩
 have c2:=(o1.cell hl2 id).trans c2
 have HW:=Lib.hid (HW.out.trans o1 (fun _ _=>id))
 clear o1 HS hl2 hl3 c3
 have hw1:IntKind.i64.wrap ((m:Int)-1)=(m:Int)-1:=by exact IntWalk.i64_in _ (by omega)
 by_cases h0:m=0
 ·subst h0
  have hl1:(0:Int)<(l.length:Int):=by omega
  go_wp2_with fail
  go_ret
  exact⟨by rw [Wh.out];rfl,HW.out⟩
 ·have h1:¬((m:Int)-1<0):=by omega
  go_wp2_with fail
  go_ret
  refine⟨?_,HW.out⟩
  rw [Wh.out]
  show Ending.returned (Value.int .i64 ((m:Int)-1))=Ending.returned (Value.int .i64 ((m-1:Nat):Int))
  congr 2
  omega
end
end Go.Proofs.YtbhiamcmiopnoaaGreatDoor
