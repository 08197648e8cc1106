/- Rows of children: Go's slices.Replace by fewer, or as many. Conditions: fewer than a million children. -/
import Derived.Test.YtbhiamcmiopnoaaGreatDoorZInsK
import Derived.Test.YtbhiamcmiopnoaaGreatDoorZLeaf7
set_option maxHeartbeats 4000000
set_option maxRecDepth 100000
namespace Go.Proofs.YtbhiamcmiopnoaaGreatDoor
section
open Go.RowKit
theorem yB (w:World) (b o n:Nat) (hn:n=1∨n=2) (hc:∀j,j<n * 2→(w.cell? ⟨b,o+j,none⟩).isSome=true) (hf:∀j,j<n * 2→w.frozen? ⟨b,o+j,none⟩=false) :
 ∃vs:List Value,vs.length=n * 2∧∀ty c,(Builtin.clear_ #[163] ty #[.slice (some ⟨b,o,none⟩) n c]).run Tryz.prog w=.ok (.tuple #[]) (w.setCells b o vs):=by
 have hv:∀w,(zeroValue 185).run Tryz.prog w=.ok (.agg #[str [],.int .i64 0]) w:=by
  intro w
  kernel_rfl
 rcases hn with rfl | rfl
 ·have hzc:(Builtin.zeroCells (Value.agg #[str [],.int .i64 0]).cells 1).toList=[str [],.int .i64 0]:=by kernel_rfl
  have hst:=run_storeCells_cells (P:=Tryz.prog) b o [str [],.int .i64 0] 0 w (by simpa using hc) (by simpa using hf) (by simp [Value.oneCell',str])
  simp only [Nat.add_zero] at hst
  exact⟨[str [],.int .i64 0],rfl,fun ty c=>by simp [Builtin.clear_,run_underlying Tryz.underlying163,hv,hzc,hst]⟩
 ·have hzc:(Builtin.zeroCells (Value.agg #[str [],.int .i64 0]).cells 2).toList=[str [],.int .i64 0,str [],.int .i64 0]:=by kernel_rfl
  have hst:=run_storeCells_cells (P:=Tryz.prog) b o [str [],.int .i64 0,str [],.int .i64 0] 0 w (by simpa using hc) (by simpa using hf) (by simp [Value.oneCell',str])
  simp only [Nat.add_zero] at hst
  exact⟨[str [],.int .i64 0,str [],.int .i64 0],rfl,fun ty c=>by simp [Builtin.clear_,run_underlying Tryz.underlying163,hv,hzc,hst]⟩
theorem EY {e:TypeId} {size n cap g:Nat} {xs:List Value}:∀(vs:List Value) (j:Nat) (w:World),w.ownsRow 0 e size (.slice (some ⟨g,0,none⟩) n cap) n xs→n * size≤j→(w.setCells g j vs).ownsRow 0 e size (.slice (some ⟨g,0,none⟩) n cap) n xs:=by
 intro vs
 induction vs with
 | nil=>intro j w h _;exact h
 | cons v vs ih=>
  intro j w h hj
  exact ih (j+1) _ (rJ h j hj v) (by omega)
theorem zy {S:Nat→Prop} {a:World} {g:Nat} (hg:S g):∀(vs:List Value) (j:Nat) (w:World),Only S a w→Only S a (w.setCells g j vs):=by
 intro vs
 induction vs with
 | nil=>intro j w h;exact h
 | cons v vs ih=>intro j w h;exact ih (j+1) _ (h.put g j hg v)
theorem Ab (w:World) (g cap T n:Nat) (xs:List Value) (hown:w.ownsRow 0 185 2 (.slice (some ⟨g,0,none⟩) T cap) T xs) (hn:n=1∨n=2) (hT:T+n≤cap) :
 ∃w',(∀ty c,(Builtin.clear_ #[163] ty #[.slice (some ⟨g,T * 2,none⟩) n c]).run Tryz.prog w=.ok (.tuple #[]) w')∧w'.ownsRow 0 185 2 (.slice (some ⟨g,0,none⟩) T cap) T xs∧Only (fun k=>k=g) w w':=by
 obtain⟨cur,hg,h1,h2,h3,h4⟩:=dD hown
 have hc:∀j,j<n * 2→(w.cell? ⟨g,T * 2+j,none⟩).isSome=true:=fun j hj=>by
  rw [cell_of_row w g _ cur _ (0,0) hg,Array.getElem?_eq_getElem (by omega)];rfl
 have hf:∀j,j<n * 2→w.frozen? ⟨g,T * 2+j,none⟩=false:=fun j hj=>by simp [World.frozen?,hg]
 obtain⟨vs,_,hr⟩:=yB w g (T * 2) n hn hc hf
 exact⟨w.setCells g (T * 2) vs,hr,EY vs _ w hown (Nat.le_refl _),zy (S:=fun k=>k=g) rfl vs _ w (Only.refl _ w)⟩
theorem Iz (g cap:Nat) (l ws:List Kid) (i:Nat) (ao:Option Addr) (vc:Nat) (w:World) (hi:i<l.length) (hi2:l.length≤i+2) (hm:i+ws.length≤l.length)
 (hown:w.ownsRow 0 185 2 (.slice (some ⟨g,0,none⟩) l.length cap) l.length (l.flatMap aR)) (hv:w.ownsRow 0 185 2 (.slice ao ws.length vc) ws.length (ws.flatMap aR)) (hn:l.length≤1000000) :
 Calls Tryz.prog 219 #[.slice (some ⟨g,0,none⟩) l.length cap,.int .i64 i,.int .i64 l.length,.slice ao ws.length vc] w fun e w'=>e=.returned (.slice (some ⟨g,0,none⟩) (i+ws.length) cap)∧w'.ownsRow 0 185 2 (.slice (some ⟨g,0,none⟩) (i+ws.length) cap) (i+ws.length) ((l.take i++ws).flatMap aR)∧Only (fun k=>k=g) w w':=by
 obtain⟨i0,hi0,hz0,hz1,hz2⟩:=info_parts kF
 obtain⟨cur,hg,h1,h2,h3,h4⟩:=dD hown
 have hcut:=Bd hown i (by omega)
 rw [iN] at hcut
 have HOWN:=Lib.hid hcut
 have p9:Hid (∀ad,ao=some ad→∀j u,(ws.flatMap aR)[j]? = some u→w.cell? (ad.add j)=some u):=Lib.hid (fun ad e j u hu=>by
  subst e
  rcases hv.2 with ⟨q,_⟩ |⟨gv,cv,cur,q,_⟩
  ·cases q
  ·cases q
   rw [addr_add,Nat.zero_add]
   exact aZ hv j u hu)
 have VW:Hid (ao=none→ws.length=0∧vc=0):=Lib.hid (fun e=>by
  subst e
  rcases hv.2 with ⟨q,_⟩ |⟨gv,cv,cur,q,_⟩
  ·injection q with _ q2 q3;exact⟨q2,q3⟩
  ·cases q)
 have HT:Hid (∀w1:World,w1.ownsRow 0 185 2 (.slice (some ⟨g,0,none⟩) (i+ws.length) cap) (i+ws.length) ((l.take i).flatMap aR++ws.flatMap aR)→i+ws.length<l.length→
  ∃w',(∀ty c,(Builtin.clear_ #[163] ty #[.slice (some ⟨g,(i+ws.length) * 2,none⟩) (l.length-(i+ws.length)) c]).run Tryz.prog w1=.ok (.tuple #[]) w')∧w'.ownsRow 0 185 2 (.slice (some ⟨g,0,none⟩) (i+ws.length) cap) (i+ws.length) ((l.take i).flatMap aR++ws.flatMap aR)∧Only (fun k=>k=g) w1 w'):=
  Lib.hid (fun w1 ow hlt=>Ab w1 g cap (i+ws.length) (l.length-(i+ws.length)) _ ow (by omega) (by omega))
 have hc63:cap≤9223372036854775807:=by unfold maxLen at h2;omega
 have hci:(l.length:Int)≤(cap:Int):=by omega
 have Kn:(i:Int)≤(cap:Int):=by omega
 have hi1:(i:Int)≤(l.length:Int):=by omega
 have hi3:¬((i:Int)=(l.length:Int)):=by omega
 have Ko:(0:Int)≤(i:Int):=by omega
 have hz:(0:Int)≤(i:Int)+(ws.length:Int):=by omega
 have hlc:(i:Int)+(ws.length:Int)≤(l.length:Int):=by omega
 have htn:((i:Int)+(ws.length:Int)).toNat=i+ws.length:=by omega
 have hroom:i+ws.length≤cap:=by omega
 have Tz:=Lib.hid (dH ws)
 have VX:=Lib.hid (gq ws)
 clear hown hv hcut hg h3 h4 hm hi2
 by_cases hlt:i+ws.length<l.length
 ·have hlt2:(i:Int)+(ws.length:Int)<(l.length:Int):=by omega
  have hcc:¬cap=i+ws.length:=by omega
  go_enter Tryz.func219,Tryz.ntmps219
  go_wp2_with (at_builtin;refine wpList_append_fits_any _ rfl _ _ 163 rfl 0 185 i0 2 Tryz.underlying163 hi0 hz1 g i cap _ rfl HOWN.out ao ws.length vc (ws.flatMap aR) rfl Tz.out VW.out p9.out VX.out hroom ?_;intro w1 lM EZ;obtain⟨w2,hcl,kP,o2⟩:=HT.out w1 lM hlt;have HX:=Lib.hid (And.intro EZ (And.intro kP o2));clear lM EZ kP o2)
  all_goals
   go_ret
   obtain⟨EZ,kP,o2⟩:=HX.out
   exact⟨rfl,by simpa using kP,((Only.refl _ w).grown EZ (fun k _ e=>(Option.some.inj e).symm)).trans o2 (fun _ _ q=>q)⟩
 ·have hlt2:¬(i:Int)+(ws.length:Int)<(l.length:Int):=by omega
  go_enter Tryz.func219,Tryz.ntmps219
  go_wp2_with (at_builtin;refine wpList_append_fits_any _ rfl _ _ 163 rfl 0 185 i0 2 Tryz.underlying163 hi0 hz1 g i cap _ rfl HOWN.out ao ws.length vc (ws.flatMap aR) rfl Tz.out VW.out p9.out VX.out hroom ?_;intro w1 lM EZ;have HX:=Lib.hid (And.intro EZ lM);clear lM EZ)
  all_goals
   go_ret
   obtain⟨EZ,lM⟩:=HX.out
   exact⟨rfl,by simpa using lM,(Only.refl _ w).grown EZ (fun k _ e=>(Option.some.inj e).symm)⟩
end
section
open Go.RowKit
theorem Rw:(Tryz.prog.info? 185).map (·.size)=some 2:=by kernel_rfl
theorem Nh (g cap m T jn:Nat) (l ws:List Kid) (i:Nat) (ao:Option Addr) (vc:Nat) (w:World) (hmm:ws.length=m) (hT:T+jn=l.length+i+m) (hi:jn<l.length) (hij:i<jn) (hj2:jn≤i+2) (hm:i+m≤jn) (hne:∀vb,ao=some ⟨vb,0,none⟩→vb≠g)
 (hown:w.ownsRow 0 185 2 (.slice (some ⟨g,0,none⟩) l.length cap) l.length (l.flatMap aR)) (hv:w.ownsRow 0 185 2 (.slice ao m vc) m (ws.flatMap aR)) (hn:l.length≤1000000) :
 Calls Tryz.prog 219 #[.slice (some ⟨g,0,none⟩) l.length cap,.int .i64 i,.int .i64 jn,.slice ao m vc] w fun e w'=>e=.returned (.slice (some ⟨g,0,none⟩) T cap)∧w'.ownsRow 0 185 2 (.slice (some ⟨g,0,none⟩) T cap) T ((l.take i++ws++l.drop jn).flatMap aR)∧Only (fun k=>k=g) w w':=by
 obtain⟨cur,hg,h1,h2,h3,h4⟩:=dD hown
 have hc63:cap≤9223372036854775807:=by unfold maxLen at h2;omega
 have hsum:(i:Int)+(m:Int)+((l.length-jn:Nat):Int)=(T:Int):=by omega
 have hci:(jn:Int)≤(cap:Int):=by omega
 have Kn:(i:Int)≤(cap:Int):=by omega
 have hi1:(i:Int)≤(jn:Int):=by omega
 have hi2:¬((i:Int)=(jn:Int)):=by omega
 have hi3:¬((jn:Int)=(l.length:Int)):=by omega
 have hi4:(jn:Int)≤(l.length:Int):=by omega
 have Ko:(0:Int)≤(i:Int):=by omega
 have hi5:(0:Int)≤(jn:Int):=by omega
 have htn:(jn:Int).toNat=jn:=by omega
 have hw1:IntKind.i64.wrap ((i:Int)+(m:Int))=(i:Int)+(m:Int):=by exact IntWalk.i64_in _ (by omega)
 have hw2:IntKind.i64.wrap (T:Int)=(T:Int):=by exact IntWalk.i64_in _ (by omega)
 have hT1:¬((cap:Int)<(T:Int)):=by omega
 have VY:(T:Int)≤(cap:Int):=by omega
 have hT0:(0:Int)≤(T:Int):=by omega
 have him:(i:Int)+(m:Int)≤(jn:Int):=by omega
 have PI:(0:Int)≤(i:Int)+(m:Int):=by omega
 have PK:(i:Int)+(m:Int)≤(T:Int):=by omega
 have Uy:((i:Int)+(m:Int)).toNat=i+m:=by omega
 have hcm:¬(cap=i+m):=by omega
 have hc1:¬(cap=jn):=by omega
 have hc0:¬(cap=i):=by omega
 have Uz:(i:Int)≤(T:Int):=by omega
 have UA:∀p c ty w,(Builtin.clear_ #[163] ty #[.slice (some p) 0 c]).run Tryz.prog w=.ok (.tuple #[]) w:=fun _ _ _ _=>rfl
 have hroom:T≤cap:=by omega
 have hsz:(Tryz.prog.info? 185).map (·.size)=some 2:=by kernel_rfl
 have hx:(l.flatMap aR).length=l.length * 2:=dH l
 have hwl:(ws.flatMap aR).length=m * 2:=by rw [dH,hmm]
 have hcl:cur.toList.length=cap * 2:=by rw [Array.length_toList];exact h3
 have hgw:g<w.heap.size:=mK hown
 have hdl:((l.flatMap aR).drop (jn * 2)).length=l.length * 2-(jn * 2):=by rw [List.length_drop,hx]
 obtain⟨C1,lN⟩:∃C1:List Value,C1=cur.toList.take (i * 2)++ws.flatMap aR++cur.toList.drop (i * 2+m * 2):=⟨_,rfl⟩
 have jq:C1.length=cap * 2:=by rw [lN];simp only [List.length_append,List.length_take,List.length_drop,hcl,hwl];omega
 have hcpB:∀W:World,W.heap=w.heap→∀ty dc,(Builtin.copy_ #[163,163] ty #[.slice (some ⟨g,i * 2,none⟩) (T-i) dc,.slice ao m vc]).run Tryz.prog W=.ok (goInt (Nat.min m (T-i))) (W.setRow g C1.toArray):=fun W hW ty dc=>by
  have wC:W.heap[g]? = some (.cells cur 185 (0,0)):=by rw [hW];exact hg
  have wZ:C1=cur.toList.take (i * 2)++ws.flatMap aR++cur.toList.drop (i * 2+(ws.flatMap aR).length):=by rw [hwl];exact lN
  cases ao with
  | none=>
   have hm0:m=0∧vc=0:=by
    rcases hv.2 with ⟨q,_⟩ |⟨gv,cv,cur,q,_⟩
    ·injection q with _ q2 q3;exact⟨q2,q3⟩
    ·cases q
   obtain⟨hm0,hv0⟩:=hm0
   have hw0:ws=[]:=List.eq_nil_of_length_eq_zero (by omega)
   have e:C1.toArray=cur:=by
    rw [wZ,hw0]
    simp
   rw [e,setRow_self W g cur _ _ wC,hm0,hv0]
   rw [show Nat.min 0 (T-i)=0 from Nat.zero_min _]
   have hs:=Rw
   cases hq:Tryz.prog.info? 185 with
   | none=>rw [hq] at hs;cases hs
   | some i0=>
    simp [Builtin.copy_,run_underlying Tryz.underlying163,sizeOf,typeInfo,hq,Builtin.lenOf,Builtin.firstCells,storeCells]
    done
  | some ad=>
   have had:∃vb,ad=⟨vb,0,none⟩:=by
    rcases hv.2 with ⟨q,_⟩ |⟨gv,cv,cur,q,_⟩
    ·cases q
    ·cases q;exact⟨_,rfl⟩
   obtain⟨vb,rfl⟩:=had
   rw [wZ]
   exact dO W 163 163 ty 185 2 g (i * 2) (T-i) dc ⟨vb,0,none⟩ m vc cur 185 (ws.flatMap aR) Tryz.underlying163 hsz wC
    (by rw [hwl];show _=min _ _ * 2;omega) (fun j u hu=>by
     rw [addr_add,Nat.zero_add]
     exact(World.cell?_of_block (by rw [hW])).trans (aZ hv j u hu)) (by rw [h3,hwl];omega) (gq ws)
 obtain⟨C2,hC2⟩:∃C2:List Value,C2=C1.take (i * 2+m * 2)++(l.flatMap aR).drop (jn * 2)++C1.drop (i * 2+m * 2+(l.length * 2-(jn * 2))):=⟨_,rfl⟩
 have kQ:C2.length=cap * 2:=by rw [hC2];simp only [List.length_append,List.length_take,hdl,List.length_drop,jq];omega
 have Dh:∀j u,((l.flatMap aR).drop (jn * 2))[j]? = some u→C1[jn * 2+j]? = some u:=fun j u hu=>by
  have hj:j<l.length * 2-(jn * 2):=by rw [←hdl];exact(List.getElem?_eq_some_iff.1 hu).1
  rw [List.getElem?_drop,←h4,List.getElem?_take] at hu
  rw [if_pos (by omega)] at hu
  rw [lN,List.getElem?_append_right (by simp only [List.length_append,List.length_take,hcl,hwl];omega)]
  simp only [List.length_append,List.length_take,hcl,hwl,List.getElem?_drop]
  rw [←hu]
  congr 1
  omega
 have hcpA:∀W:World,W.heap=(w.setRow g C1.toArray).heap→∀ty dc sc,(Builtin.copy_ #[163,163] ty #[.slice (some ⟨g,(i+m) * 2,none⟩) (T-(i+m)) dc,.slice (some ⟨g,jn * 2,none⟩) (l.length-jn) sc]).run Tryz.prog W=.ok (goInt (Nat.min (l.length-jn) (T-(i+m)))) (W.setRow g C2.toArray):=fun W hW ty dc sc=>by
  have wC:W.heap[g]? = some (.cells C1.toArray 185 (0,0)):=by rw [hW];exact setRow_heap w g cur C1.toArray 185 (0,0) hg
  have yC:C2=C1.toArray.toList.take ((i+m) * 2)++(l.flatMap aR).drop (jn * 2)++C1.toArray.toList.drop ((i+m) * 2+((l.flatMap aR).drop (jn * 2)).length):=by rw [hdl,Nat.add_mul];exact hC2
  rw [yC]
  exact dO W 163 163 ty 185 2 g ((i+m) * 2) (T-(i+m)) dc ⟨g,jn * 2,none⟩ (l.length-jn) sc C1.toArray 185 ((l.flatMap aR).drop (jn * 2)) Tryz.underlying163 hsz wC
   (by rw [hdl];show _=min _ _ * 2;omega) (fun j u hu=>by
    rw [addr_add]
    simp only [World.cell?,wC]
    simpa using Dh j u hu) (by rw [hdl,List.size_toArray,jq];omega) (fun u hu=>gq l u (List.mem_of_mem_drop hu))
 have hfin:C2.toArray.toList.take (T * 2)=(l.take i++ws++l.drop jn).flatMap aR:=by
  have:=yD cur.toList (l.flatMap aR) (ws.flatMap aR) (i * 2) (m * 2) ((jn-i) * 2) (l.length * 2) (by rw [←h4,List.take_take];congr 1;omega) (by rw [hcl];omega) hx (by omega) hwl
  rw [show i * 2+(jn-i) * 2=jn * 2 by omega,←lN,←hC2] at this
  rw [show T * 2=l.length * 2-(jn-i) * 2+m * 2 by omega]
  show C2.take _=_
  rw [this,iN,j5]
  simp
 have HF:Hid (∀W:World,W.heap=((w.setRow g C1.toArray).setRow g C2.toArray).heap→W.os=w.os→W.tape=w.tape→W.output=w.output→
  W.ownsRow 0 185 2 (.slice (some ⟨g,0,none⟩) T cap) T ((l.take i++ws++l.drop jn).flatMap aR)∧Only (fun k=>k=g) w W):=Lib.hid (fun W hW e1 e2 e3=>by
  have hg1:=setRow_heap w g cur C1.toArray 185 (0,0) hg
  have hg2:=setRow_heap _ g C1.toArray C2.toArray 185 (0,0) hg1
  have o:=((Only.refl (fun k=>k=g) w).setRow (g:=g) (fun _=>rfl) C1.toArray).setRow (g:=g) (fun _=>rfl) C2.toArray
  exact⟨eZ (by rw [hW];exact hg2) hroom h2 (by rw [List.size_toArray,kQ]) hfin,e1,e2,e3,by rw [hW];exact o.size,fun k hk hs=>by rw [hW];exact o.block k hk hs⟩)
 have HA:=Lib.hid hcpA
 have HB:=Lib.hid hcpB
 clear hown h3 h4 hg hv hmm lN jq hC2 kQ hfin hx hwl hcl hdl hcpA hcpB hgw Dh
 clear hne
 by_cases VZ:T<l.length
 ·have OB:¬cap=T:=by omega
  have UC:(T:Int)≤(l.length:Int):=by omega
  have TA:l.length-T=1∨l.length-T=2:=by omega
  have Mt:=Lib.hid TA
  clear TA hm hij hj2
  go_enter Tryz.func219,Tryz.ntmps219
  go_wp2_with fail
  go_region_law (fail)
  go_wp2_with (first |(refine bX _ rfl _ _ 163 163 rfl _ _ rfl rfl (HB.out _ (by rfl) _ _) ?_))
  go_region_law (refine dz rfl _ _ 163 163 rfl (.slice (some ⟨g,(i+m) * 2,none⟩) (T-(i+m)) (cap-(i+m))) (.slice (some ⟨g,jn * 2,none⟩) (l.length-jn) (cap-jn)) (by simp [Act.eval,Act.put]) (by simp [Act.eval,Act.put]) (HA.out _ (by rfl) _ _ _) ?_)
  have hf:=HF.out ((w.drew.setRow g C1.toArray).drew.setRow g C2.toArray) rfl rfl rfl rfl
  generalize ((w.drew.setRow g C1.toArray).drew.setRow g C2.toArray)=W2 at *
  obtain⟨w3,hcl,jS,o3⟩:=Ab W2 g cap T (l.length-T) _ hf.1 Mt.out (by omega)
  have HX:=Lib.hid (And.intro hf.2 (And.intro jS o3))
  clear hf jS o3
  go_wp2_with fail
  go_ret
  obtain⟨h2,jS,o3⟩:=HX.out
  exact⟨rfl,jS,h2.trans o3 (fun _ _ q=>q)⟩
 ·have TA:l.length-T=0:=by omega
  have UC:(T:Int)≤(l.length:Int):=by omega
  clear VZ hm hij hj2
  by_cases OB:cap=T
  ·subst OB
   go_enter Tryz.func219,Tryz.ntmps219
   go_wp2_with fail
   go_region_law (fail)
   go_wp2_with (first |(refine bX _ rfl _ _ 163 163 rfl _ _ rfl rfl (HB.out _ (by rfl) _ _) ?_))
   go_region_law (refine dz rfl _ _ 163 163 rfl (.slice (some ⟨g,(i+m) * 2,none⟩) (cap-(i+m)) (cap-(i+m))) (.slice (some ⟨g,jn * 2,none⟩) (l.length-jn) (cap-jn)) (by simp [Act.eval,Act.put]) (by simp [Act.eval,Act.put]) (HA.out _ (by rfl) _ _ _) ?_)
   go_wp2_with fail
   go_ret
   exact⟨rfl,HF.out _ rfl rfl rfl rfl⟩
  ·go_enter Tryz.func219,Tryz.ntmps219
   go_wp2_with fail
   go_region_law (fail)
   go_wp2_with (first |(refine bX _ rfl _ _ 163 163 rfl _ _ rfl rfl (HB.out _ (by rfl) _ _) ?_))
   go_region_law (refine dz rfl _ _ 163 163 rfl (.slice (some ⟨g,(i+m) * 2,none⟩) (T-(i+m)) (cap-(i+m))) (.slice (some ⟨g,jn * 2,none⟩) (l.length-jn) (cap-jn)) (by simp [Act.eval,Act.put]) (by simp [Act.eval,Act.put]) (HA.out _ (by rfl) _ _ _) ?_)
   go_wp2_with fail
   go_ret
   exact⟨rfl,HF.out _ rfl rfl rfl rfl⟩
end
section
open Go.RowKit
theorem oU (sv wv:Value) (l ws:List Kid) (i j:Nat) (w:World) (hij:i<j) (hj:j≤l.length) (hj2:j≤i+2) (hm:i+ws.length≤j) (hne:∀b,sv.ownBlock=some b→wv.ownBlock≠some b)
 (hown:w.ownsRow 0 185 2 sv l.length (l.flatMap aR)) (hv:w.ownsRow 0 185 2 wv ws.length (ws.flatMap aR)) (hn:l.length≤1000000) :
 Calls Tryz.prog 219 #[sv,.int .i64 i,.int .i64 j,wv] w fun e w'=>∃v',e=.returned v'∧w'.ownsRow 0 185 2 v' (l.take i++ws++l.drop j).length ((l.take i++ws++l.drop j).flatMap aR)∧Only (fun k=>sv.ownBlock=some k) w w'∧v'.ownBlock=sv.ownBlock:=by
 obtain⟨g,cap,rfl⟩:∃g cap,sv=.slice (some ⟨g,0,none⟩) l.length cap:=by
  rcases hown.2 with ⟨_,h0⟩ |⟨g,cap,cur,q,_⟩
  ·omega
  ·exact⟨g,cap,q⟩
 obtain⟨ao,vc,rfl⟩:=ownsRow_form hv
 have hlen:(l.take i++ws++l.drop j).length=i+ws.length+(l.length-j):=by simp only [List.length_append,List.length_take,List.length_drop];omega
 rw [hlen]
 by_cases he:j=l.length
 ·subst he
  have:=Iz g cap l ws i ao vc w (by omega) (by omega) (by omega) hown hv hn
  rw [List.drop_length,List.append_nil,Nat.sub_self,Nat.add_zero]
  exact this.mono fun e w' ⟨h1,h2,h3⟩=>⟨_,h1,h2,h3.mono fun k _ hk=>by rw [hk];rfl,rfl⟩
 ·have:=Nh g cap ws.length (i+ws.length+(l.length-j)) j l ws i ao vc w rfl (by omega) (by omega) hij hj2 hm (fun vb e q=>hne g rfl (by rw [e,q];rfl)) hown hv hn
  exact this.mono fun e w' ⟨h1,h2,h3⟩=>⟨_,h1,h2,h3.mono fun k _ hk=>by rw [hk];rfl,rfl⟩
theorem EU (v wv:Value) (l:List Kid) (i:Nat) (w:World) (h:bL aR 2 w v l) (hi:i<l.length) (hv:w.ownsRow 0 185 2 wv 0 []) (hn:l.length≤1000000) :
 Calls Tryz.prog 198 #[v,.int .i64 i,wv] w fun e w'=>∃v',e=.returned v'∧w'.ownsRow 0 185 2 v' (fO l i []).length ((fO l i []).flatMap aR)∧Only (fun _=>False) w w'∧∀b,v'.ownBlock=some b→w.heap.size≤b:=by
 have HC:=Lib.hid (iE v l w h (by omega))
 have hform:∃a c,v=.slice a l.length c:=by cases h with
  | none=>exact⟨_,_,rfl⟩
  | some g off cap=>exact⟨_,_,rfl⟩
 obtain⟨a,c,rfl⟩:=hform
 have HV:=Lib.hid hv
 have hi0:(0:Int)≤(i:Int):=by omega
 have hi1:¬((l.length:Int)≤(i:Int)):=by omega
 have hi2:(i:Int)<(l.length:Int):=by omega
 have hw1:IntKind.i64.wrap ((i:Int)+1)=(i:Int)+1:=by exact IntWalk.i64_in _ (by omega)
 clear h hv
 go_enter Tryz.func198,Tryz.ntmps198
 go_wp2_with fail
 (with_reducible refine HC.out.mono ?_)
 rintro e w1 ⟨v1,rfl,lM,o1,new1⟩
 have hr:=oU v1 wv l [] i (i+1) w1 (by omega) (by omega) (by omega) (by simp) (fun b hb e=>by have:=new1 b hb;have:=(HV.out.lt b e).2;omega) lM (aP HV.out o1 (fun _ _=>id)) hn
 have ec:((i+1:Nat):Int)=(i:Int)+1:=by omega
 rw [ec,List.append_nil] at hr
 have HR:=Lib.hid hr
 have HO:=Lib.hid o1
 have HN:=Lib.hid new1
 clear lM o1 new1 HC hr ec
 go_wp2_with fail
 (with_reducible refine HR.out.mono ?_)
 rintro e w2 ⟨v2,rfl,kP,o2,m2⟩
 have HX:=Lib.hid (And.intro kP (And.intro o2 m2))
 clear kP o2 m2
 go_wp2_with fail
 go_ret
 obtain⟨kP,o2,m2⟩:=HX.out
 have es:fO l i []=l.take i++l.drop (i+1):=by unfold fO;rw [List.append_nil]
 rw [es]
 refine⟨v2,rfl,kP,HO.out.trans o2 (fun k hk e=>by have:=HN.out k e;omega),fun b hb=>?_⟩
 rw [m2] at hb
 exact HN.out b hb
theorem z8 (v wv:Value) (l ws:List Kid) (i:Nat) (w:World) (h:bL aR 2 w v l) (hi:i<l.length) (hne:ws≠[]) (hv:w.ownsRow 0 185 2 wv ws.length (ws.flatMap aR)) (hn:l.length≤1000000) (hwn:ws.length≤1000000) :
 Calls Tryz.prog 198 #[v,.int .i64 i,wv] w fun e w'=>∃v',e=.returned v'∧w'.ownsRow 0 185 2 v' (fO l i ws).length ((fO l i ws).flatMap aR)∧Only (fun _=>False) w w'∧∀b,v'.ownBlock=some b→w.heap.size≤b:=by
 have HC:=Lib.hid (iE v l w h (by omega))
 have hform:∃a c,v=.slice a l.length c:=by cases h with
  | none=>exact⟨_,_,rfl⟩
  | some g off cap=>exact⟨_,_,rfl⟩
 obtain⟨a,c,rfl⟩:=hform
 have HV:=Lib.hid hv
 have hi0:(0:Int)≤(i:Int):=by omega
 have hi1:¬((l.length:Int)≤(i:Int)):=by omega
 have hi2:(i:Int)<(l.length:Int):=by omega
 have hw1:IntKind.i64.wrap ((i:Int)+1)=(i:Int)+1:=by exact IntWalk.i64_in _ (by omega)
 clear h hv
 go_enter Tryz.func198,Tryz.ntmps198
 go_wp2_with fail
 (with_reducible refine HC.out.mono ?_)
 rintro e w1 ⟨v1,rfl,lM,o1,new1⟩
 have HR:=Lib.hid (yE v1 wv l ws i w1 (by omega) hne (fun b hb e=>by have:=new1 b hb;have:=(HV.out.lt b e).2;omega) lM (aP HV.out o1 (fun _ _=>id)) hn hwn)
 have HO:=Lib.hid o1
 have HN:=Lib.hid new1
 clear lM o1 new1 HC
 go_wp2_with fail
 (with_reducible refine HR.out.mono ?_)
 rintro e w2 ⟨v2,rfl,kP,o2,m2⟩
 go_wp2_with fail
 go_ret
 refine⟨v2,rfl,kP,HO.out.trans o2 (fun k hk e=>by have:=HN.out k e;omega),fun b hb=>?_⟩
 ·rcases m2 b hb with e | e
  ·exact HN.out b e
  ·have:=HO.out.size;omega
end
end Go.Proofs.YtbhiamcmiopnoaaGreatDoor
