/- Package tree over the law's pages: items are gathered: how they lie, a leaf's. Conditions: one goroutine; the pages hold the tree. -/
import Derived.Test.YtbhiamcmiopnoaaGreatDoorZTreeE
import Derived.Test.YtbhiamcmiopnoaaGreatDoorZLoad2
import Derived.Test.YtbhiamcmiopnoaaGreatDoorZPlainD
import Derived.Test.YtbhiamcmiopnoaaGreatDoorZSmallC
import Derived.BigRegion
import Derived.Test.YtbhiamcmiopnoaaGreatDoorZTreeC
import Derived.Carry
set_option maxHeartbeats 8000000
set_option maxRecDepth 100000
namespace Go.Proofs.YtbhiamcmiopnoaaGreatDoor
section
open Go.RowKit
structure Gather (w:World) (b ob sb:Nat) (S:aW) (v:Value) (pre:List Item) (A:List Int):Prop where
 pages:aA w b S
 out:w.heap[ob]? = some (.cells #[v] 140 (0,0))
 row:w.ownsRow 0 131 3 v pre.length (pre.flatMap aJ)
 set:jJ w sb A
 ne:ob≠sb
 ro:v.ownBlock≠some ob
 rs:v.ownBlock≠some sb
 po:¬bn w b ob
 ps:¬bn w b sb
 pr:∀k,v.ownBlock=some k→¬bn w b k
def ku (ob sb:Nat) (v:Value) (k:Nat):Prop:=k=ob∨k=sb∨v.ownBlock=some k
section
variable {w w' : World} {b ob sb : Nat} {S S' : aW} {v : Value} {pre : List Item} {A : List Int}
theorem Gather.lt (h:Gather w b ob sb S v pre A):∀k,ku ob sb v k→k<w.heap.size:=by
 rintro k (rfl | rfl | q)
 ·exact(Array.getElem?_eq_some_iff.1 h.out).1
 ·exact h.set.lt
 ·exact(h.row.lt k q).2
theorem Gather.apart (h:Gather w b ob sb S v pre A):∀k,ku ob sb v k→¬bn w b k:=by
 rintro k (rfl | rfl | q)
 ·exact h.po
 ·exact h.ps
 ·exact h.pr k q
theorem Gather.beside {T:Nat→Prop} (h:Gather w b ob sb S v pre A) (ho:Only T w w') (hT:∀k,ku ob sb v k→¬T k) (hp:aA w' b S') (hown:∀k,bn w' b k→bn w b k∨w.heap.size≤k):Gather w' b ob sb S' v pre A:=
 have far:∀k,ku ob sb v k→¬bn w' b k:=fun k hk q=>(hown k q).elim (h.apart k hk) fun q=>by have:=h.lt k hk;omega
 ⟨hp,(ho.block ob (h.lt ob (.inl rfl)) (hT ob (.inl rfl))).trans h.out,aP h.row ho (fun k hk=>hT k (.inr (.inr hk))),h.set.only ho (hT sb (.inr (.inl rfl))),h.ne,h.ro,h.rs,far ob (.inl rfl),far sb (.inr (.inl rfl)),fun k hk=>far k (.inr (.inr hk))⟩
theorem Gather.step (h:Gather w b ob sb S v pre A) (hp:aA w' b S') (st:aB b w w'):Gather w' b ob sb S' v pre A:=
 h.beside st.only (fun k hk=>h.apart k hk) hp st.own
theorem Gather.still (h:Gather w b ob sb S v pre A) (ho:Only (fun _=>False) w w'):Gather w' b ob sb S v pre A:=
 h.beside ho (fun _ _=>id) (h.pages.still ho) (aB.still h.pages.lt ho).own
theorem fD.TS {F:Nat→Prop} (st:aB b w w'):fD b F F w w':=⟨st.only.mono fun _ _ q=>.inr q,fun _ q=>.inl q,st.own⟩
theorem Gather.see (h:Gather w b ob sb S v pre A) {i:Int} (hs:jJ w' sb (i :: A)) (ho:Only (fun k=>k=sb) w w'):Gather w' b ob sb S v pre (i :: A)∧fD b (ku ob sb v) (ku ob sb v) w w':=by
 have hb:b≠sb:=fun e=>h.ps (.inl e.symm)
 have hw:=ho.block b h.pages.lt hb
 have far:∀k,ku ob sb v k→¬bn w' b k:=fun k hk q=>h.apart k hk ((aD hw k).1 q)
 obtain⟨vL,vG,hI⟩:=h.pages
 exact⟨⟨⟨vL,vG,hI.beside ho (fun j q e=>h.ps (e▸q))⟩,(ho.block ob (h.lt ob (.inl rfl)) h.ne).trans h.out,aP h.row ho (fun k hk e=>h.rs (e▸hk)),hs,h.ne,h.ro,h.rs,far ob (.inl rfl),far sb (.inr (.inl rfl)),fun k hk=>far k (.inr (.inr hk))⟩,
  ⟨ho.mono (fun k _ q=>.inl (.inr (.inl q))),fun _ q=>.inl q,fun k q=>.inl ((aD hw k).1 q)⟩⟩
theorem Gather.grow (h:Gather w b ob sb S v pre A) {wa:World} {v':Value} {pre':List Item} (ho:Only (fun k=>v.ownBlock=some k) w wa) (hr:wa.ownsRow 0 131 3 v' pre'.length (pre'.flatMap aJ)) (hm:∀k,v'.ownBlock=some k→v.ownBlock=some k∨w.heap.size≤k) :
 Gather (wa.setCell ⟨ob,0,none⟩ v') b ob sb S v' pre' A∧fD b (ku ob sb v) (ku ob sb v') w (wa.setCell ⟨ob,0,none⟩ v'):=by
 have RI:=h.lt ob (.inl rfl)
 have hsb:=h.lt sb (.inr (.inl rfl))
 have ho2:Only (fun k=>v.ownBlock=some k∨k=ob) w (wa.setCell ⟨ob,0,none⟩ v'):=(ho.mono (fun _ _ q=>.inl q)).put ob 0 (.inr rfl) v'
 have hb:¬(v.ownBlock=some b∨b=ob):=fun e=>e.elim (fun q=>h.pr b q (.inl rfl)) (fun q=>h.po (.inl q.symm))
 have hw:=ho2.block b h.pages.lt hb
 have WU:v'.ownBlock≠some ob:=fun q=>(hm ob q).elim h.ro (by omega)
 have hvs:v'.ownBlock≠some sb:=fun q=>(hm sb q).elim h.rs (by omega)
 have far:∀k,ku ob sb v k∨w.heap.size≤k→¬bn (wa.setCell ⟨ob,0,none⟩ v') b k:=fun k hk q=>by
  have q1:=(aD hw k).1 q
  rcases hk with hk | hk
  ·exact h.apart k hk q1
  ·have:=bM h.pages q1;omega
 obtain⟨vL,vG,hI⟩:=h.pages
 refine⟨⟨⟨vL,vG,hI.beside ho2 (fun j q e=>e.elim (fun e=>h.pr j e q) (fun e=>h.po (e▸q)))⟩,heap_setCell ((ho.block ob RI (fun e=>h.ro e)).trans h.out) 0 v',dB hr WU 0 _,h.set.only ho2 (fun e=>e.elim h.rs (fun e=>h.ne e.symm)),h.ne,WU,hvs,far ob (.inl (.inl rfl)),far sb (.inl (.inr (.inl rfl))),fun k hk=>far k ((hm k hk).imp (fun q=>.inr (.inr q)) id)⟩,
  ⟨ho2.mono (fun k _ q=>.inl (q.elim (fun q=>.inr (.inr q)) (fun q=>.inl q))),fun k q=>?_,fun k q=>.inl ((aD hw k).1 q)⟩⟩
 rcases q with q | q | q
 ·exact .inl (.inl q)
 ·exact .inl (.inr (.inl q))
 ·exact(hm k q).imp (fun q=>.inr (.inr q)) id
end
def uZ (w:World) (b ob sb:Nat) (S:aW) (v:Value) (pre':List Item) (A ids:List Int):Ending→World→Prop:=fun e w'=>∃v' A',e=.returned (.int .i64 0)∧Gather w' b ob sb S v' pre' A'∧fD b (ku ob sb v) (ku ob sb v') w w'∧(∀j∈A',j∈A∨j∈ids)∧A'.length≤A.length+ids.length
def xP (n:Nat):Prop:=∀(S:aW) (id:Int) (b0:Bytes) (l:List Item) (ids:List Int) (depth:Int) (key:Bytes) (most:Nat) (pre:List Item) (v:Value) (A:List Int) (w:World) (b ob sb:Nat),Tree S.L n id b0 l ids→1≤depth→depth+n≤12→S.stop<0→pre.length<most→most≤1073741824→l.length≤100000→
 (∀j∈ids,j∉A)→A.length+ids.length≤1000000→Gather w b ob sb S v pre A→
 Calls Tryz.prog 151 #[aF b,.int .i64 id,str key,.int .i64 most,.int .i64 depth,.pointer (some ⟨ob,0,none⟩),.map (some sb)] w (uZ w b ob sb S v (upto pre most (gL l key)) A ids)
end
section
open Go.RowKit
theorem Ol {w W:World} {g off n c i m:Nat} {l:List Item} (h:bL aJ 3 w (.slice (some ⟨g,off,none⟩) n c) l) (ho:Only (fun _=>False) w W) {j:Nat} {u:Value} (hu:(((l.drop i).take m).flatMap aJ)[j]? = some u):W.cell? ((⟨g,off+i * 3,none⟩:Addr).add j)=some u:=by
 have h2:=Al (aU h ho (fun _ _=>id)) (i * 3+j) u (by
  have e1:l.flatMap aJ=(l.take i).flatMap aJ++(((l.drop i).take m).flatMap aJ++((l.drop i).drop m).flatMap aJ):=by
   rw [←List.flatMap_append,←List.flatMap_append,List.take_append_drop,List.take_append_drop]
  have hj:j<(((l.drop i).take m).flatMap aJ).length:=by
   apply Classical.byContradiction
   intro q
   rw [List.getElem?_eq_none (by omega)] at hu
   cases hu
  have hlen:((l.take i).flatMap aJ).length=i * 3:=by
   rw [dX] at hj ⊢
   rw [List.length_take,List.length_drop] at hj
   rw [List.length_take]
   omega
  rw [e1,List.getElem?_append_right (by omega),hlen,show i * 3+j-i * 3=j by omega,List.getElem?_append_left hj]
  exact hu)
 have e0:∀o k:Nat,(⟨g,o,none⟩:Addr).add k=⟨g,o+k,none⟩:=by
  intro o k
  unfold Addr.add
  split<;>simp_all
 have e:((⟨g,off,none⟩:Addr).add (i * 3+j))=(⟨g,off+i * 3,none⟩:Addr).add j:=by
  rw [e0,e0,Nat.add_assoc]
 rw [←e]
 exact h2
theorem Ew:xP 0:=by
 intro S pg b0 l ids depth key most pre v A w b ob sb T hd Vw hs hpm hm hl hA hAn G
 obtain⟨i0,hi,hz0,hz1,hz2⟩:=info_parts nA
 cases T with
 | leaf _ _ hnd ne ok=>
  have hid:=cB hnd
  have gy:S.L.length≤3998:=by
   obtain⟨vL,vG,hI⟩:=G.pages
   exact hI.few
  have iT:=(aH _).1 ok.1
  have hwf:(Lit.int .i64 pg).wf=true:=WalkArith.wf_i64 (by omega)
  have Ta:=G.set.Cr pg hwf (hA pg (by simp))
  have Gv:=lK w b S pg depth l G.pages hs hnd (by omega) (by omega)
  have mh:=Lib.hid Gv
  have HG:=Lib.hid G
  have Tz:=Lib.hid (FJ iT.2 key)
  clear Gv G hnd hA
  unfold aF at mh ⊢
  go_enter Tryz.func151,Tryz.ntmps151
  go_wp2_with fail
  refine mh.out.mono ?_
  rintro e w1 ⟨v1,rfl,hrow,hap,hp1,st1⟩
  obtain⟨a1,n1,c1,rfl⟩:=bK hrow.cap
  obtain⟨g,off,rfl,rfl⟩:∃g off,a1=some ⟨g,off,none⟩∧n1=l.length:=by
   cases hrow.row with
   | none=>exact absurd rfl ne
   | some g off cap=>exact⟨g,off,rfl,rfl⟩
  have Cx:=Lib.hid (HG.out.step hp1 st1)
  have kV:=Lib.hid (fD.TS (F:=ku ob sb v) st1)
  have hcap:=hrow.cap
  have iX:=Lib.hid hrow
  have o2:=(Only.refl (fun _=>False) w1).alloc (.cells #[.int .i64 pg,.bool true,.slice (some ⟨g,off,none⟩) l.length c1,.slice none 0 0] 207)
  have hN:=heap_alloc_new w1 (.cells #[.int .i64 pg,.bool true,.slice (some ⟨g,off,none⟩) l.length c1,.slice none 0 0] 207)
  have hG2:=Cx.out.still o2
  obtain⟨w2,hrun,hset,ho2⟩:=hG2.set.put pg hwf (by unfold maxLen;omega)
  obtain⟨hG3,Jq⟩:=hG2.see hset ho2
  have hsb:=Cx.out.lt sb (.inr (.inl rfl))
  have rU:=(ho2.block w1.heap.size (by simp) (by omega)).trans hN
  have n1:=ay rU 1
  have n2:=ay rU 2
  simp only [List.getElem?_toArray,List.getElem?_cons_zero,List.getElem?_cons_succ] at n1 n2
  have hrg:g≠sb:=fun e=>by
   subst e
   obtain⟨D,⟨es,clock,hb,_⟩,_⟩:=Cx.out.set
   obtain⟨x,hx⟩:∃x,l[0]? = some x:=⟨_,List.getElem?_eq_getElem (List.length_pos_iff.2 ne)⟩
   obtain⟨g2,off2,q,q0,_⟩:=jL hrow.row hx
   cases q
   simp [World.cell?,hb] at q0
  have hrow2:gN aJ 3 w2 (.slice (some ⟨g,off,none⟩) l.length c1) l:=(hrow.only o2 (fun _ _=>id)).only ho2 (fun k hk e=>by injection hk with hk;exact hrg (hk.trans e))
  have Jy:=Lib.hid (xD _ l key w2 hrow2.row iT.2 (by omega))
  have Vx:=Lib.hid hG3
  have Bt:=Lib.hid ((kV.out.trans (fD.still Cx.out.pages.lt o2)).trans Jq)
  have HR2:=Lib.hid hrow2
  have QY:=Lib.hid rU
  clear hrow hap hp1 st1 mh Ta o2 hN hG2 hset ho2 hG3 Jq hrow2 rU iX
  go_wp2_with fail
  refine Jy.out.mono ?_
  rintro e w3 ⟨rfl,o3⟩
  have hG3:=Vx.out.still o3
  have xE:=Lib.hid (Bt.out.trans (fD.still Vx.out.pages.lt o3))
  have HR3:=Lib.hid (HR2.out.only o3 (fun _ _=>id))
  have m2:=ay ((o3.block w1.heap.size ((Array.getElem?_eq_some_iff.1 QY.out).1) id).trans QY.out) 2
  simp only [List.getElem?_toArray,List.getElem?_cons_zero,List.getElem?_cons_succ] at m2
  have p0:=ay hG3.out 0
  have z0:=aQ hG3.out 0
  simp only [List.getElem?_toArray,List.getElem?_cons_zero] at p0
  obtain⟨aO,cO,rfl⟩:=ownsRow_form hG3.row
  have OZ:=Lib.hid hG3
  have hat:=lq l key
  have hfl:=Tz.out
  generalize findAt l key=at_ at *
  have Jw:=Lib.hid hfl
  clear hfl
  clear n1 n2 Jy Vx Bt HR2 hrun o3 hG3
  have hr0:0<most-pre.length:=by omega
  have hmr:pre.length+(most-pre.length)=most:=by omega
  have hw1:IntKind.i64.wrap ((most:Int)-(pre.length:Int))=((most-pre.length:Nat):Int):=by
   rw [show ((most:Int)-(pre.length:Int))=((most-pre.length:Nat):Int) by omega]
   exact IntWalk.i64_in _ (by omega)
  have WV:Hid (upto pre most (l.drop at_)=pre++(l.drop at_).take (most-pre.length)):=Lib.hid rfl
  generalize most-pre.length=r at *
  by_cases hac:at_<c1
  ·obtain⟨m,hm1⟩:∃m,m=min (l.length-at_) r:=⟨_,rfl⟩
   have HM:=Lib.hid hm1
   have hm2:m≤l.length-at_∧m≤r∧(m=l.length-at_∨m=r):=by omega
   clear hm1
   have hmin:min ((l.length-at_:Nat):Int) (r:Int)=(m:Int):=by omega
   have hb1:(m:Int)≤((c1-at_:Nat):Int):=by have:=hcap.1;omega
   have hlm:(((l.drop at_).take m).flatMap aJ).length=m * 3:=by rw [dX,List.length_take,List.length_drop,Nat.min_eq_left hm2.1]
   have hnews:∀W (_:Only (fun _=>False) w3 W),∀j u,(((l.drop at_).take m).flatMap aJ)[j]? = some u→W.cell? ((⟨g,off+at_ * 3,none⟩:Addr).add j)=some u:=fun W hW=>fun j u hu=>Ol HR3.out.row hW hu
   have hone:∀u∈((l.drop at_).take m).flatMap aJ,u.oneCell'=true:=A9 _
   have HX:∀(a':Option Addr) (c':Nat) (wa:World),wa.ownsRow 0 131 3 (.slice a' (pre.length+m) c') (pre.length+m) (pre.flatMap aJ++((l.drop at_).take m).flatMap aJ)→Only (fun k=>(Value.slice aO pre.length cO).ownBlock=some k) w3 wa→Moved w3 (.slice aO pre.length cO) (.slice a' (pre.length+m) c')→
    Gather (wa.setCell ⟨ob,0,none⟩ (.slice a' (pre.length+m) c')) b ob sb S (.slice a' (pre.length+m) c') (upto pre most (l.drop at_)) (pg :: A)∧fD b (ku ob sb (.slice aO pre.length cO)) (ku ob sb (.slice a' (pre.length+m) c')) w (wa.setCell ⟨ob,0,none⟩ (.slice a' (pre.length+m) c')):=fun a' c' wa kP hq mv=>by
    have hup:upto pre most (l.drop at_)=pre++(l.drop at_).take m:=by
     rw [WV.out]
     congr 1
     rcases hm2.2.2 with e | e
     ·rw [List.take_of_length_le (by rw [List.length_drop];omega),List.take_of_length_le (by rw [List.length_drop];omega)]
     ·rw [e]
    have RG:(upto pre most (l.drop at_)).length=pre.length+m:=by
     rw [hup,List.length_append]
     have:=hlm
     rw [dX] at this
     omega
    obtain⟨k1,k2⟩:=OZ.out.grow (pre':=upto pre most (l.drop at_)) hq (by rw [RG,hup,List.flatMap_append];exact kP) mv
    exact⟨k1,xE.out.trans k2⟩
   have IW:=Lib.hid HX
   have Mj:=OZ.out.lt ob (.inl rfl)
   have Mk:=OZ.out.ro
   have own:=OZ.out.row
   have pW:Hid (∀j∈pg :: A,j∈A∨j∈[pg]):=Lib.hid (fun j hj=>by rcases List.mem_cons.1 hj with rfl | hj;exact .inr (by simp);exact .inl hj)
   clear HX
   go_wp2_with fail
   go_region_law (refine dF _ rfl _ _ 140 rfl 131 i0 _ 3 40 Tryz.underlying140 hi hz0 hz1 hz2 rfl (by decide) (.slice aO pre.length cO) pre.length (pre.flatMap aJ) (by simp [Act.eval,Act.put]) own.drew ⟨g,off+at_ * 3,none⟩ m (c1-at_) (((l.drop at_).take m).flatMap aJ) (by simp [Act.eval,Act.put]) hlm (hnews _ (Only.refl _ w3).drew) hone (by unfold maxLen;omega) (by omega) ?_;intro a' c' wa kP gr mv;have hq:Only (fun k=>(Value.slice aO pre.length cO).ownBlock=some k) w3 wa:=((Only.refl _ w3).drew).grown gr (fun k _ h=>h);have e0:=(hq.cell (p:=⟨ob,0,none⟩) Mj Mk).trans p0;have y0:=(hq.frozen (p:=⟨ob,0,none⟩) Mj Mk).trans z0;clear gr)
   all_goals
    obtain⟨k1,k2⟩:=IW.out a' c' wa kP hq mv
    have HY:=Lib.hid (And.intro k1 k2)
    clear k1 k2 kP mv hq
    go_wp2_with fail
    go_ret
    exact⟨_,_,rfl,by rw [Jw.out];exact HY.out.1,HY.out.2,pW.out,by simp⟩
  ·have hcap0:=hcap.1
   obtain rfl:at_=l.length:=by omega
   obtain rfl:c1=l.length:=by omega
   have hmin:min (0:Int) (r:Int)=(0:Int):=by omega
   have hlm:((([]:List Item)).flatMap aJ).length=0 * 3:=by simp
   have hnews:∀W (_:Only (fun _=>False) w3 W),∀j u,((([]:List Item)).flatMap aJ)[j]? = some u→W.cell? ((⟨g,off,none⟩:Addr).add j)=some u:=fun W hW=>fun j u hu=>by cases hu
   have hone:∀u∈(([]:List Item)).flatMap aJ,u.oneCell'=true:=A9 _
   have HX:∀(a':Option Addr) (c':Nat) (wa:World),wa.ownsRow 0 131 3 (.slice a' (pre.length+0) c') (pre.length+0) (pre.flatMap aJ++(([]:List Item)).flatMap aJ)→Only (fun k=>(Value.slice aO pre.length cO).ownBlock=some k) w3 wa→Moved w3 (.slice aO pre.length cO) (.slice a' (pre.length+0) c')→
    Gather (wa.setCell ⟨ob,0,none⟩ (.slice a' (pre.length+0) c')) b ob sb S (.slice a' (pre.length+0) c') (upto pre most (l.drop l.length)) (pg :: A)∧fD b (ku ob sb (.slice aO pre.length cO)) (ku ob sb (.slice a' (pre.length+0) c')) w (wa.setCell ⟨ob,0,none⟩ (.slice a' (pre.length+0) c')):=fun a' c' wa kP hq mv=>by
    have hup:upto pre most (l.drop l.length)=pre++([]:List Item):=by rw [WV.out,List.drop_length,List.take_nil]
    have RG:(upto pre most (l.drop l.length)).length=pre.length+0:=by
     rw [hup,List.length_append]
     have:=hlm
     rw [dX] at this
     omega
    obtain⟨k1,k2⟩:=OZ.out.grow (pre':=upto pre most (l.drop l.length)) hq (by rw [RG,hup,List.flatMap_append];exact kP) mv
    exact⟨k1,xE.out.trans k2⟩
   have IW:=Lib.hid HX
   have Mj:=OZ.out.lt ob (.inl rfl)
   have Mk:=OZ.out.ro
   have own:=OZ.out.row
   have pW:Hid (∀j∈pg :: A,j∈A∨j∈[pg]):=Lib.hid (fun j hj=>by rcases List.mem_cons.1 hj with rfl | hj;exact .inr (by simp);exact .inl hj)
   clear HX
   go_wp2_with fail
   go_region_law (refine dF _ rfl _ _ 140 rfl 131 i0 _ 3 40 Tryz.underlying140 hi hz0 hz1 hz2 rfl (by decide) (.slice aO pre.length cO) pre.length (pre.flatMap aJ) (by simp [Act.eval,Act.put]) own.drew ⟨g,off,none⟩ 0 0 ((([]:List Item)).flatMap aJ) (by simp [Act.eval,Act.put]) hlm (hnews _ (Only.refl _ w3).drew) hone (by unfold maxLen;omega) (by omega) ?_;intro a' c' wa kP gr mv;have hq:Only (fun k=>(Value.slice aO pre.length cO).ownBlock=some k) w3 wa:=((Only.refl _ w3).drew).grown gr (fun k _ h=>h);have e0:=(hq.cell (p:=⟨ob,0,none⟩) Mj Mk).trans p0;have y0:=(hq.frozen (p:=⟨ob,0,none⟩) Mj Mk).trans z0;clear gr)
   all_goals
    obtain⟨k1,k2⟩:=IW.out a' c' wa kP hq mv
    have HY:=Lib.hid (And.intro k1 k2)
    clear k1 k2 kP mv hq
    go_wp2_with fail
    go_ret
    exact⟨_,_,rfl,by rw [Jw.out];exact HY.out.1,HY.out.2,pW.out,by simp⟩
end
section
open Go.RowKit
theorem sj {α:Type} {enc:α→List Value} {k:Nat} {w:World} {a:Option Addr} {n c:Nat} {xs:List α} (h:bL enc k w (.slice a n c) xs):n=xs.length∧(xs≠[]→∃g off,a=some ⟨g,off,none⟩):=by
 cases h with
 | none=>exact⟨rfl,fun q=>absurd rfl q⟩
 | some g off cap=>exact⟨rfl,fun _=>⟨g,off,rfl⟩⟩
structure Half (w wr:World) (b ob sb:Nat) (S:aW) (v:Value) (pre:List Item) (A:List Int) (pg:Int) (ts:List au) (key:Bytes) (most:Nat) (g off nK c1 i:Nat) (vj:Value) (pj:List Item) (Aj:List Int):Prop where
 Qu:Gather wr b ob sb S vj pj Aj
 step:fD b (ku ob sb v) (ku ob sb vj) w wr
 row:gN aR 2 wr (.slice (some ⟨g,off,none⟩) nK c1) (ts.map au.kid)
 far:¬ku ob sb vj g
 apart:¬bn wr b g
 lt:g<wr.heap.size
 pre:pj=upto pre most (gL ((ts.take i).flatMap au.items) key)
 sub:∀x∈Aj,x∈A∨x=pg∨x∈(ts.take i).flatMap au.ids
 len:Aj.length≤A.length+1+((ts.take i).flatMap au.ids).length
theorem Half.still {w wr w':World} {b ob sb:Nat} {S:aW} {v:Value} {pre:List Item} {A:List Int} {pg:Int} {ts:List au} {key:Bytes} {most g off nK c1 i:Nat} {vj:Value} {pj:List Item} {Aj:List Int}
 (h:Half w wr b ob sb S v pre A pg ts key most g off nK c1 i vj pj Aj) (ho:Only (fun _=>False) wr w'):Half w w' b ob sb S v pre A pg ts key most g off nK c1 i vj pj Aj:=
 ⟨h.Qu.still ho,h.step.trans (fD.still h.Qu.pages.lt ho),h.row.only ho (fun _ _=>id),h.far,fun q=>h.apart ((aD (ho.block b h.Qu.pages.lt id) _).1 q),by have:=ho.size;have:=h.lt;omega,h.pre,h.sub,h.len⟩
theorem Half.next {w wr w':World} {b ob sb:Nat} {S:aW} {v v':Value} {pre:List Item} {A A':List Int} {pg:Int} {ts:List au} {t:au} {key:Bytes} {most g off nK c1 i:Nat} {vj:Value} {pj:List Item} {Aj:List Int}
 (h:Half w wr b ob sb S v pre A pg ts key most g off nK c1 i vj pj Aj) (ht:ts[i]? = some t) (hp:pj.length<most) (G:Gather w' b ob sb S v' (upto pj most (gL t.items key)) A') (C:fD b (ku ob sb vj) (ku ob sb v') wr w') (hs:∀j∈A',j∈Aj∨j∈t.ids) (hl:A'.length≤Aj.length+t.ids.length) :
 Half w w' b ob sb S v pre A pg ts key most g off nK c1 (i+1) v' (upto pj most (gL t.items key)) A':=by
 refine⟨G,h.step.trans C,h.row.only C.only (fun k hk q=>?_),fun q=>(C.grow g q).elim h.far (by have:=h.lt;omega),fun q=>(C.own g q).elim h.apart (by have:=h.lt;omega),by have:=C.only.size;have:=h.lt;omega,?_,fun x hx=>?_,?_⟩
 ·cases hk
  exact q.elim h.far h.apart
 ·rw [nP ht,pF]
  have e:=h.pre
  rw [e] at hp
  rw [IY hp,←e]
 ·rw [nP ht]
  rcases hs x hx with q | q
  ·rcases h.sub x q with q | q | q
   ·exact .inl q
   ·exact .inr (.inl q)
   ·exact .inr (.inr (List.mem_append_left _ q))
  ·exact .inr (.inr (List.mem_append_right _ q))
 ·rw [nP ht,List.length_append]
  have:=h.len
  omega
theorem Half.done {w wr:World} {b ob sb:Nat} {S:aW} {v:Value} {pre:List Item} {A:List Int} {pg:Int} {ts:List au} {key:Bytes} {most g off nK c1 i:Nat} {vj:Value} {pj:List Item} {Aj:List Int}
 (h:Half w wr b ob sb S v pre A pg ts key most g off nK c1 i vj pj Aj) (hx:pj=upto pre most (gL (ts.flatMap au.items) key)):uZ w b ob sb S v (upto pre most (gL (ts.flatMap au.items) key)) A (pg :: ts.flatMap au.ids) (.returned (.int .i64 0)) wr:=by
 refine⟨vj,Aj,rfl,hx▸h.Qu,h.step,fun j hj=>?_,?_⟩
 ·rcases h.sub j hj with q | q | q
  ·exact .inl q
  ·exact .inr (by simp [q])
  ·refine .inr (List.mem_cons_of_mem _ ?_)
   rw [vQ ts i au.ids]
   exact List.mem_append_left _ q
 ·have:=h.len
  have e:=congrArg List.length (vQ ts i au.ids)
  rw [List.length_append] at e
  rw [List.length_cons]
  omega
theorem Ey (n:Nat) (IH:xP n):xP (n+1):=by
 intro S pg b0 l ids depth key most pre v A w b ob sb T hd Vw hs hpm hm hl hA hAn G
 cases T with
 | cZ _ _ ts hnd two ok sub bd nd=>
  have hid:=cB hnd
  have gy:S.L.length≤3998:=by
   obtain⟨vL,vG,hI⟩:=G.pages
   exact hI.few
  have iT:=(aH _).1 ok.1
  have hne:ts≠[]:=by intro q;subst q;simp at two
  have Il:ts.map au.kid≠[]:=by simpa using hne
  have hwf:(Lit.int .i64 pg).wf=true:=WalkArith.wf_i64 (by omega)
  have Ta:=G.set.Cr pg hwf (hA pg (by simp))
  have Gv:=rz w b S pg depth (ts.map au.kid) G.pages hs hnd (by omega) (by omega)
  have mh:=Lib.hid Gv
  have HG:=Lib.hid G
  have Qv:=FK (key:=key) ok.1 bd hne
  have hlen:(ts.map au.kid).length≤255:=ok.2.2
  have HT:=Lib.hid (And.intro sub (And.intro nd (And.intro hA (And.intro hAn hl))))
  have htl:ts.length=(ts.map au.kid).length:=by simp
  clear Gv G hnd hA sub nd bd hl hAn
  unfold aF at mh ⊢
  go_enter Tryz.func151,Tryz.ntmps151
  go_wp2_with fail
  refine mh.out.mono ?_
  rintro e w1 ⟨v1,rfl,hrow,hap,hp1,st1,hnew⟩
  obtain⟨a1,n1,c1,rfl⟩:=bK hrow.cap
  obtain⟨rfl,hsh⟩:=sj hrow.row
  obtain⟨g,off,rfl⟩:=hsh Il
  clear hsh
  have hcap:=hrow.cap
  have hg0:=hnew g rfl
  have hg1:=hap g rfl
  have Cx:=Lib.hid (HG.out.step hp1 st1)
  have kV:=Lib.hid (fD.TS (F:=ku ob sb v) st1)
  have o2:=(Only.refl (fun _=>False) w1).alloc (.cells #[.int .i64 pg,.bool false,.slice none 0 0,.slice (some ⟨g,off,none⟩) (ts.map au.kid).length c1] 207)
  have hN:=heap_alloc_new w1 (.cells #[.int .i64 pg,.bool false,.slice none 0 0,.slice (some ⟨g,off,none⟩) (ts.map au.kid).length c1] 207)
  have hG2:=Cx.out.still o2
  obtain⟨w2,hrun,hset,ho2⟩:=hG2.set.put pg hwf (by have:=HT.out.2.2.2.1;unfold maxLen;simp only [List.length_cons] at this;omega)
  obtain⟨hG3,Jq⟩:=hG2.see hset ho2
  have hsb:=HG.out.lt sb (.inr (.inl rfl))
  have hwl:=st1.only.size
  have rU:=(ho2.block w1.heap.size (by simp) (by omega)).trans hN
  have n1:=ay rU 1
  simp only [List.getElem?_toArray,List.getElem?_cons_zero,List.getElem?_cons_succ] at n1
  have hrow2:gN aR 2 w2 (.slice (some ⟨g,off,none⟩) (ts.map au.kid).length c1) (ts.map au.kid):=(hrow.only o2 (fun _ _=>id)).only ho2 (fun k hk e=>by have hk2:g=k:=Option.some.inj hk;have e2:k=sb:=e;omega)
  have hH:Half w w2 b ob sb S v pre A pg ts key most g off (ts.map au.kid).length c1 (eH (ts.map au.kid) key) v pre (pg :: A):=by
   refine⟨hG3,(kV.out.trans (fD.still Cx.out.pages.lt o2)).trans Jq,hrow2,fun q=>?_,fun q=>?_,?_,?_,fun x hx=>?_,?_⟩
   ·have:=HG.out.lt g q;omega
   ·rcases Jq.own g q with q | q
    ·exact hg1.1 ((aD (o2.block b Cx.out.pages.lt id) _).1 q)
    ·rw [World.size_alloc] at q;omega
   ·have:=ho2.size;rw [World.size_alloc] at this;omega
   ·rw [Qv.2,Lb]
   ·rcases List.mem_cons.1 hx with q | q
    ·exact .inr (.inl q)
    ·exact .inl q
   ·rw [List.length_cons];omega
  have HH:=Lib.hid hH
  have HV:Hid (∀p:fu w2,Calls Tryz.prog 147 #[.slice (some ⟨g,off,none⟩) (ts.map au.kid).length c1,str key] p.u fun e w'=>e=.returned (.int .i64 (eH (ts.map au.kid) key:Nat))∧Only (fun _=>False) p.u w'):=Lib.hid (fun p=>uy _ (ts.map au.kid) key _ (aU hrow2.row p.h (fun _ _=>fun q=>q)) Il iT.2 (by omega))
  have q3:∀p:fu w2,p.u.cell? ⟨w1.heap.size,3,none⟩=some (.slice (some ⟨g,off,none⟩) (ts.map au.kid).length c1):=fun p=>p.cell (by rw [ay rU];rfl)
  have hk0:=Qv.1
  rw [htl] at hk0
  clear hrow hap hp1 st1 mh o2 hN hG2 hset ho2 hG3 Jq hrow2 rU Qv Cx kV hH hg0 hg1 hnew hsb hwl HG
  generalize J9:eH (ts.map au.kid) key=k0 at *
  generalize zu:(ts.map au.kid).length=nV at *
  have hk1:((k0:Nat):Int)<(nV:Int):=by omega
  have hk2:(0:Int)≤((k0:Nat):Int):=by omega
  have hc1:nV≤c1:=hcap.1
  have hk3:k0<c1:=by omega
  have hk4:((k0:Nat):Int)<(c1:Int):=by omega
  have hk5:((k0:Nat):Int)≤(nV:Int):=by omega
  have YH:((nV:Nat):Int)≤(c1:Int):=by omega
  clear J9 zu hcap
  go_wp2_with fail
  refine bD (by kernel_rfl) (by kernel_rfl) (fun _W h0 h1=>?_)
  repeat (refine h1 _ _ _ (fun K hK=>?_);go_simp;first |(refine hK _ ?_;clear hK K) |(apply Exists.intro;refine⟨fun _=>?_,hK _ ?_⟩;(refine fu.calls _ (HV.out _));clear hK K))
  refine h0 _ (fun p=>?_)
  clear h0 h1 q3 HV n1 hrun Ta
  obtain⟨w3,hw3⟩:∃w3,p.u=w3:=⟨_,rfl⟩
  have QJ:=Lib.hid (HH.out.still p.h)
  rw [hw3] at *
  clear hw3 p HH
  go_wp2_with fail
  generalize hmm:nV-k0=m at *
  have hmn:k0+m=nV:=by omega
  clear hmm
  go_loopg [76] m (fun gh iv wr=>∃(j:Nat) (vj:Value) (pj:List Item) (Aj:List Int),gh+j=m∧iv=.int .i64 j∧Half w wr b ob sb S v pre A pg ts key most g off nV c1 (k0+j) vj pj Aj)
  case atStart=>exact⟨0,v,pre,pg :: A,by omega,rfl,QJ.out⟩
  case round=>
   obtain⟨j,vj,pj,Aj,hgj,rfl,hh⟩:=hrel
   have Tc:=Lib.hid hh
   clear QJ
   by_cases hj:j<m
   ·have hj1:(j:Int)<(m:Int):=by omega
    have hj0:(0:Int)≤(j:Int):=by omega
    obtain⟨t,ht⟩:∃t,ts[k0+j]? = some t:=⟨_,List.getElem?_eq_getElem (by omega)⟩
    obtain⟨g',off',he,k1,k2⟩:=fE hh.row.row (k:=k0+j) (x:=t.kid) (by rw [List.getElem?_map,ht];rfl)
    cases he
    rw [show off+(k0+j) * 2=off+k0 * 2+j * 2 by omega] at k1 k2
    have oK:=(Only.refl (fun _=>False) wr).alloc (.cells #[str t.kid.key,.int .i64 t.kid.page] 185)
    have Hl:=hh.still oK
    have p0:=ay Hl.Qu.out 0
    simp only [List.getElem?_toArray,List.getElem?_cons_zero] at p0
    obtain⟨aO,cO,rfl⟩:=ownsRow_form Hl.Qu.row
    have hw1:IntKind.i64.wrap (depth+1)=depth+1:=by exact IntWalk.i64_in _ (by omega)
    have hw2:IntKind.i64.wrap ((j:Int)+1)=(j:Int)+1:=by exact IntWalk.i64_in _ (by omega)
    have TT:=Lib.hid Hl
    have Vy:=Lib.hid ht
    by_cases hfull:most≤pj.length
    ·have hfi:(most:Int)≤(pj.length:Int):=by omega
     clear hh Hl oK ht
     go_wp2_with fail
     go_ret
     have hd2:=TT.out
     refine hd2.done ?_
     rw [vQ ts (k0+j) au.items,pF,IZ _ (by rw [←hd2.pre];omega)]
     exact hd2.pre
    ·have hfi:¬(most:Int)≤(pj.length:Int):=by omega
     obtain⟨sub,nd,hA,hAn,hl⟩:=HT.out
     have hap:=rY ht nd
     have hir:=D6 ht
     have Hg:=Hl.len
     have hsub2:=Hl.sub
     have hit:=FL ht
     rw [List.length_cons] at hAn
     have HI:=Lib.hid (IH S t.kid.page t.low t.items t.ids (depth+1) key most pj (.slice aO pj.length cO) Aj _ b ob sb (sub t (List.mem_of_getElem? ht)) (by omega) (by omega) hs (by omega) hm (by omega) (fun y hy q=>by
      rcases hsub2 y q with q | q | q
      ·exact hA y (List.mem_cons_of_mem _ (hap y hy).2.2) q
      ·exact(hap y hy).1 q
      ·exact(hap y hy).2.1 q) (by omega) Hl.Qu)
     clear hh Hl oK ht sub nd hA hAn hl hap hir Hg hsub2 hit
     unfold aF uZ at HI
     go_wp2_with fail
     refine HI.out.mono ?_
     rintro e w5 ⟨v',A',rfl,G5,C5,s5,l5⟩
     have Vz:=Lib.hid (TT.out.next Vy.out (by omega) G5 C5 s5 l5)
     clear G5 C5 s5 l5 HI
     go_wp2_with fail
     go_roundg (gk-1)
     case measure=>omega
     case rel=>exact⟨j+1,v',_,A',by omega,by go_num,Vz.out⟩
   ·obtain rfl:j=m:=by omega
    have hj1:¬(j:Int)<(j:Int):=by omega
    have SX:Hid (ts.take (k0+j)=ts):=Lib.hid (List.take_of_length_le (by omega))
    clear hh
    go_wp2_with fail
    go_ret
    have hd2:=Tc.out
    refine hd2.done ?_
    have hp:=hd2.pre
    rw [SX.out] at hp
    exact hp
theorem Jr (n:Nat):xP n:=by
 induction n with
 | zero=>exact Ew
 | succ n ih=>exact Ey n ih
end
section
open Go.RowKit
theorem fD.toP {b:Nat} {F F':Nat→Prop} {w wA w':World} (hb:b<w.heap.size) (ho:Only (fun _=>False) w wA) (C:fD b F F' wA w') (hF:∀k,F k→w.heap.size≤k):aB b w w':=by
 have hp:=aD (ho.block b hb id)
 have hs:=ho.size
 refine⟨(ho.mono (fun _ _ q=>q.elim)).trans C.only (fun i hi q=>?_),fun k q=>?_⟩
 ·rcases q with q | q
  ·have:=hF i q;omega
  ·exact(hp i).1 q
 ·rcases C.own k q with q | q
  ·exact .inl ((hp k).1 q)
  ·exact .inr (by omega)
theorem bq.many {L:List Node} {root:Int} {l:List Item} {ids:List Int} (h:bq L root l ids):ids.length≤2 * l.length:=by
 cases h with
 | none=>simp
 | some n _ b _ _ h=>have:=h.Qf;omega
def nW (w:World) (b:Nat) (S:aW) (m:List Item):Ending→World→Prop:=fun e w'=>∃v,e=.returned (.tuple #[v,.int .i64 0])∧gN aJ 3 w' v m∧Apart w' b v∧aA w' b S∧aB b w w'∧∀j,bI v=some j→w.heap.size≤j
theorem Ay (w:World) (b:Nat) (S:aW) (root:Int) (l:List Item) (ids:List Int) (key:Bytes) (most:Int) (h:aA w b S) (R:bq S.L root l ids) (hs:S.stop<0) (hl:l.length<2 ^ 11) (hm:most≤1073741824) :
 Calls Tryz.prog 102 #[aF b,.int .i64 root,str key,.int .i64 most] w (nW w b S ((gL l key).take most.toNat)):=by
 have hnil:=ng b
 have KR:=R.many
 have o1:=(Only.refl (fun _=>False) w).alloc (.cells #[.slice none 0 0] 140)
 have Ml:(gL l key).take most.toNat=[]→Hid (∀w',Only (fun _=>False) w w'→nW w b S ((gL l key).take most.toNat) (.returned (.tuple #[.slice none 0 0,.int .i64 0])) w'):=fun e=>Lib.hid (fun w' ho=>⟨_,rfl,by rw [e];exact⟨.none,Nat.le_refl _,Nat.zero_le _⟩,(fun j hj=>by cases hj),h.still ho,aB.still h.lt ho,fun j hj=>by cases hj⟩)
 by_cases hm1:1≤most
 ·obtain⟨mo,rfl⟩:∃mo:Nat,most=mo:=⟨most.toNat,by omega⟩
  have hm0:¬(mo:Int)<1:=by omega
  cases R with
  | none=>
   have HE:=Ml (by simp [gL])
   have HO:=Lib.hid o1
   clear Ml o1 h
   unfold aF at hnil ⊢
   go_enter Tryz.func102,Tryz.ntmps102
   go_wp2_with fail
   go_ret2
   exact HE.out _ HO.out
  | some n _ bb _ _ T=>
   have lJ:=T.many
   have hn:n<11:=by
    apply Classical.byContradiction
    intro q
    have:=Nat.pow_le_pow_right (n:=2) (by omega) (Nat.le_of_not_lt q)
    omega
   have hself:=T.there _ T.self
   have hr0:¬root=0:=by omega
   have o2:=o1.alloc (.map #[] 0)
   have hN:=heap_alloc_new w (.cells #[.slice none 0 0] 140)
   have hsz:(w.alloc (.cells #[.slice none 0 0] 140)).heap.size=w.heap.size+1:=by simp
   have hset:=jJ.made (w.alloc (.cells #[.slice none 0 0] 140))
   rw [hsz] at hset
   have WW:=(((Only.refl (fun _=>False) (w.alloc (.cells #[.slice none 0 0] 140))).alloc (.map #[] 0)).block w.heap.size (by omega) id).trans hN
   have hpw:=h.lt
   have hfresh:∀k,w.heap.size≤k→¬bn ((w.alloc (.cells #[.slice none 0 0] 140)).alloc (.map #[] 0)) b k:=fun k hk q=>by
    have:=bM h ((aD (o2.block b hpw id) k).1 q)
    omega
   have G:Gather ((w.alloc (.cells #[.slice none 0 0] 140)).alloc (.map #[] 0)) b w.heap.size (w.heap.size+1) S (.slice none 0 0) [] []:=
    ⟨h.still o2,WW,⟨rfl,.inl ⟨rfl,rfl⟩⟩,hset,by omega,(by simp [Value.ownBlock]),(by simp [Value.ownBlock]),hfresh _ (Nat.le_refl _),hfresh _ (by omega),fun k hk=>by simp [Value.ownBlock] at hk⟩
   have HI:=Lib.hid (Jr n S root bb l ids 1 key mo [] (.slice none 0 0) [] _ b w.heap.size (w.heap.size+1) T (by omega) (by omega) hs (by simp;omega) (by omega) (by omega) (fun _ _ q=>by cases q) (by simp only [List.length_nil];omega) G)
   have sO:=Lib.hid o2
   have hrun:=fun (W:World)=>run_makeMap (P:=Tryz.prog) 220 W
   clear Ml o1 o2 h hN hset WW hfresh G T
   unfold aF uZ at HI
   unfold aF at hnil ⊢
   rw [I4] at HI
   go_enter Tryz.func102,Tryz.ntmps102
   go_wp2_with fail
   refine HI.out.mono ?_
   rintro e w5 ⟨v',A',rfl,G5,C5,s5,l5⟩
   have p0:=ay G5.out 0
   simp only [List.getElem?_toArray,List.getElem?_cons_zero] at p0
   have pW:Hid (nW w b S ((gL l key).take mo) (.returned (.tuple #[v',.int .i64 0])) w5):=Lib.hid ⟨v',rfl,⟨bS (fun _=>rfl) G5.row,dQ G5.row⟩,(fun k hk=>by
    rw [bg G5.row] at hk
    exact⟨G5.pr k hk,(G5.row.lt k hk).2⟩),G5.pages,fD.toP hpw sO.out C5 (fun k hk=>by
     rcases hk with rfl | rfl | q
     ·exact Nat.le_refl _
     ·omega
     ·simp [Value.ownBlock] at q),fun k hk=>by
    rw [bg G5.row] at hk
    rcases C5.grow k (.inr (.inr hk)) with q | q
    ·rcases q with rfl | rfl | q
     ·exact Nat.le_refl _
     ·omega
     ·simp [Value.ownBlock] at q
    ·have:=sO.out.size;omega⟩
   obtain⟨aO,nO,cO,rfl⟩:=bK (dQ G5.row)
   clear G5 C5 s5 l5 HI sO
   go_wp2_with fail
   go_ret2
   exact pW.out
 ·have hm0:most<1:=by omega
  have HE:=Ml (by rw [show most.toNat=0 by omega,List.take_zero])
  have HO:=Lib.hid o1
  clear Ml o1 h
  unfold aF at hnil ⊢
  by_cases hr0:root=0
  ·subst hr0
   go_enter Tryz.func102,Tryz.ntmps102
   go_wp2_with fail
   go_ret2
   exact HE.out _ HO.out
  ·go_enter Tryz.func102,Tryz.ntmps102
   go_wp2_with fail
   go_ret2
   exact HE.out _ HO.out
end
end Go.Proofs.YtbhiamcmiopnoaaGreatDoor
