/- Package tree over the law's pages: an item is put below a twig. Conditions: one goroutine; below the page is a tree; there is room for the pages. -/
import Derived.Test.YtbhiamcmiopnoaaGreatDoorZTreeB
import Derived.Test.YtbhiamcmiopnoaaGreatDoorZPlainB
set_option maxHeartbeats 4000000
set_option maxRecDepth 100000
namespace Go.Proofs.YtbhiamcmiopnoaaGreatDoor
section
open Go.RowKit
theorem DV (x y:Bytes) (w:World):(Builtin.min_ #[9,9] 9 #[str x,str y]).run Tryz.prog w=.ok (str (jv x y)) w:=by
 have hs:∀w,(Op.stringOp .leq ⟨x.toArray⟩ ⟨y.toArray⟩).run Tryz.prog w=.ok (.bool (!Op.bytesLess y x)) w:=fun w=>by
  simp only [Op.stringOp,go_sem]
  have h:=lS x y
  simp [bytesLess_eq y x,←h,go_sem]
 have e:=bytesLess_eq y x
 unfold jv str
 by_cases h:y<x
 ·rw [decide_eq_true h] at e
  rw [e] at hs
  simp [Builtin.min_,Builtin.min2,go_sem,hs,h]
 ·rw [decide_eq_false h] at e
  rw [e] at hs
  simp [Builtin.min_,Builtin.min2,go_sem,hs,h]
theorem IU (i:Item) (hi:dK i=true) (f:Nat) (IH:GL i f) (n:Nat) (S S2:aW) (id:Int) (b0:Bytes) (l:List Item) (ids:List Int) (depth:Int) (ks:List Kid) (w:World) (b:Nat) (T:Tree S.L (n+1) id b0 l ids) (hf:n<f) (hd0:1≤depth) (hd:depth+(n+1:Nat)≤12) (hs:S.stop<0) (hL:S.L.length+3+2 * (n+1)≤3998)
 (hg:S.given.length+(f+1)<1000000) (h:aA w b S) (hk:tC (f+1) S id i depth=(.ok ks,S2)) :
 Calls Tryz.prog 174 #[aF b,.int .i64 id,iA i,.int .i64 depth] w fun e w'=>∃V,e=.returned (.tuple #[V,.int .i64 0])∧j4 w w' b V ks∧aA w' b S2∧aB b w w':=by
 obtain⟨kids,k,wk,p1,hn,hne,ok,h2k,hkk,⟨b',l',bE,hT⟩,hpp,hwne,hw3,Ue,Uf,Uh,Ug,hwr,vB⟩:=yV i hi n f S S2 id b0 l ids depth ks T hf hd hs hL hk
 have hid:=cB hn
 have iT:=(aH _).1 ok.1
 have hkl:kids.length≤255:=ok.2.2
 have hfl:=(List.getElem?_eq_some_iff.1 hkk).1
 have Po:fF k=true:=iT.1 k (List.mem_of_getElem? hkk)
 simp only [fF,decide_eq_true_eq] at Po
 have hrr:=iU vB
 have hsl:=uQ kids (dZ k.key wk) _ hfl
 rw [kg] at hsl
 have Wi:=List.length_pos_iff.2 hwne
 have hcf:=ni hrr (by
  have e1:=yu kids (dZ k.key wk) (eH kids i.key)
  have e2:aT (fO kids (eH kids i.key) (dZ k.key wk))≤392:=by
   have e3:aT (dZ k.key wk)≤1+36 * wk.length:=by
    have:=gW (dZ k.key wk) fun y hy=>(dY (((aH _).1 hrr).1 y (by unfold fO;exact List.mem_append_left _ (List.mem_append_right _ hy)))).2
    rwa [kg] at this
   have:=ok.2.1
   omega
  exact e2)
 have hsz:aT (fO kids (eH kids i.key) (dZ k.key wk))≤1000000:=by
  have:=gW _ fun y hy=>(dY (((aH _).1 hrr).1 y hy)).2
  omega
 have oW:=(Only.refl (fun _=>False) w).alloc (.cells #[str i.key,str i.val,.int .i64 i.kind] 131)
 have Gv:=oN (w.alloc (.cells #[str i.key,str i.val,.int .i64 i.kind] 131)) b S id depth kids (h.still oW) hs hn (by omega) (by omega)
 have mh:=Lib.hid Gv
 have hpw:=h.lt
 have hWs:(w.alloc (.cells #[str i.key,str i.val,.int .i64 i.kind] 131)).heap.size=w.heap.size+1:=by simp
 have zx:¬bn (w.alloc (.cells #[str i.key,str i.val,.int .i64 i.kind] 131)) b w.heap.size:=fun q=>by
  have:=bM h ((aD (oW.block b h.lt (fun q=>q)) _).1 q);omega
 have hR0:=heap_alloc_new w (.cells #[str i.key,str i.val,.int .i64 i.kind] 131)
 have HW0:=Lib.hid (aB.still h.lt oW)
 have HP:=Lib.hid h
 have QA:=Lib.hid (fun W hW=>IH n S p1 k.page b' l' bE (depth+1) wk W b hT hf (by omega) (by omega) hs (by omega) (by omega) hW hpp)
 have MB:=Lib.hid vB
 have HR:=Lib.hid (And.intro hrr (And.intro hsz (And.intro hcf hsl)))
 clear Gv h hk IH hpp vB hrr hsz hcf hsl hT T
 unfold iA aJ
 unfold aF at mh ⊢
 go_enter Tryz.func174,Tryz.ntmps174
 go_wp2_with fail
 refine mh.out.mono ?_
 rintro e w1 ⟨v1,rfl,hrow,hap,hp1,st1⟩
 obtain⟨a1,n1,c1,rfl⟩:=bK hrow.cap
 have hn1:n1=kids.length:=by
  cases hrow.row with
  | none=>rfl
  | some=>rfl
 subst hn1
 have xG:=(st1.only.block _ (by rw [hWs];omega) zx).trans hR0
 have hs1:=st1.only.size
 rw [hWs] at hs1
 have o2:=(Only.refl (fun _=>False) w1).alloc (.cells #[.int .i64 id,.bool false,.slice none 0 0,.slice a1 kids.length c1] 207)
 have hR2:=(o2.block _ (by omega) (fun q=>q)).trans xG
 have hrow2:=aU hrow.row o2 (fun _ _=>fun q=>q)
 have r0:=ay hR2 0
 have Q9:=Lib.hid (uy _ kids i.key _ hrow2 hne iT.2 (by omega))
 have rU:=heap_alloc_new w1 (.cells #[.int .i64 id,.bool false,.slice none 0 0,.slice a1 kids.length c1] 207)
 have HRW:=Lib.hid hrow
 have TF:=Lib.hid hap
 have jY:=Lib.hid hp1
 have kV:=Lib.hid (HW0.out.trans st1)
 have sO:=Lib.hid o2
 simp only [List.getElem?_toArray,List.getElem?_cons_zero] at r0
 clear xG hR0 zx hWs oW hrow hap hp1 st1 o2 hrow2 mh HW0
 go_wp2_with fail
 refine Q9.out.mono ?_
 rintro e w3 ⟨rfl,o3⟩
 have CY:(w1.alloc (.cells #[.int .i64 id,.bool false,.slice none 0 0,.slice a1 kids.length c1] 207)).heap.size=w1.heap.size+1:=by simp
 have jZ:=(o3.block _ (by rw [CY];omega) (fun q=>q)).trans hR2
 have xK:=(o3.block _ (by rw [CY];omega) (fun q=>q)).trans rU
 have kU:=Lib.hid (sO.out.trans o3 (fun _ _ q=>q))
 have r0:=ay jZ 0
 have r1:=ay jZ 1
 have r2:=ay jZ 2
 have n3:=ay xK 3
 have hrow3:=aU HRW.out.row kU.out (fun _ _=>fun q=>q)
 obtain⟨g,off,rfl,k0,k1⟩:=fE hrow3 hkk
 simp only [List.getElem?_toArray,List.getElem?_cons_zero,List.getElem?_cons_succ] at r0 r1 r2 n3
 have QJ:=Lib.hid (And.intro jZ xK)
 clear hR2 rU o3 jZ xK hrow3 Q9
 generalize J9:eH kids i.key=at_ at *
 have Ui:(at_:Int)<(kids.length:Int):=by omega
 have Uj:IntKind.i64.wrap (depth+1)=depth+1:=by exact IntWalk.i64_in _ (by omega)
 go_wp2_with fail
 have hB3:=jY.out.still kU.out
 have RU:=hB3.still ((Only.refl (fun _=>False) w3).drew)
 go_region_with (go_at_call 174;refine(QA.out _ RU).mono ?_;rintro e w4 ⟨V,rfl,hkr,iD,fP⟩)
 all_goals
  have Wj:¬bn w3.drew b w1.heap.size:=fun q=>by
   have:=bM jY.out ((aD (kU.out.block b jY.out.lt (fun q=>q)) _).1 q);omega
  have UR:=(fP.only.block _ (by have:=kU.out.size;have:=(Array.getElem?_eq_some_iff.1 QJ.out.2).1;exact this) Wj).trans QJ.out.2
  have Fv:Apart w3.drew b (.slice (some ⟨g,off,none⟩) kids.length c1):=TF.out.later kU.out.size (kU.out.block b jY.out.lt (fun q=>q))
  have hrow3:=aU (HRW.out.row) kU.out (fun _ _=>fun q=>q)
  have KQ:=aU hrow3 ((Only.refl (fun _=>False) w3).drew) (fun _ _=>fun q=>q)
  have hrow4:=aU KQ fP.only (fun j hj=>(Fv j hj).1)
  have RV:=Fv.step fP
  obtain⟨_,_,he,VT,_⟩:=fE hrow4 hkk
  cases he
  obtain⟨zo,wr,rfl⟩:=List.exists_cons_of_ne_nil hwne
  obtain⟨gv,cv,rfl⟩:∃gv cv,V=.slice (some ⟨gv,0,none⟩) (zo :: wr).length cv:=by
   rcases hkr.own.2 with ⟨q,h0⟩ |⟨gv,cv,cur,q,_⟩
   ·simp at h0
   ·exact⟨gv,cv,q⟩
  have v0:=aZ hkr.own 0 (str zo.key) rfl
  have vz:=eF hkr.own 0
  have hset:=iR hkr.own 0 (str (jv zo.key k.key))
  have n3:=ay UR 3
  simp only [List.getElem?_toArray,List.getElem?_cons_zero,List.getElem?_cons_succ] at n3
  have xE:=Lib.hid ((kV.out.trans (aB.still jY.out.lt (kU.out.trans ((Only.refl (fun _=>False) w3).drew) (fun _ _ q=>q)))).trans fP)
  have Cu:=Lib.hid iD
  have MH:=Lib.hid hkr
  have yx:=Lib.hid hset
  have HR4:=Lib.hid (And.intro hrow4 (And.intro RV UR))
  clear Wj UR Fv hrow3 KQ hrow4 RV hkr iD fP hset r0 r1 r2 k0 k1 hB3 RU
  have hmn:=DV zo.key k.key
  go_wp2_with fail
  go_region
  all_goals
   have oS:Only (fun j=>j=gv) w4 ((w4.setCell ⟨gv,0,none⟩ (str (jv zo.key k.key))).drew):=((Only.refl (fun j=>j=gv) w4).put gv 0 rfl _).drew
   obtain⟨Kh,vC⟩:=MH.out.far gv rfl
   have hg3:w3.heap.size≤gv:=Kh
   have Rk:=(MH.out.own.lt gv rfl).2
   have XE:=kU.out.size
   have hgl:=(TF.out g rfl).2
   have Wm:=(oS.block w1.heap.size (Array.getElem?_eq_some_iff.1 HR4.out.2.2).1 (fun e=>by have e2:w1.heap.size=gv:=e;have:=(Array.getElem?_eq_some_iff.1 QJ.out.2).1;omega)).trans HR4.out.2.2
   have OL:=aU HR4.out.1 oS (fun j hj e=>by have e2:g=j:=Option.some.inj hj;have e3:j=gv:=e;omega)
   have hown5:((w4.setCell ⟨gv,0,none⟩ (str (jv zo.key k.key))).drew).ownsRow 0 185 2 (.slice (some ⟨gv,0,none⟩) (dZ k.key (zo :: wr)).length cv) (dZ k.key (zo :: wr)).length ((dZ k.key (zo :: wr)).flatMap aR):=yx.out.drew
   have Wn:aA ((w4.setCell ⟨gv,0,none⟩ (str (jv zo.key k.key))).drew) b p1:=by
    obtain⟨vL,vG,hI⟩:=Cu.out
    exact⟨vL,vG,hI.beside oS (fun j q e=>vC (by have e3:j=gv:=e;exact e3▸q))⟩
   have hS5:=xE.out.fresh hpw oS (fun j e=>by have e3:j=gv:=e;have:=kV.out.only.size;omega)
   have n5:=ay Wm 3
   have RX:=Lib.hid (KJ _ _ kids (dZ k.key (zo :: wr)) at_ _ OL hfl (by simp [dZ]) hown5 (by omega) (by rw [kg];omega))
   have JB:=Lib.hid Wn
   have XF:=Lib.hid hS5
   simp only [List.getElem?_toArray,List.getElem?_cons_zero,List.getElem?_cons_succ] at n5
   clear oS Wm OL hown5 Wn hS5
   generalize ((w4.setCell ⟨gv,0,none⟩ (str (jv zo.key k.key))).drew)=w5 at *
   go_wp2_with fail
   refine RX.out.mono ?_
   rintro e w6 ⟨v6,rfl,OM,o6,RY⟩
   have P8:=j3 w6 b p1 S2 id _ ks v6 (JB.out.still o6) OM HR.out.1 HR.out.2.1 (by have:=HR.out.2.2.2;omega) (by have:=HR.out.2.2.1;omega) (by omega) (by omega) (by omega) MB.out
   have MC:=Lib.hid P8
   have Wo:=Lib.hid (XF.out.trans (aB.still JB.out.lt o6))
   clear P8 OM o6 RY RX
   unfold aF at MC
   go_wp2_with fail
   refine MC.out.mono ?_
   rintro e w7 ⟨V7,rfl,hkr,pO,tY⟩
   have P9:=Lib.hid hkr
   have QK:=Lib.hid pO
   have XG:=Lib.hid (Wo.out.trans tY)
   have hs6:=Wo.out.only.size
   clear hkr pO tY
   go_wp2_with fail
   go_ret2
   exact⟨V7,rfl,⟨P9.out.own,fun j hj=>⟨by have:=(P9.out.far j hj).1;omega,(P9.out.far j hj).2⟩⟩,QK.out,XG.out⟩
end
section
open Go.RowKit
theorem Nt (i:Item) (hi:dK i=true) (f:Nat):GL i f:=by
 induction f with
 | zero=>intro n S S2 id b0 l ids depth ks w b T hf;omega
 | succ f ih=>
  intro n S S2 id b0 l ids depth ks w b T hf hd0 hd hs hL hg h hk
  cases n with
  | zero=>
   cases T with
   | leaf _ _ hn ne ok=>exact IV i hi f S S2 id l depth ks w b hn ok (by omega) hs (by omega) (by omega) h hk
  | succ n=>exact IU i hi f ih n S S2 id b0 l ids depth ks w b T (by omega) hd0 hd hs hL hg h hk
theorem Bq (w:World) (b:Nat) (S S2:aW) (l:List Kid) (v:Value) (r:Int) (h:aA w b S) (hv:gN aR 2 w v l) (hr:bJ l=true) (h3:l.length≤3) (hL:S.L.length+1≤3998) (hg:S.given.length<1000000) (hk:sw 20 S l=(.ok r,S2)) :
 Calls Tryz.prog 175 #[aF b,v] w fun e w'=>e=.returned (.tuple #[.int .i64 r,.int .i64 0])∧aA w' b S2∧aB b w w':=by
 obtain⟨a,n,c,rfl⟩:=bK hv.cap
 have hn:n=l.length:=by
  cases hv.row with
  | none=>rfl
  | some=>rfl
 subst hn
 have HP:=Lib.hid h
 match l,hr,h3,hv,hk with
 | [],_,_,_,hk=>
  cases hk
  go_enter Tryz.func175,Tryz.ntmps175
  go_wp2_with fail
  refine wp_loop_rounds 1 ?_
  rw [rounds_succ]
  go_wp2_with fail
  go_ret2
  exact⟨rfl,h,aB.refl b w⟩
 | [k],_,_,hv,hk=>
  cases hk
  obtain⟨g,off,rfl,_,k1⟩:=fE hv.row (k:=0) (x:=k) rfl
  simp only [Nat.zero_mul,Nat.add_zero] at k1
  go_enter Tryz.func175,Tryz.ntmps175
  go_wp2_with fail
  refine wp_loop_rounds 1 ?_
  rw [rounds_succ]
  go_wp2_with fail
  go_ret2
  exact⟨rfl,h,aB.refl b w⟩
 | x :: y :: z,hr,h3,hv,hk=>
  have hk':(match eP S 0 (x :: y :: z) with |(.error e,p)=>(.error e,p) |(.ok up,p)=>sw 19 p up)=(.ok r,S2):=by
   rw [←hk,sw]<;>first | rfl |(intro k q;simp at q) |(intro q;simp at q)
  have hs:=gW (x :: y :: z) fun u hu=>(dY (((aH _).1 hr).1 u hu)).2
  have hw:gF (x :: y :: z)=[x :: y :: z]:=lg _ (by simp) (by omega) (by omega)
  have hc:bY (x :: y :: z)=[x :: y :: z]:=by unfold bY;rw [hw];rfl
  obtain⟨u,p1,hu,hur⟩:∃u p1,eP S 0 (x :: y :: z)=(.ok [u],p1)∧r=u.page∧S2=p1:=by
   cases ht:eP S 0 (x :: y :: z) with
   | mk res p1=>
    rw [ht] at hk'
    cases res with
    | error e=>cases hk'
    | ok up=>
     have hl:up.length=1:=by
      have ht2:=ht
      unfold eP at ht2
      rw [if_pos hr,hc] at ht2
      obtain⟨bE,p',h1,K⟩:=nE S 0 ([x :: y :: z].map Node.cZ) (by simpa using hL) (by omega)
      rw [h1] at ht2
      simp only at ht2
      cases ht2
      rw [mU _ _ (by rw [K.len];rfl),K.len];rfl
     obtain⟨u,rfl⟩:=List.length_eq_one_iff.1 hl
     refine⟨u,p1,rfl,?_⟩
     cases hk'
     exact⟨rfl,rfl⟩
  obtain⟨rfl,rfl⟩:=hur
  have hT:=j3 w b S S2 0 (x :: y :: z) [u] _ h hv hr (by omega) (by simp) (by rw [hc];exact hL) (by omega) (by omega) hg hu
  have HT:=Lib.hid hT
  have hl2:(1:Int)<((x :: y :: z).length:Int):=by simp only [List.length_cons];omega
  generalize x :: y :: z=l at *
  clear hT hk hk' hu hs hw hc hr h3 hv
  unfold aF at HT ⊢
  go_enter Tryz.func175,Tryz.ntmps175
  go_wp2_with fail
  refine wp_loop_rounds 2 ?_
  rw [rounds_succ]
  go_wp2_with fail
  refine HT.out.mono ?_
  rintro e w1 ⟨V,rfl,hkr,hp1,st1⟩
  obtain⟨gv,cv,rfl⟩:∃gv cv,V=.slice (some ⟨gv,0,none⟩) [u].length cv:=by
   rcases hkr.own.2 with ⟨q,h0⟩ |⟨gv,cv,cur,q,_⟩
   ·simp at h0
   ·exact⟨gv,cv,q⟩
  have v1:=aZ hkr.own 1 (.int .i64 u.page) rfl
  have HX:=Lib.hid (And.intro hp1 st1)
  clear hp1 st1 hkr
  go_wp2_with fail
  rw [rounds_succ]
  go_wp2_with fail
  go_ret2
  exact⟨rfl,HX.out.1,HX.out.2⟩
end
section
open Go.RowKit
theorem ng (b:Nat) (w:World):(binOp .eql 205 (aF b) .nilIface).run Tryz.prog w=.ok (.bool false) w:=by kernel_rfl
theorem MX (w:World) (b:Nat) (S S2:aW) (root r:Int) (l:List Item) (ids:List Int) (i:Item) (m:Nat) (h:aA w b S) (hi:dK i=true) (R:bq S.L root l ids) (hs:S.stop<0) (hm:l.length<2 ^ m) (hm2:m≤11) (hL:S.L.length+4+2 * m≤3998) (hg:S.given.length+40<1000000)
 (hk:gV S root i=(.ok r,S2)) :
 Calls Tryz.prog 143 #[aF b,.int .i64 root,iA i] w fun e w'=>e=.returned (.tuple #[.int .i64 r,.int .i64 0])∧aA w' b S2∧aB b w w':=by
 have hnil:=ng b
 have hV:=Dy i (w.alloc (.cells #[str i.key,str i.val,.int .i64 i.kind] 131))
 rw [hi] at hV
 have oW:=(Only.refl (fun _=>False) w).alloc (.cells #[str i.key,str i.val,.int .i64 i.kind] 131)
 have hR0:=heap_alloc_new w (.cells #[str i.key,str i.val,.int .i64 i.kind] 131)
 have hWs:(w.alloc (.cells #[str i.key,str i.val,.int .i64 i.kind] 131)).heap.size=w.heap.size+1:=by simp
 unfold gV at hk
 rw [if_pos hi] at hk
 have HV:=Lib.hid hV
 have HP:=Lib.hid h
 have HO:=Lib.hid oW
 by_cases h0:root=0
 ·subst h0
  rw [if_pos rfl] at hk
  have hr:bJ [i]=true:=by rw [qA];exact⟨hi,(fun y hy=>by simp at hy),pq⟩
  have hc:=(jC hi).2
  have hsz:aT [i]≤232:=by rw [bC];simp only [aT,List.foldr_nil];omega
  have hw:gF [i]=[[i]]:=lg _ (by simp) hsz (by simp)
  obtain⟨ts,p1,h1,h2,h3,h4,K,h6,h7⟩:=pz S 0 [i] hr (by omega) (by omega) (by omega)
  rw [h1] at hk
  simp only at hk
  have hgv:=kH S 0 [i]
  rw [h1] at hgv
  simp only at hgv
  have gy:=K.few
  rw [List.length_map,hw] at gy
  simp only [List.length_cons,List.length_nil] at gy
  have hL1:=fun W v (hP:aA W b S) hv=>sU W b S p1 0 [i] (ts.map au.kid) v hP hv hr (by omega) (by rw [hw];simp;omega) (by omega) (by omega) (by omega) h1
  have hT1:=fun W v (hP:aA W b p1) hv=>Bq W b p1 S2 (ts.map au.kid) v r hP hv h2.ok (by rw [List.length_map];exact h4) (by omega) (by omega) hk
  have QL:=Lib.hid hL1
  have HT1:=Lib.hid hT1
  clear hL1 hT1 hk h oW hV
  unfold iA aJ at HV ⊢
  unfold aF at hnil QL HT1 ⊢
  go_enter Tryz.func143,Tryz.ntmps143
  go_wp2_with fail
  refine HV.out.mono ?_
  rintro e w1 ⟨rfl,o1⟩
  have xG:=(o1.block _ (by rw [hWs];omega) (fun q=>q)).trans hR0
  have r0:=ay xG 0
  have r1:=ay xG 1
  have r2:=ay xG 2
  simp only [List.getElem?_toArray,List.getElem?_cons_zero,List.getElem?_cons_succ] at r0 r1 r2
  have mX:=Lib.hid (HO.out.trans o1 (fun _ _ q=>q))
  clear o1 xG hR0 hWs
  go_wp2_with fail
  have o2:=mX.out.alloc (.cells #[str i.key,str i.val,.int .i64 i.kind] 131)
  have hrow:gN aJ 3 (w1.alloc (.cells #[str i.key,str i.val,.int .i64 i.kind] 131)) (.slice (some ⟨w1.heap.size,0,none⟩) 1 1) [i]:=by
   have hq:(w1.alloc (.cells #[str i.key,str i.val,.int .i64 i.kind] 131)).ownsRow 0 131 3 (.slice (some ⟨w1.heap.size,0,none⟩) 1 1) 1 ([i].flatMap aJ):=
    eZ (heap_alloc_new w1 _) (by omega) (by unfold maxLen;omega) rfl rfl
   exact⟨bS (enc:=aJ) (k:=3) (fun _=>rfl) hq,dQ hq⟩
  refine(QL.out _ _ (HP.out.still o2) hrow).mono ?_
  rintro e w3 ⟨V,rfl,hkr,hp3,jR⟩
  have Bt:=Lib.hid ((aB.still HP.out.lt o2).trans jR)
  have ET:=Lib.hid hp3
  have MH:=Lib.hid hkr.row
  clear o2 hrow hkr hp3 jR
  go_wp2_with fail
  refine(HT1.out _ _ ET.out MH.out).mono ?_
  rintro e w4 ⟨rfl,iD,fP⟩
  have HX:=Lib.hid (And.intro iD (Bt.out.trans fP))
  clear iD fP
  go_wp2_with fail
  go_ret2
  exact⟨rfl,HX.out.1,HX.out.2⟩
 ·rw [if_neg h0] at hk
  obtain⟨n,b0,T⟩:∃n b0,Tree S.L n root b0 l ids:=by
   cases R with
   | none=>exact absurd rfl h0
   | some n _ b0 _ _ T=>exact⟨n,b0,T⟩
  have hself:=T.there _ T.self
  have lJ:=T.many
  have hn:n<m:=by
   apply Classical.byContradiction
   intro q
   have:=Nat.pow_le_pow_right (n:=2) (by omega) (Nat.le_of_not_lt q)
   omega
  obtain⟨ts,p1,h1,h2,h3,h4,h5,M,_⟩:=BA i hi n S root b0 l ids 1 13 T (by omega) (by omega) hs (by omega)
  rw [h1] at hk
  simp only at hk
  have hgv:=tN i 13 S root 1
  rw [h1] at hgv
  simp only at hgv
  have gy:=M.few
  have hL1:=fun W (hP:aA W b S)=>Nt i hi 13 n S p1 root b0 l ids 1 (ts.map au.kid) W b T (by omega) (by omega) (by omega) hs (by omega) (by omega) hP h1
  have hT1:=fun W v (hP:aA W b p1) hv=>Bq W b p1 S2 (ts.map au.kid) v r hP hv h2.ok (by rw [List.length_map];exact h5) (by omega) (by omega) hk
  have QL:=Lib.hid hL1
  have HT1:=Lib.hid hT1
  clear hL1 hT1 hk h oW hV T R
  unfold iA aJ at HV QL ⊢
  unfold aF at hnil QL HT1 ⊢
  go_enter Tryz.func143,Tryz.ntmps143
  go_wp2_with fail
  refine HV.out.mono ?_
  rintro e w1 ⟨rfl,o1⟩
  have xG:=(o1.block _ (by rw [hWs];omega) (fun q=>q)).trans hR0
  have r0:=ay xG 0
  have r1:=ay xG 1
  have r2:=ay xG 2
  simp only [List.getElem?_toArray,List.getElem?_cons_zero,List.getElem?_cons_succ] at r0 r1 r2
  have mX:=Lib.hid (HO.out.trans o1 (fun _ _ q=>q))
  clear o1 xG hR0 hWs
  go_wp2_with fail
  refine(QL.out _ (HP.out.still mX.out)).mono ?_
  rintro e w3 ⟨V,rfl,hkr,hp3,jR⟩
  have Bt:=Lib.hid ((aB.still HP.out.lt mX.out).trans jR)
  have ET:=Lib.hid hp3
  have MH:=Lib.hid hkr.row
  clear hkr hp3 jR
  go_wp2_with fail
  refine(HT1.out _ _ ET.out MH.out).mono ?_
  rintro e w4 ⟨rfl,iD,fP⟩
  have HX:=Lib.hid (And.intro iD (Bt.out.trans fP))
  clear iD fP
  go_wp2_with fail
  go_ret2
  exact⟨rfl,HX.out.1,HX.out.2⟩
end
section
open Go.RowKit
end
end Go.Proofs.YtbhiamcmiopnoaaGreatDoor
