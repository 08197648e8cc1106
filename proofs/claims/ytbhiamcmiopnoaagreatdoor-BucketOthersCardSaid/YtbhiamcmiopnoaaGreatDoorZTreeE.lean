/- Package tree over the law's pages: the item of a key. Conditions: one goroutine; the pages hold the tree. -/
import Derived.Test.YtbhiamcmiopnoaaGreatDoorZTreeC
import Derived.Test.YtbhiamcmiopnoaaGreatDoorZPlainD
import Derived.Test.YtbhiamcmiopnoaaGreatDoorZTree11
import Derived.Deep.RegionWith
set_option maxHeartbeats 8000000
set_option maxRecDepth 100000
namespace Go.Proofs.YtbhiamcmiopnoaaGreatDoor
section
open Go.RowKit
def iG (o:Option Item):Value:=match o with | some x=>iA x | none=>.agg #[str [],str [],.int .i64 0]
def gH (w:World) (b:Nat) (S:aW) (l:List Item) (key:Bytes):Ending→World→Prop:=fun e w'=>e=.returned (.tuple #[iG (aS l key),.bool (aS l key).isSome,.int .i64 0])∧aA w' b S∧aB b w w'
theorem Bo (w:World) (b:Nat) (S:aW) (root:Int) (l:List Item) (ids:List Int) (key:Bytes) (h:aA w b S) (R:bq S.L root l ids) (hs:S.stop<0) (hl:l.length<2 ^ 11) :
 Calls Tryz.prog 99 #[aF b,.int .i64 root,str key] w (gH w b S l key):=by
 have hnil:=ng b
 have gy:S.L.length≤3998:=by
  obtain⟨vL,vG,hI⟩:=h
  exact hI.few
 have hR0:=heap_alloc_new w (.cells #[str [],str [],.int .i64 0] 131)
 have o0:=(Only.refl (fun _=>False) w).alloc (.cells #[str [],str [],.int .i64 0] 131)
 cases R with
 | none=>
  have hn0:¬bn (w.alloc (.cells #[str [],str [],.int .i64 0] 131)) b w.heap.size:=fun q=>by
   have:=bM h ((aD (o0.block b h.lt (fun q=>q)) _).1 q);omega
  have c0:=ay hR0 0
  have c1:=ay hR0 1
  have c2:=ay hR0 2
  have z0:=aQ hR0 0
  have z1:=aQ hR0 1
  have z2:=aQ hR0 2
  simp only [List.getElem?_toArray,List.getElem?_cons_zero,List.getElem?_cons_succ] at c0 c1 c2
  have HP:=Lib.hid (And.intro h (And.intro hR0 (And.intro o0 hn0)))
  clear hR0 o0 hn0
  unfold aF at hnil ⊢
  go_enter Tryz.func99,Tryz.ntmps99
  go_wp2_with fail
  refine wp_loop_rounds 1 ?_
  rw [rounds_succ]
  go_wp2_with fail
  obtain⟨h,hR0,o0,_⟩:=HP.out
  have q0:=ay hR0 0
  have q1:=ay hR0 1
  have q2:=ay hR0 2
  simp only [List.getElem?_toArray,List.getElem?_cons_zero,List.getElem?_cons_succ] at q0 q1 q2
  exact bodyPost_ret (v:=.tuple #[.agg #[str [],str [],.int .i64 0],.bool false,.int .i64 0]) (by simp [results,Tryz.results99,go_sem,q0,q1,q2]) rfl ⟨rfl,h.still o0,aB.still h.lt o0⟩
 | some n _ bb _ _ T=>
  have lJ:=T.many
  have hn:n<11:=by
   apply Classical.byContradiction
   intro q
   have:=Nat.pow_le_pow_right (n:=2) (by omega) (Nat.le_of_not_lt q)
   omega
  have hpw:=h.lt
  have HB:=Lib.hid (yj.new h #[str [],str [],.int .i64 0] 131)
  have HP:=Lib.hid (And.intro (h.still o0) (aB.still h.lt o0))
  have HT:=Lib.hid T
  clear h T hl lJ hR0 o0
  unfold aF at hnil ⊢
  go_enter Tryz.func99,Tryz.ntmps99
  go_wp2_with fail
  go_loopg [9,10] n (fun gh iv dv wr=>∃(d k:Nat) (id:Int) (b':Bytes) (l':List Item) (bE:List Int),gh=k∧d+k=n∧dv=.int .i64 ((d:Int)+1)∧iv=.int .i64 id∧Tree S.L k id b' l' bE∧aS l key=aS l' key∧yj wr b w.heap.size (.cells #[str [],str [],.int .i64 0] 131)∧aA wr b S∧aB b w wr)
  case atStart=>exact⟨0,n,root,_,_,_,rfl,by omega,rfl,rfl,HT.out,rfl,HB.out,HP.out⟩
  case round=>
   obtain⟨d,k,id,b',l',bE,rfl,hdk,rfl,rfl,hT,hfi,hbk,hp,hst⟩:=hrel
   have hw1:IntKind.i64.wrap ((d:Int)+1+1)=(d:Int)+1+1:=by exact IntWalk.i64_in _ (by omega)
   clear HB HP HT
   have J8:=Lib.hid hfi
   clear hfi
   cases hT with
   | leaf _ _ hnd ne ok=>
    have hid:=cB hnd
    have MZ:¬id=0:=by omega
    have iT:=(aH _).1 ok.1
    have hlen:=ok.2.2
    have mh:=Lib.hid (lK wr b S id ((d:Int)+1) l' hp hs hnd (by omega) (by omega))
    have HS:=Lib.hid (And.intro hst hbk)
    clear hp hst hbk hnd ok
    unfold aF at mh
    go_wp2_with fail
    refine mh.out.mono ?_
    rintro e w1 ⟨v1,rfl,hrow,hap,hp1,st1⟩
    obtain⟨a1,n1,c1,rfl⟩:=bK hrow.cap
    obtain rfl:=(show n1=l'.length by cases hrow.row with | none=>rfl | some=>rfl)
    have o2:=(Only.refl (fun _=>False) w1).alloc (.cells #[.int .i64 id,.bool true,.slice a1 l'.length c1,.slice none 0 0] 207)
    have hrow2:=aU hrow.row o2 (fun _ _=>fun q=>q)
    have Jy:=Lib.hid (xD _ l' key _ hrow2 iT.2 (by omega))
    have Tw:=Lib.hid (yj.new hp1 #[.int .i64 id,.bool true,.slice a1 l'.length c1,.slice none 0 0] 207)
    have HX:=Lib.hid (And.intro (hp1.still o2) (And.intro ((HS.out.1.trans st1).trans (aB.still hp1.lt o2)) (And.intro ((HS.out.2.step st1).still hp1.lt o2) (aU hrow.row o2 (fun _ _=>fun q=>q)))))
    clear hrow hap hp1 st1 o2 hrow2 mh
    go_wp2_with fail
    refine Jy.out.mono ?_
    rintro e w3 ⟨rfl,o3⟩
    obtain⟨hp2,hs2,hb2,hr2⟩:=HX.out
    have hb3:=hb2.still hp2.lt o3
    have hp3:=hp2.still o3
    have hs3:=hs2.trans (aB.still hp2.lt o3)
    have hr3:=aU hr2 o3 (fun _ _=>fun q=>q)
    have n2:=ay (Tw.out.still hp2.lt o3).1 2
    have c0:=ay hb3.1 0
    have c1':=ay hb3.1 1
    have c2:=ay hb3.1 2
    have z0:=aQ hb3.1 0
    have z1:=aQ hb3.1 1
    have z2:=aQ hb3.1 2
    simp only [List.getElem?_toArray,List.getElem?_cons_zero,List.getElem?_cons_succ] at c0 c1' c2 n2
    have hfa:=wu l' key
    have hrl:w.heap.size≤w.heap.size:=Nat.le_refl _
    have fin:∀(x0 x1 x2:Value),aA (three w3 w.heap.size x0 x1 x2) b S∧aB b w (three w3 w.heap.size x0 x1 x2)∧(three w3 w.heap.size x0 x1 x2).heap[w.heap.size]? = some (.cells #[x0,x1,x2] 131 (0,0)):=fun x0 x1 x2=>by
     have ho:=oL w3 w.heap.size x0 x1 x2
     obtain⟨vL,vG,hI⟩:=hp3
     exact⟨⟨vL,vG,hI.beside ho (fun j q e=>hb3.2 (e▸q))⟩,hs3.fresh hpw ho (fun j e=>by have e2:j=w.heap.size:=e;omega),oM hb3.1 _ _ _⟩
    have pW:=Lib.hid fin
    have VI:=Lib.hid hfa
    cases hat:pX l' key with
    | true=>
     have hk:findAt l' key<l'.length:=by
      unfold pX at hat
      apply Classical.byContradiction
      intro q
      rw [List.getElem?_eq_none (by omega)] at hat
      cases hat
     obtain⟨x,hx⟩:∃x,l'[findAt l' key]? = some x:=⟨_,List.getElem?_eq_getElem hk⟩
     have hfx:aS l key=some x:=by rw [J8.out,hfa,hat,if_pos rfl,hx]
     obtain⟨g,off,rfl,i0,i1,i2⟩:=jL hr3 hx
     have Gp:=Lib.hid hfx
     have hk2:((findAt l' key:Nat):Int)<(l'.length:Int):=by omega
     generalize findAt l' key=p at *
     clear hfa hfx hat fin hp2 hs2 hb2 hr2 hb3 hp3 hs3 hr3 o3 Jy HX hx VI
     go_wp2_with fail
     obtain⟨f1,f2,f3⟩:=pW.out (str x.key) (str x.val) (.int .i64 x.kind)
     unfold three at f1 f2 f3
     have q0:=ay f3 0
     have q1:=ay f3 1
     have q2:=ay f3 2
     simp only [List.getElem?_toArray,List.getElem?_cons_zero,List.getElem?_cons_succ] at q0 q1 q2
     exact bodyPost_ret (v:=.tuple #[.agg #[str x.key,str x.val,.int .i64 x.kind],.bool true,.int .i64 0]) (by simp [results,Tryz.results99,go_sem,q0,q1,q2]) rfl ⟨by rw [Gp.out];rfl,f1,f2⟩
    | false=>
     have hfx:aS l key=none:=by rw [J8.out,hfa,hat];rfl
     have Gp:=Lib.hid hfx
     clear hfa hfx hat fin hp2 hs2 hb2 hr2 hb3 hp3 hs3 hr3 o3 Jy HX VI
     go_wp2_with fail
     obtain⟨f1,f2,f3⟩:=pW.out (.string ⟨#[]⟩) (.string ⟨#[]⟩) (.int .i64 0)
     unfold three at f1 f2 f3
     have q0:=ay f3 0
     have q1:=ay f3 1
     have q2:=ay f3 2
     simp only [List.getElem?_toArray,List.getElem?_cons_zero,List.getElem?_cons_succ] at q0 q1 q2
     exact bodyPost_ret (v:=.tuple #[.agg #[str [],str [],.int .i64 0],.bool false,.int .i64 0]) (by simp [results,Tryz.results99,go_sem,q0,q1,q2]) rfl ⟨by rw [Gp.out];rfl,f1,f2⟩
   | cZ k _ ts hnd two ok sub bd nd=>
    have hid:=cB hnd
    have MZ:¬id=0:=by omega
    have iT:=(aH _).1 ok.1
    have hlen:=ok.2.2
    have hne:ts≠[]:=by intro q;subst q;simp at two
    obtain⟨t,ht,uw,Ud⟩:=zq (key:=key) ok.1 sub bd hne
    have hsub:=sub t ht
    have hkl:=(List.getElem?_eq_some_iff.1 uw).1
    have mh:=Lib.hid (oN wr b S id ((d:Int)+1) (ts.map au.kid) hp hs hnd (by omega) (by omega))
    have HS:=Lib.hid (And.intro hst (And.intro hbk (And.intro hsub Ud)))
    have Il:ts.map au.kid≠[]:=by simpa using hne
    clear hp hst hbk hnd ok sub bd nd hsub Ud two ht
    generalize ts.map au.kid=kk at *
    unfold aF at mh
    go_wp2_with fail
    refine mh.out.mono ?_
    rintro e w1 ⟨v1,rfl,hrow,hap,hp1,st1⟩
    obtain⟨a1,n1,c1,rfl⟩:=bK hrow.cap
    obtain rfl:=(show n1=kk.length by cases hrow.row with | none=>rfl | some=>rfl)
    have o2:=(Only.refl (fun _=>False) w1).alloc (.cells #[.int .i64 id,.bool false,.slice none 0 0,.slice a1 kk.length c1] 207)
    have hrow2:=aU hrow.row o2 (fun _ _=>fun q=>q)
    obtain⟨g,off,rfl,_,k1⟩:=fE hrow2 uw
    have HV:Hid (∀p:fu (w1.alloc (.cells #[.int .i64 id,.bool false,.slice none 0 0,.slice (some ⟨g,off,none⟩) kk.length c1] 207)),Calls Tryz.prog 147 #[.slice (some ⟨g,off,none⟩) kk.length c1,str key] p.u fun e w'=>e=.returned (.int .i64 (eH kk key:Nat))∧Only (fun _=>False) p.u w'):=Lib.hid (fun p=>uy _ kk key _ (aU hrow2 p.h (fun _ _=>fun q=>q)) Il iT.2 (by omega))
    have hX:=heap_alloc_new w1 (.cells #[.int .i64 id,.bool false,.slice none 0 0,.slice (some ⟨g,off,none⟩) kk.length c1] 207)
    have q3:∀p:fu (w1.alloc (.cells #[.int .i64 id,.bool false,.slice none 0 0,.slice (some ⟨g,off,none⟩) kk.length c1] 207)),p.u.cell? ⟨w1.heap.size,3,none⟩=some (.slice (some ⟨g,off,none⟩) kk.length c1):=fun p=>p.cell (by rw [ay hX];rfl)
    have qk:∀p:fu (w1.alloc (.cells #[.int .i64 id,.bool false,.slice none 0 0,.slice (some ⟨g,off,none⟩) kk.length c1] 207)),p.u.cell? ⟨g,off+eH kk key * 2+1,none⟩=some (.int .i64 t.kid.page):=fun p=>p.cell k1
    have HX:=Lib.hid (And.intro (hp1.still o2) (And.intro ((HS.out.1.trans st1).trans (aB.still hp1.lt o2)) ((HS.out.2.1.step st1).still hp1.lt o2)))
    have ES:((eH kk key:Nat):Int)<(kk.length:Int):=by omega
    have hk0:(0:Int)≤((eH kk key:Nat):Int):=by omega
    generalize J9:eH kk key=p0 at *
    generalize zu:kk.length=nV at *
    clear hrow hap hp1 st1 o2 hrow2 mh hX k1 uw zu J9
    go_wp2_with fail
    refine bD (by kernel_rfl) (by kernel_rfl) (fun _W h0 h1=>?_)
    repeat (refine h1 _ _ _ (fun K hK=>?_);go_simp;first |(refine hK _ ?_;clear hK K) |(apply Exists.intro;refine⟨fun _=>?_,hK _ ?_⟩;(refine fu.calls _ (HV.out _));clear hK K))
    refine h0 _ (fun p=>?_)
    clear h0 h1 q3 qk
    go_wp2_with fail
    go_roundg k
    case measure=>omega
    case rel=>
     obtain⟨hp2,hs2,hb2⟩:=HX.out
     exact⟨d+1,k,t.kid.page,_,_,_,rfl,by omega,by go_num,rfl,HS.out.2.2.1,by rw [J8.out,HS.out.2.2.2],hb2.still hp2.lt p.h,hp2.still p.h,hs2.trans (aB.still hp2.lt p.h)⟩
end
section
open Go.RowKit
theorem M0 (key:Bytes) (f:Nat):Gq key f:=by
 induction f with
 | zero=>intro n S S2 id b0 l ids depth r w b T hf;omega
 | succ f ih=>
  intro n S S2 id b0 l ids depth r w b T hf hd0 hd hs hL hg h hk
  cases n with
  | zero=>
   cases T with
   | leaf _ _ hn ne ok=>exact Im key f S S2 id l depth r w b hn ok (by omega) hs (by omega) (by omega) h hk
  | succ n=>exact Io key f ih n S S2 id b0 l ids depth r w b T (by omega) hd0 hd hs hL (by omega) h hk
theorem ER (w:World) (b:Nat) (S S2:aW) (root root':Int) (l:List Item) (ids:List Int) (key:Bytes) (wX:Bool) (m:Nat) (h:aA w b S) (R:bq S.L root l ids) (hs:S.stop<0) (hm:l.length<2 ^ m) (hm2:m≤11) (hL:S.L.length+4+2 * m≤3998) (hg:S.given.length+60<1000000)
 (hk:jk S root key=(.ok (root',wX),S2)) :
 Calls Tryz.prog 144 #[aF b,.int .i64 root,str key] w fun e w'=>e=.returned (.tuple #[.int .i64 root',.bool wX,.int .i64 0])∧aA w' b S2∧aB b w w':=by
 have hnil:=ng b
 unfold jk at hk
 cases R with
 | none=>
  rw [if_pos rfl] at hk
  cases hk
  unfold aF at hnil ⊢
  go_enter Tryz.func144,Tryz.ntmps144
  go_wp2_with fail
  go_ret3
  exact⟨rfl,h,aB.refl b w⟩
 | some n _ bb _ _ T=>
  have hself:=T.there _ T.self
  have lJ:=T.many
  have hn:n<m:=by
   apply Classical.byContradiction
   intro q
   have:=Nat.pow_le_pow_right (n:=2) (by omega) (Nat.le_of_not_lt q)
   omega
  have hr0:¬root=0:=by omega
  rw [if_neg hr0] at hk
  have hgd:=sS key 13 S root 1
  have hD:=fun r p1 hq=>M0 key 13 n S p1 root bb l ids 1 r w b T (by omega) (by omega) (by omega) hs (by omega) (by omega) h hq
  unfold uz at hD
  rcases Bp key n S root bb l ids 1 13 T (by omega) (by omega) hs (by omega) with ⟨i1,i2⟩ |⟨i1,ts,p1,thin,i2,i3,M,i5,i6⟩
  ·have HD:=Lib.hid (hD _ _ i2)
   rw [i2] at hk
   simp only [Bool.false_eq_true,if_false] at hk
   cases hk
   clear hD i2 hgd h T
   unfold aF at hnil HD ⊢
   go_enter Tryz.func144,Tryz.ntmps144
   go_wp2_with fail
   refine HD.out.mono ?_
   rintro e w1 ⟨V,rfl,hkr,hp1,st1⟩
   obtain⟨aV,cV,rfl⟩:=ownsRow_form hkr.own
   simp only [List.length_nil]
   have o2:=(Only.refl (fun _=>False) w1).alloc (.cells #[.slice aV 0 cV,.bool false,.bool false] 248)
   have hX:=heap_alloc_new w1 (.cells #[.slice aV 0 cV,.bool false,.bool false] 248)
   have f2:=ay hX 2
   simp only [List.getElem?_toArray,List.getElem?_cons_zero,List.getElem?_cons_succ] at f2
   have HX:=Lib.hid (And.intro (hp1.still o2) (st1.trans (aB.still hp1.lt o2)))
   clear hX o2 hkr hp1 st1 HD
   go_wp2_with fail
   go_ret3
   exact⟨rfl,HX.out⟩
  ·have HD:=Lib.hid (hD _ _ i2)
   rw [i2] at hk hgd
   simp only [if_true] at hk hgd
   obtain⟨rr,htop,rfl,rfl⟩:∃rr,sw 20 p1 (ts.map au.kid)=(.ok rr,S2)∧root'=rr∧wX=true:=by
    cases ht:sw 20 p1 (ts.map au.kid) with
    | mk q p2=>
     rw [ht] at hk
     cases q with
     | error e=>cases hk
     | ok rr=>cases hk;exact⟨_,rfl,rfl,rfl⟩
   have hF:bJ (ts.map au.kid)=true∧(ts.map au.kid).length≤3:=by
    rw [List.length_map]
    rcases i6 with ⟨_,W,hw2,_⟩ |⟨_,k,o,_,rfl,O,_⟩
    ·exact⟨W.ok,by omega⟩
    ·exact⟨O.ok,by simp⟩
   have gy:=M.few
   have HF:=Lib.hid (And.intro hF htop)
   generalize ts.map au.kid=kk at *
   clear hD i2 T h i3 M i5 i6 hk hF htop
   unfold aF at hnil HD ⊢
   go_enter Tryz.func144,Tryz.ntmps144
   go_wp2_with fail
   refine HD.out.mono ?_
   rintro e w1 ⟨V,rfl,hkr,hp1,st1⟩
   obtain⟨aV,cV,rfl⟩:=ownsRow_form hkr.own
   simp only
   generalize zu:kk.length=nV at *
   have o2:=(Only.refl (fun _=>False) w1).alloc (.cells #[.slice aV nV cV,.bool thin,.bool true] 248)
   have hX:=heap_alloc_new w1 (.cells #[.slice aV nV cV,.bool thin,.bool true] 248)
   have f0:=ay hX 0
   have f2:=ay hX 2
   simp only [List.getElem?_toArray,List.getElem?_cons_zero,List.getElem?_cons_succ] at f0 f2
   have hrow:=(hkr.row).only o2 (fun _ _=>id)
   have HT:=Lib.hid (Bq _ b p1 S2 kk (.slice aV nV cV) _ (hp1.still o2) hrow HF.out.1.1 (by rw [zu];exact HF.out.1.2) (by omega) (by omega) HF.out.2)
   have HX:=Lib.hid (st1.trans (aB.still hp1.lt o2))
   clear hX o2 hkr hp1 st1 HD hrow zu
   unfold aF at HT
   go_wp2_with fail
   refine HT.out.mono ?_
   rintro e w2 ⟨rfl,hp2,st2⟩
   have HY:=Lib.hid (And.intro hp2 (HX.out.trans st2))
   clear hp2 st2 HT
   go_wp2_with fail
   go_ret3
   exact⟨rfl,HY.out⟩
end
end Go.Proofs.YtbhiamcmiopnoaaGreatDoor
