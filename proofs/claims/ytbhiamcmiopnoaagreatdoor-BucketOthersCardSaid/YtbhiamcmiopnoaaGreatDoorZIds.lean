/- Go's slices.Sort at ints, laid at this program. Conditions: fewer than 2^62 numbers, in a block that is there. (Printed by the kit's lay-shelf.mjs and lay-plain.mjs, taken out by wip/sort1.py.) -/
import Derived.Shelf.Sort.Plain
import Derived.Test.YtbhiamcmiopnoaaGreatDoorZBase
import Derived.Test.YtbhiamcmiopnoaaGreatDoorZTreeE
import Derived.Test.YtbhiamcmiopnoaaGreatDoorZLoad2
import Derived.Test.YtbhiamcmiopnoaaGreatDoorZSmallC
import Derived.Test.YtbhiamcmiopnoaaGreatDoorZItems
import Derived.Shelf.Slices.In.SortNone
import Derived.Test.YtbhiamcmiopnoaaGreatDoorZTreeB
import Derived.Maps.RangeWalk
import Derived.Sort.OwnSortedInts
set_option maxHeartbeats 8000000
set_option maxRecDepth 100000
namespace Go.Proofs.YtbhiamcmiopnoaaGreatDoor
section
open Go.Shelf
def Om:Go.Shelf.Ren:=⟨fun | 189=>91 | 125=>141 | 257=>140 | 128=>170 | 129=>171 | 294=>161 | 295=>162 | 296=>163 | 297=>164 | 298=>165 | 299=>166 | 216=>167 | 300=>168 | 301=>169 | 328=>187 | 329=>188 | 330=>189 | 331=>190 | 332=>191 | 215=>192 | 343=>210 | n=>n,fun | 28=>57 | 3=>3 | 46=>199 | 0=>0 | 51=>240 | 53=>44 | 4=>4 | 183=>233 | 182=>232 | 131=>147 | 5=>5 | 9=>9 | 218=>262 | 222=>266 | 228=>281 | 229=>282 | n=>n,fun | n=>n⟩
theorem Ez:Go.Proofs.Lays.n189 Tryz.prog Om:={
 mixed:=by kernel_rfl
 f125:=Tryz.func141.trans (congrArg some (by kernel_rfl))
 f128:=Tryz.func170.trans (congrArg some (by kernel_rfl))
 f129:=Tryz.func171.trans (congrArg some (by kernel_rfl))
 f189:=Tryz.func91.trans (congrArg some (by kernel_rfl))
 f215:=Tryz.func192.trans (congrArg some (by kernel_rfl))
 f216:=Tryz.func167.trans (congrArg some (by kernel_rfl))
 f257:=Tryz.func140.trans (congrArg some (by kernel_rfl))
 f294:=Tryz.func161.trans (congrArg some (by kernel_rfl))
 f295:=Tryz.func162.trans (congrArg some (by kernel_rfl))
 f296:=Tryz.func163.trans (congrArg some (by kernel_rfl))
 f297:=Tryz.func164.trans (congrArg some (by kernel_rfl))
 f298:=Tryz.func165.trans (congrArg some (by kernel_rfl))
 f299:=Tryz.func166.trans (congrArg some (by kernel_rfl))
 f300:=Tryz.func168.trans (congrArg some (by kernel_rfl))
 f301:=Tryz.func169.trans (congrArg some (by kernel_rfl))
 f328:=Tryz.func187.trans (congrArg some (by kernel_rfl))
 f329:=Tryz.func188.trans (congrArg some (by kernel_rfl))
 f330:=Tryz.func189.trans (congrArg some (by kernel_rfl))
 f331:=Tryz.func190.trans (congrArg some (by kernel_rfl))
 f332:=Tryz.func191.trans (congrArg some (by kernel_rfl))
 f343:=Tryz.func210.trans (congrArg some (by kernel_rfl))
 t0:=Tryz.underlying0
 a0:=Tryz.isAgg0
 z0:=Tryz.sizeOf0
 v0:=Tryz.zeroValue0
 t3:=Tryz.underlying3
 a3:=Tryz.isAgg3
 z3:=Tryz.sizeOf3
 v3:=Tryz.zeroValue3
 t4:=Tryz.underlying4
 a4:=Tryz.isAgg4
 z4:=Tryz.sizeOf4
 v4:=Tryz.zeroValue4
 t5:=Tryz.underlying5
 a5:=Tryz.isAgg5
 z5:=Tryz.sizeOf5
 v5:=Tryz.zeroValue5
 t9:=Tryz.underlying9
 a9:=Tryz.isAgg9
 z9:=Tryz.sizeOf9
 v9:=Tryz.zeroValue9
 t28:=Tryz.underlying57
 a28:=Tryz.isAgg57
 z28:=Tryz.sizeOf57
 v28:=Tryz.zeroValue57
 t46:=Tryz.underlying199
 a46:=Tryz.isAgg199
 z46:=Tryz.sizeOf199
 v46:=Tryz.zeroValue199
 t51:=Tryz.underlying240
 a51:=Tryz.isAgg240
 z51:=Tryz.sizeOf240
 v51:=Tryz.zeroValue240
 t53:=Tryz.underlying44
 a53:=Tryz.isAgg44
 z53:=Tryz.sizeOf44
 v53:=Tryz.zeroValue44
 t131:=Tryz.underlying147
 a131:=Tryz.isAgg147
 z131:=Tryz.sizeOf147
 v131:=Tryz.zeroValue147
 t182:=Tryz.underlying232
 a182:=Tryz.isAgg232
 z182:=Tryz.sizeOf232
 v182:=Tryz.zeroValue232
 t183:=Tryz.underlying233
 a183:=Tryz.isAgg233
 z183:=Tryz.sizeOf233
 v183:=Tryz.zeroValue233
 t218:=Tryz.underlying262
 a218:=Tryz.isAgg262
 z218:=Tryz.sizeOf262
 v218:=Tryz.zeroValue262
 t222:=Tryz.underlying266
 a222:=Tryz.isAgg266
 z222:=Tryz.sizeOf266
 v222:=Tryz.zeroValue266
 t228:=Tryz.underlying281
 a228:=Tryz.isAgg281
 z228:=Tryz.sizeOf281
 v228:=Tryz.zeroValue281
 t229:=Tryz.underlying282
 a229:=Tryz.isAgg282
 z229:=Tryz.sizeOf282
 v229:=Tryz.zeroValue282 }
open Go.Sort Go.RowKit in
theorem ru (blk off cap:Nat) (zs:List Int) (w:World) (hH:Holds (Value.int .i64) w blk off zs.toArray) (hblk:blk<w.heap.size) (hsz:zs.length<4611686018427387904) :
 Calls Tryz.prog 91 #[.slice (some ⟨blk,off,none⟩) zs.length cap] w fun e w'=>
  e=.returned (.tuple #[])∧∃n os,w'=grow (putRow (Value.int .i64) (Sort.ahead w n) blk off (zs.mergeSort fun x y=>decide (x≤y)).toArray) os:=Any.slices_Sort_int Ez blk off cap zs w hH hblk hsz
end
section
open Go.RowKit
structure rC (w:World) (b sb:Nat) (S:aW) (A:List Int):Prop where
 pages:aA w b S
 set:jJ w sb A
 ps:¬bn w b sb
def zO (sb k:Nat):Prop:=k=sb
theorem fT {w w':World} {b:Nat} {S:aW} {T:Nat→Prop} (h:aA w b S) (ho:Only T w w') (hT:∀k,bn w b k→¬T k):aA w' b S:=by
 obtain⟨vL,vG,h⟩:=h
 exact⟨vL,vG,h.beside ho hT⟩
section
variable {w w' : World} {b sb : Nat} {S S' : aW} {A : List Int}
theorem rC.beside {T:Nat→Prop} (h:rC w b sb S A) (ho:Only T w w') (hT:¬T sb) (hp:aA w' b S') (hown:∀k,bn w' b k→bn w b k∨w.heap.size≤k):rC w' b sb S' A:=
 ⟨hp,h.set.only ho hT,fun q=>(hown sb q).elim h.ps fun q=>by have:=h.set.lt;omega⟩
theorem rC.step (h:rC w b sb S A) (hp:aA w' b S') (st:aB b w w'):rC w' b sb S' A:=h.beside st.only h.ps hp st.own
theorem rC.still (h:rC w b sb S A) (ho:Only (fun _=>False) w w'):rC w' b sb S A:=h.beside ho id (h.pages.still ho) (aB.still h.pages.lt ho).own
theorem rC.see (h:rC w b sb S A) {i:Int} (hs:jJ w' sb (i :: A)) (ho:Only (fun k=>k=sb) w w'):rC w' b sb S (i :: A)∧fD b (zO sb) (zO sb) w w':=by
 have hb:b≠sb:=fun e=>h.ps (.inl e.symm)
 have hw:=ho.block b h.pages.lt hb
 refine⟨⟨fT h.pages ho fun k q e=>h.ps (e▸q),hs,fun q=>h.ps ((aD hw sb).1 q)⟩,⟨ho.mono fun k _ e=>.inl e,fun _ q=>.inl q,fun k q=>.inl ((aD hw k).1 q)⟩⟩
end
def zn (w:World) (b sb:Nat) (S:aW) (A ids:List Int):Ending→World→Prop:=fun e w'=>∃A',e=.returned (.int .i64 0)∧rC w' b sb S A'∧fD b (zO sb) (zO sb) w w'∧A'.Perm (ids++A)
def Ho (n:Nat):Prop:=∀(S:aW) (id:Int) (b0:Bytes) (l:List Item) (ids:List Int) (depth:Int) (A:List Int) (w:World) (b sb:Nat),Tree S.L n id b0 l ids→1≤depth→depth+n≤12→S.stop<0→
 (∀j∈ids,j∉A)→A.length+ids.length≤1000000→rC w b sb S A→
 Calls Tryz.prog 158 #[aF b,.int .i64 id,.int .i64 depth,.map (some sb)] w (zn w b sb S A ids)
theorem Jt:Ho 0:=by
 intro S pg b0 l ids depth A w b sb T hd Vw hs hA hAn G
 cases T with
 | leaf _ _ hnd ne ok=>
  have hid:=cB hnd
  have gy:S.L.length≤3998:=by
   obtain⟨vL,vG,hI⟩:=G.pages
   exact hI.few
  have hwf:(Lit.int .i64 pg).wf=true:=WalkArith.wf_i64 (by omega)
  have Ta:=G.set.Cr pg hwf (hA pg (by simp))
  have mh:=Lib.hid (lK w b S pg depth l G.pages hs hnd (by omega) (by omega))
  have HG:=Lib.hid G
  clear G hnd hA
  unfold aF at mh ⊢
  go_enter Tryz.func158,Tryz.ntmps158
  go_wp2_with fail
  refine mh.out.mono ?_
  rintro e w1 ⟨v1,rfl,hrow,hap,hp1,st1⟩
  obtain⟨a1,n1,c1,rfl⟩:=bK hrow.cap
  have Cx:=Lib.hid (HG.out.step hp1 st1)
  have kV:=Lib.hid (fD.TS (F:=zO sb) st1)
  have o2:=(Only.refl (fun _=>False) w1).alloc (.cells #[.int .i64 pg,.bool true,.slice a1 n1 c1,.slice none 0 0] 207)
  have hN:=heap_alloc_new w1 (.cells #[.int .i64 pg,.bool true,.slice a1 n1 c1,.slice none 0 0] 207)
  have hG2:=Cx.out.still o2
  obtain⟨w2,hrun,hset,ho2⟩:=hG2.set.put pg hwf (by unfold maxLen;simp only [List.length_singleton] at hAn;omega)
  obtain⟨hG3,Jq⟩:=hG2.see hset ho2
  have hsb:=Cx.out.set.lt
  have rU:=(ho2.block w1.heap.size (by simp) (by omega)).trans hN
  have n3:=ay rU 3
  simp only [List.getElem?_toArray,List.getElem?_cons_zero,List.getElem?_cons_succ] at n3
  have HF:Hid (zn w b sb S A [pg] (.returned (.int .i64 0)) w2):=Lib.hid ⟨pg :: A,rfl,hG3,(kV.out.trans (fD.still Cx.out.pages.lt o2)).trans Jq,List.Perm.refl _⟩
  clear hrow hap hp1 st1 mh o2 hN hG2 hset ho2 hG3 Jq rU hsb
  go_wp2_with fail
  go_loopg [32] 0 (fun _ iv wr=>iv=.int .i64 0∧w2=wr)
  case atStart=>exact⟨rfl,rfl⟩
  case round=>
   obtain⟨rfl,rfl⟩:=hrel
   go_wp2_with fail
   go_ret
   exact HF.out
structure Seen (w wr:World) (b sb:Nat) (S:aW) (A:List Int) (pg:Int) (ts:List au) (g off nK c1 i:Nat) (Aj:List Int):Prop where
 sees:rC wr b sb S Aj
 step:fD b (zO sb) (zO sb) w wr
 row:gN aR 2 wr (.slice (some ⟨g,off,none⟩) nK c1) (ts.map au.kid)
 far:g≠sb
 apart:¬bn wr b g
 lt:g<wr.heap.size
 perm:Aj.Perm ((ts.take i).flatMap au.ids++pg :: A)
theorem Seen.still {w wr w':World} {b sb:Nat} {S:aW} {A:List Int} {pg:Int} {ts:List au} {g off nK c1 i:Nat} {Aj:List Int} (h:Seen w wr b sb S A pg ts g off nK c1 i Aj) (ho:Only (fun _=>False) wr w'):Seen w w' b sb S A pg ts g off nK c1 i Aj:=
 ⟨h.sees.still ho,h.step.trans (fD.still h.sees.pages.lt ho),h.row.only ho (fun _ _=>id),h.far,fun q=>h.apart ((aD (ho.block b h.sees.pages.lt id) _).1 q),by have:=ho.size;have:=h.lt;omega,h.perm⟩
theorem Seen.next {w wr w':World} {b sb:Nat} {S:aW} {A A':List Int} {pg:Int} {ts:List au} {t:au} {g off nK c1 i:Nat} {Aj:List Int} (h:Seen w wr b sb S A pg ts g off nK c1 i Aj) (ht:ts[i]? = some t) (G:rC w' b sb S A') (C:fD b (zO sb) (zO sb) wr w') (hp:A'.Perm (t.ids++Aj)):Seen w w' b sb S A pg ts g off nK c1 (i+1) A':=by
 refine⟨G,h.step.trans C,h.row.only C.only (fun k hk q=>?_),h.far,fun q=>(C.own g q).elim h.apart (by have:=h.lt;omega),by have:=C.only.size;have:=h.lt;omega,?_⟩
 ·cases hk
  exact q.elim h.far h.apart
 ·rw [nP ht]
  refine hp.trans ((h.perm.append_left t.ids).trans ?_)
  rw [←List.append_assoc]
  exact List.perm_append_comm.append_right _
theorem Ju (n:Nat) (IH:Ho n):Ho (n+1):=by
 intro S pg b0 l ids depth A w b sb T hd Vw hs hA hAn G
 cases T with
 | cZ _ _ ts hnd two ok sub bd nd=>
  have hid:=cB hnd
  have gy:S.L.length≤3998:=by
   obtain⟨vL,vG,hI⟩:=G.pages
   exact hI.few
  have hne:ts≠[]:=by intro q;subst q;simp at two
  have Il:ts.map au.kid≠[]:=by simpa using hne
  have hwf:(Lit.int .i64 pg).wf=true:=WalkArith.wf_i64 (by omega)
  have Ta:=G.set.Cr pg hwf (hA pg (by simp))
  have mh:=Lib.hid (rz w b S pg depth (ts.map au.kid) G.pages hs hnd (by omega) (by omega))
  have HG:=Lib.hid G
  have hlen:(ts.map au.kid).length≤255:=ok.2.2
  have HT:=Lib.hid (And.intro sub (And.intro nd (And.intro hA hAn)))
  have htl:ts.length=(ts.map au.kid).length:=by simp
  clear G hnd hA sub nd bd hAn
  unfold aF at mh ⊢
  go_enter Tryz.func158,Tryz.ntmps158
  go_wp2_with fail
  refine mh.out.mono ?_
  rintro e w1 ⟨v1,rfl,hrow,hap,hp1,st1,hnew⟩
  obtain⟨a1,n1,c1,rfl⟩:=bK hrow.cap
  obtain⟨rfl,hsh⟩:=sj hrow.row
  obtain⟨g,off,rfl⟩:=hsh Il
  clear hsh
  have hcap:=hrow.cap
  have hg0:=hnew g rfl
  have hg1:=hap g rfl
  have Cx:=Lib.hid (HG.out.step hp1 st1)
  have kV:=Lib.hid (fD.TS (F:=zO sb) st1)
  have o2:=(Only.refl (fun _=>False) w1).alloc (.cells #[.int .i64 pg,.bool false,.slice none 0 0,.slice (some ⟨g,off,none⟩) (ts.map au.kid).length c1] 207)
  have hN:=heap_alloc_new w1 (.cells #[.int .i64 pg,.bool false,.slice none 0 0,.slice (some ⟨g,off,none⟩) (ts.map au.kid).length c1] 207)
  have hG2:=Cx.out.still o2
  obtain⟨w2,hrun,hset,ho2⟩:=hG2.set.put pg hwf (by have:=HT.out.2.2.2;unfold maxLen;simp only [List.length_cons] at this;omega)
  obtain⟨hG3,Jq⟩:=hG2.see hset ho2
  have hsb:=HG.out.set.lt
  have hwl:=st1.only.size
  have rU:=(ho2.block w1.heap.size (by simp) (by omega)).trans hN
  have n3:=ay rU 3
  simp only [List.getElem?_toArray,List.getElem?_cons_zero,List.getElem?_cons_succ] at n3
  have hrow2:gN aR 2 w2 (.slice (some ⟨g,off,none⟩) (ts.map au.kid).length c1) (ts.map au.kid):=(hrow.only o2 (fun _ _=>id)).only ho2 (fun k hk e=>by have hk2:g=k:=Option.some.inj hk;have e2:k=sb:=e;omega)
  have hH:Seen w w2 b sb S A pg ts g off (ts.map au.kid).length c1 0 (pg :: A):=by
   refine⟨hG3,(kV.out.trans (fD.still Cx.out.pages.lt o2)).trans Jq,hrow2,by omega,fun q=>?_,?_,List.Perm.refl _⟩
   ·rcases Jq.own g q with q | q
    ·exact hg1.1 ((aD (o2.block b Cx.out.pages.lt id) _).1 q)
    ·rw [World.size_alloc] at q;omega
   ·have:=ho2.size;rw [World.size_alloc] at this;omega
  have HH:=Lib.hid hH
  clear hrow hap hp1 st1 mh o2 hN hG2 hset ho2 hG3 Jq hrow2 rU Cx kV hH hg0 hg1 hnew hsb hwl HG hcap
  generalize zu:(ts.map au.kid).length=nV at *
  clear zu
  go_wp2_with fail
  go_loopg [32] nV (fun gh iv wr=>∃(j:Nat) (Aj:List Int),gh+j=nV∧iv=.int .i64 j∧Seen w wr b sb S A pg ts g off nV c1 j Aj)
  case atStart=>exact⟨0,pg :: A,by omega,rfl,HH.out⟩
  case round=>
   obtain⟨j,Aj,hgj,rfl,hh⟩:=hrel
   have Tc:=Lib.hid hh
   clear HH
   by_cases hj:j<nV
   ·have hj1:(j:Int)<(nV:Int):=by omega
    have hj0:(0:Int)≤(j:Int):=by omega
    obtain⟨t,ht⟩:∃t,ts[j]? = some t:=⟨_,List.getElem?_eq_getElem (by omega)⟩
    obtain⟨g',off',he,k1,k2⟩:=fE hh.row.row (k:=j) (x:=t.kid) (by rw [List.getElem?_map,ht];rfl)
    cases he
    have oK:=(Only.refl (fun _=>False) wr).alloc (.cells #[str t.kid.key,.int .i64 t.kid.page] 185)
    have Hl:=hh.still oK
    have hw1:IntKind.i64.wrap (depth+1)=depth+1:=by exact IntWalk.i64_in _ (by omega)
    have hw2:IntKind.i64.wrap ((j:Int)+1)=(j:Int)+1:=by exact IntWalk.i64_in _ (by omega)
    have TT:=Lib.hid Hl
    have Vy:=Lib.hid ht
    obtain⟨sub,nd,hA,hAn⟩:=HT.out
    have hap:=rY ht nd
    have hir:=D6 ht
    have hpl:=Hl.perm.length_eq
    rw [List.length_append,List.length_cons] at hpl
    rw [List.length_cons] at hAn
    have HI:=Lib.hid (IH S t.kid.page t.low t.items t.ids (depth+1) Aj _ b sb (sub t (List.mem_of_getElem? ht)) (by omega) (by omega) hs (fun y hy q=>by
     rcases List.mem_append.1 (Hl.perm.mem_iff.1 q) with q | q
     ·exact(hap y hy).2.1 q
     ·rcases List.mem_cons.1 q with q | q
      ·exact(hap y hy).1 q
      ·exact hA y (List.mem_cons_of_mem _ (hap y hy).2.2) q) (by omega) Hl.sees)
    clear hh Hl oK ht sub nd hA hAn hap hir hpl
    unfold aF zn at HI
    go_wp2_with fail
    refine HI.out.mono ?_
    rintro e w5 ⟨A',rfl,G5,C5,p5⟩
    have Vz:=Lib.hid (TT.out.next Vy.out G5 C5 p5)
    clear G5 C5 p5 HI
    go_wp2_with fail
    go_roundg (gk-1)
    case measure=>omega
    case rel=>exact⟨j+1,A',by omega,by go_num,Vz.out⟩
   ·obtain rfl:j=nV:=by omega
    have hj1:¬(j:Int)<(j:Int):=by omega
    have SX:Hid (ts.take j=ts):=Lib.hid (List.take_of_length_le (by omega))
    have HF:Hid (zn w b sb S A (pg :: ts.flatMap au.ids) (.returned (.int .i64 0)) wr):=Lib.hid ⟨Aj,rfl,Tc.out.sees,Tc.out.step,by
     have h5:=Tc.out.perm
     rw [SX.out] at h5
     exact h5.trans List.perm_middle⟩
    clear hh
    go_wp2_with fail
    go_ret
    exact HF.out
theorem Oo (n:Nat):Ho n:=by
 induction n with
 | zero=>exact Jt
 | succ n ih=>exact Ju n ih
end
section
open Go.RowKit Go.Maps
def sM (D0:DataW Unit) (left:Lit→Bool) (ss:List Int):Prop:=ss.Nodup∧∀x,x∈ss↔(has D0 (.int .i64 x)=true∧left (.int .i64 x)=false)
theorem sM.start (D0:DataW Unit):sM D0 (has D0) []:=⟨List.nodup_nil,fun x=>by cases has D0 (.int .i64 x)<;>simp⟩
theorem sM.step {D0 y:DataW Unit} {left:Lit→Bool} {ss:List Int} (h:sM D0 left ss) {x:Int} (hlk:left (.int .i64 x)=true) (hat:∀zd,D0.atKey (.int .i64 x) zd=y):sM D0 (fun z=>left z && !z.sameKey (.int .i64 x)) (ss++[x]):=by
 have hhas:has D0 (.int .i64 x)=true:=has_true_of_atKey hat
 have hnew:x∉ss:=fun hx=>by have:=((h.2 x).1 hx).2;rw [hlk] at this;cases this
 refine⟨List.nodup_append.2 ⟨h.1,by simp,fun a ha b hb=>by simp at hb;subst hb;exact fun e=>hnew (e▸ha)⟩,fun y=>?_⟩
 by_cases hy:y=x
 ·subst hy;simp [hhas,Lit.sameKey]
 ·simp [h.2 y,hy,Lit.sameKey]
theorem Oq {D:DataW Unit} {A:List Int} (hA:∀(x:Int) (zd:DataW Unit),D.atKey (.int .i64 x) zd=if x∈A then .lit (.bool true) else zd) (x:Int):has D (.int .i64 x)=true↔x∈A:=by
 by_cases hx:x∈A
 ·exact⟨fun _=>hx,fun _=>has_true_of_atKey (y:=.lit (.bool true)) fun z=>by rw [hA,if_pos hx]⟩
 ·refine⟨fun q=>?_,fun q=>absurd q hx⟩
  rw [has_false_of_atKey fun z=>by rw [hA,if_neg hx]] at q
  cases q
theorem sM.perm {D0:DataW Unit} {left:Lit→Bool} {ss A:List Int} (h:sM D0 left ss) (hA:∀(x:Int) (zd:DataW Unit),D0.atKey (.int .i64 x) zd=if x∈A then .lit (.bool true) else zd) (hl:∀kl,left kl=false) (nd:A.Nodup):ss.Perm A:=
 (List.perm_ext_iff_of_nodup h.1 nd).2 fun x=>by rw [h.2 x,hl,Oq hA];simp
def dM (l:List Int):List Int:=l.mergeSort fun x y=>decide (x≤y)
theorem pJ {a b:List Int} (h:a.Perm b):dM a=dM b:=by
 have tr:∀a b c:Int,decide (a≤b)=true→decide (b≤c)=true→decide (a≤c)=true:=fun a b c h1 h2=>by simp only [decide_eq_true_eq] at *;omega
 have to:∀a b:Int,(decide (a≤b) || decide (b≤a))=true:=fun a b=>by simp only [Bool.or_eq_true,decide_eq_true_eq];omega
 refine List.Perm.eq_of_pairwise (le:=fun a b=>decide (a≤b)=true) (fun a b _ _ h1 h2=>?_) (List.pairwise_mergeSort tr to a) (List.pairwise_mergeSort tr to b) (((List.mergeSort_perm a _).trans h).trans (List.mergeSort_perm b _).symm)
 simp only [decide_eq_true_eq] at h1 h2
 omega
theorem rD {P:Program} {e:TypeId} (he:P.underlying e=some .bool) (v:Value) (y:DataW Unit×List MemPlace) (h:plainElem P e v=some y):∃c:Nat,v=.bool (decide (c=0)):=by
 obtain⟨x,hx,_⟩:=rA he h
 cases x with
 | true=>exact⟨0,hx⟩
 | false=>exact⟨1,hx⟩
def Hf (w:World) (b:Nat) (S:aW) (ids:List Int):Ending→World→Prop:=fun e w'=>∃v,e=.returned (.tuple #[v,.int .i64 0])∧gN qN 1 w' v (dM ids)∧Apart w' b v∧aA w' b S∧aB b w w'∧∀j,bI v=some j→w.heap.size≤j
def vY (w:World) (b:Nat) (S:aW) (ids:List Int):Ending→World→Prop:=fun e w'=>Hf w b S ids e w'∧∃v x,e=.returned (.tuple #[v,x])∧w'.ownsRow 0 3 1 v (dM ids).length (eT (dM ids))
structure Coll (w wr:World) (b sb r:Nat) (S:aW) (A:List Int) (D0:DataW Unit) (left:Lit→Bool) (cnt:Nat) (v:Value) (ss:List Int):Prop where
 pages:aA wr b S
 step:aB b w wr
 rng:wr.ranges Tryz.prog 3 (plainElem Tryz.prog 4) sb r A.length D0 left cnt
 col:sM D0 left ss
 row:wr.ownsRow 0 3 1 v ss.length (eT ss)
 new:∀j,v.ownBlock=some j→w.heap.size≤j∧j≠sb∧j≠r
 far:∀j,v.ownBlock=some j→¬bn wr b j
 Qw:w.heap.size≤sb∧w.heap.size≤r∧¬bn wr b sb∧¬bn wr b r
 many:ss.length+cnt≤A.length
theorem jH {b:Nat} {w w1 w2:World} {T:Nat→Prop} (s:aB b w w1) (hb:w2.heap[b]? = w1.heap[b]?) (ho:Only T w1 w2) (hT:∀k,T k→w.heap.size≤k):aB b w w2:=
 ⟨s.only.trans ho fun i hi q=>by have:=hT i q;omega,fun k q=>s.own k ((aD hb k).1 q)⟩
section
variable {w wr w' : World} {b sb r : Nat} {S : aW} {A : List Int} {D0 : DataW Unit} {left left' : Lit → Bool} {cnt cnt' : Nat} {v v' : Value} {ss : List Int}
theorem Coll.turn (h:Coll w wr b sb r S A D0 left cnt v ss) (hg:wr.grownBy w' (some r)):aA w' b S∧aB b w w'∧w'.ownsRow 0 3 1 v ss.length (eT ss)∧(∀j,v.ownBlock=some j→¬bn w' b j)∧¬bn w' b sb∧¬bn w' b r:=by
 have ho:Only (fun k=>k=r) wr w':=(Only.refl (fun k=>k=r) wr).grown hg fun k _ e=>(Option.some.inj e).symm
 have hb:=ho.block b h.pages.lt fun e=>h.Qw.2.2.2 (.inl e.symm)
 have hp:=fun k=>aD hb k
 have hsz:=h.step.only.size
 refine⟨fT h.pages ho fun k q e=>h.Qw.2.2.2 (e▸q),jH h.step hb ho fun k e=>by have e2:k=r:=e;have:=h.Qw.2.1;omega,aP h.row ho fun k hk e=>(h.new k hk).2.2 e,fun j hj q=>h.far j hj ((hp j).1 q),fun q=>h.Qw.2.2.1 ((hp sb).1 q),fun q=>h.Qw.2.2.2 ((hp r).1 q)⟩
theorem Coll.next {w7 wx:World} {x:Int} {y:DataW Unit} {o:Obj} (h:Coll w wr b sb r S A D0 left cnt v ss) (hg:wr.grownBy w7 (some r)) (hrg:w7.ranges Tryz.prog 3 (plainElem Tryz.prog 4) sb r A.length D0 (fun z=>left z && !z.sameKey (.int .i64 x)) cnt') (hlt:cnt'<cnt) (hlk:left (.int .i64 x)=true) (hat:∀zd,D0.atKey (.int .i64 x) zd=y)
 (own:wx.ownsRow 0 3 1 v' (ss.length+1) (eT ss++[.int .i64 x])) (gr:(w7.alloc o).grownBy wx v.ownBlock) (mv:Moved (w7.alloc o) v v') :
 Coll w wx b sb r S A D0 (fun z=>left z && !z.sameKey (.int .i64 x)) cnt' v' (ss++[x]):=by
 obtain⟨p7,s7,_,f7,n1,n2⟩:=h.turn hg
 have ho:Only (fun k=>v.ownBlock=some k) w7 wx:=((Only.refl (fun k=>v.ownBlock=some k) w7).alloc o).grown gr fun k _ e=>e
 have hb:=ho.block b p7.lt fun e=>f7 b e (.inl rfl)
 have hp:=fun k=>aD hb k
 have l1:=hrg.owns.lt
 have l2:=hrg.lt
 have l3:=s7.only.size
 have hsz:(w7.alloc o).heap.size=w7.heap.size+1:=by simp
 refine⟨fT p7 ho fun k q e=>f7 k e q,jH s7 hb ho fun k e=>(h.new k e).1,(hrg.alloc o).kept gr (fun e=>(h.new sb e.symm).2.1 rfl) (fun e=>(h.new r e.symm).2.2 rfl),h.col.step hlk hat,?_,fun j hj=>?_,fun j hj q=>?_,⟨h.Qw.1,h.Qw.2.1,fun q=>n1 ((hp sb).1 q),fun q=>n2 ((hp r).1 q)⟩,?_⟩
 ·rw [List.length_append]
  simpa [eT] using own
 ·rcases mv j hj with e | e
  ·exact h.new j e
  ·omega
 ·have q1:=(hp j).1 q
  rcases mv j hj with e | e
  ·exact f7 j e q1
  ·have:=bM p7 q1;omega
 ·have:=h.many
  rw [List.length_append,List.length_singleton]
  omega
end
theorem q9 (p:Option Addr) (cap:Nat) (w:World):Calls Tryz.prog 91 #[.slice p 0 cap] w fun e w'=>e=.returned (.tuple #[])∧w'=w:=Any.slices_Sort_int_none Ez p cap w
theorem Mf (w:World) (b:Nat) (S:aW) (root:Int) (l:List Item) (ids:List Int) (h:aA w b S) (R:bq S.L root l ids) (hs:S.stop<0) (hl:l.length<2 ^ 11) :
 Calls Tryz.prog 137 #[aF b,.int .i64 root] w (vY w b S ids):=by
 obtain⟨i0,hi,hz0,hz1,hz2⟩:=info_parts nN
 have hnil:=ng b
 have KR:=R.many
 have o1:=(Only.refl (fun _=>False) w).alloc (.map #[] 0)
 have hset:=jJ.made w
 have hpw:=h.lt
 have hfresh:¬bn (w.alloc (.map #[] 0)) b w.heap.size:=fun q=>by
  have:=bM h ((aD (o1.block b hpw id) _).1 q)
  omega
 have G:rC (w.alloc (.map #[] 0)) b w.heap.size S []:=⟨h.still o1,hset,hfresh⟩
 have jY:=Lib.hid (aB.still hpw o1)
 have hrun:=fun (W:World)=>run_makeMap (P:=Tryz.prog) 220 W
 cases R with
 | none=>
  have HS:=Lib.hid G
  have JB:=jY
  have hnd:([]:List Int).Nodup:=List.nodup_nil
  have AQ:([]:List Int).Perm []:=List.Perm.refl _
  have hsb:w.heap.size≤w.heap.size∧w.heap.size<(w.alloc (.map #[] 0)).heap.size:=⟨Nat.le_refl _,by simp⟩
  clear G o1 hset hfresh h
  unfold aF at hnil ⊢
  go_enter Tryz.func137,Tryz.ntmps137
  obtain⟨D,hown,hA⟩:=HS.out.set
  have VA:=Lib.hid hA
  have HOW:=Lib.hid hown
  have Qx:=hown.size_le
  clear hown hA
  go_wp2_with (at_range;refine wpList_range_own _ rfl _ 220 rfl 3 4 pI Tryz.underlying220 (plainElem Tryz.prog 4) w.heap.size ([]:List Int).length D rfl HOW.out ?_;intro w6 Mq Td hs6;have Ot:=Lib.hid (And.intro Mq (And.intro Td hs6));clear Mq Td hs6)
  go_frame
  obtain⟨r,hr⟩:∃r,(w.alloc (.map #[] 0)).heap.size=r:=⟨_,rfl⟩
  rw [hr] at Ot ⊢
  have o6:Only (fun _=>False) (w.alloc (.map #[] 0)) w6:=(Only.refl (fun _=>False) (w.alloc (.map #[] 0))).grown Ot.out.2.1 fun k _ h=>by cases h
  have C0:Coll w w6 b w.heap.size r S ([]:List Int) D (has D) (size D) (.slice none 0 0) []:=
   ⟨HS.out.pages.still o6,JB.out.trans (aB.still HS.out.pages.lt o6),Ot.out.1,sM.start D,⟨rfl,.inl ⟨rfl,rfl⟩⟩,(fun j hj=>by cases hj),(fun j hj=>by cases hj),
    ⟨hsb.1,by have h9:=JB.out.only.size;rw [hr] at h9;exact h9,fun q=>HS.out.ps ((aD (o6.block b HS.out.pages.lt id) w.heap.size).1 q),fun q=>by have h9:=bM HS.out.pages ((aD (o6.block b HS.out.pages.lt id) r).1 q);rw [hr] at h9;exact Nat.lt_irrefl _ h9⟩,by have h9:=Qx;simp only [List.length_nil] at h9 ⊢;omega⟩
  have Te:=Lib.hid C0
  clear C0 o6 Ot HS JB hr HOW
  go_loopg [8] (size D) (fun gh ov wr=>∃(left:Lit→Bool) (ss:List Int),Coll w wr b w.heap.size r S ([]:List Int) D left gh ov ss)
  case atStart=>exact⟨has D,[],Te.out⟩
  case round=>
   obtain⟨left,ss,hc⟩:=hrel
   obtain⟨aO,cO,rfl⟩:=ownsRow_form hc.row
   have HC:=Lib.hid hc
   have lJ:=hc.many
   clear hc Te
   go_wp2_with (at_next;refine wpList_next_ranges _ rfl _ rfl 3 pI (plainElem Tryz.prog 4) (Value.int .i64) (fun n:Nat=>Value.bool (decide (n=0))) (fun key kl hk=>by obtain⟨x,hx,_⟩:=Maps.keyOf_int_inv Tryz.underlying3 hk;exact⟨x,hx⟩) (rD Tryz.underlying4) w.heap.size r ([]:List Int).length D left gk rfl HC.out.rng ?_ ?_)
   ·intro _ hl0
    have xu:=(HC.out.col.perm VA.out hl0 hnd).trans AQ
    have hlen:=xu.length_eq
    rcases HC.out.row.2 with ⟨hnil,h0⟩ |⟨g,cap,cur,hv,hbase,hb,h1,h2,h3,h4⟩
    ·have hss:ss=[]:=List.eq_nil_of_length_eq_zero h0
     subst hss
     have gP:([]:List Int)=[]:=rfl
     cases hnil
     have HF:Hid (vY w b S ([]:List Int) (.returned (.tuple #[.slice none 0 0,.int .i64 0])) wr):=Lib.hid ⟨⟨_,rfl,by rw [gP,show dM []=[] by simp [dM]];exact⟨.none,Nat.le_refl _,Nat.zero_le _⟩,(fun j hj=>by cases hj),HC.out.pages,HC.out.step,fun j hj=>by cases hj⟩,_,_,rfl,by rw [gP,show dM []=[] by simp [dM]];exact⟨rfl,.inl ⟨rfl,rfl⟩⟩⟩
     have zF:=Lib.hid (q9 none 0 wr)
     clear hl0 xu hlen
     simp only [List.length_nil]
     go_wp2_with fail
     (with_reducible refine zF.out.mono ?_)
     rintro e w' ⟨rfl,rfl⟩
     go_wp2_with fail
     go_ret2
     exact HF.out
    ·cases hv
     have hH:Sort.Holds (Value.int .i64) wr g 0 ss.toArray:=holds_of_blockI hb (by simpa [eT] using h4)
     have hgl:g<wr.heap.size:=(Array.getElem?_eq_some_iff.1 hb).1
     have zF:=Lib.hid (ru g 0 cO ss wr hH hgl (by omega))
     have hsl:(dM ss).length=ss.length:=by unfold dM;exact List.length_mergeSort _
     have Jy:Hid (∀n os,vY w b S ([]:List Int) (.returned (.tuple #[.slice (some ⟨g,0,none⟩) ss.length cO,.int .i64 0])) (Sort.grow (Sort.putRow (Value.int .i64) (Sort.ahead wr n) g 0 (dM ss).toArray) os)):=Lib.hid (fun n os=>by
      have own:=ownsRow_sortedI (n:=n) (os:=os) hsl hbase hb h1 h2 h3
      have hx:Only (fun k=>k=g) wr (Sort.grow (Sort.putRow (Value.int .i64) (Sort.ahead wr n) g 0 (dM ss).toArray) os):=(Only.refl (fun k=>k=g) wr).grown (grownBy_sortedI _) fun k _ e=>(Option.some.inj e).symm
      have hbb:=hx.block b HC.out.pages.lt fun e=>HC.out.far g rfl (.inl e.symm)
      refine⟨⟨_,rfl,?_,fun j hj=>?_,fT HC.out.pages hx fun k q e=>HC.out.far g rfl (e▸q),jH HC.out.step hbb hx fun k e=>by have e2:k=g:=e;rw [e2];exact(HC.out.new g rfl).1,fun j hj=>?_⟩,_,_,rfl,by rw [←pJ xu,hsl];exact own⟩
      ·exact⟨by rw [←pJ xu];exact bS (enc:=qN) (k:=1) (fun _=>rfl) (by rw [hsl,←iP];exact own),dQ own⟩
      ·cases hj
       exact⟨fun q=>HC.out.far g rfl ((aD hbb g).1 q),Nat.lt_of_lt_of_le hgl hx.size⟩
      ·cases hj
       exact(HC.out.new g rfl).1)
     clear hl0 xu hlen hH hb h1 h2 h3 h4 hsl hbase
     go_wp2_with fail
     (with_reducible refine zF.out.mono ?_)
     rintro e w' ⟨rfl,nn,os,rfl⟩
     have HF:=Lib.hid (Jy.out nn os)
     clear Jy zF
     unfold dM at HF
     generalize Sort.grow (Sort.putRow (Value.int .i64) (Sort.ahead wr nn) g 0 (ss.mergeSort fun x y=>decide (x≤y)).toArray) os=w9 at *
     go_wp2_with fail
     go_ret2
     exact HF.out
   ·intro x c kl yd yp w7 cnt2 hkey hlk hv hat Mr hlt MF hs7 hen
    obtain⟨x',ex,rfl,_⟩:=Maps.keyOf_int_inv Tryz.underlying3 hkey
    cases ex
    have HT:=Lib.hid (And.intro hlk (And.intro hat (And.intro Mr (And.intro hlt (And.intro MF (HC.out.turn MF).2.2.1)))))
    have HOWN:=Lib.hid ((HC.out.turn MF).2.2.1.alloc (.cells #[.int .i64 x] 3))
    have p9:=Lib.hid (bH w7 [.int .i64 x] 3 (0,0))
    have hmax:ss.length+1≤maxLen:=by unfold maxLen;omega
    have hbig:(ss.length+1) * 8≤140737488355328:=by omega
    clear hs7 hlk hat Mr hlt MF hkey hv
    go_wp2_with (at_builtin;refine aM _ rfl _ _ 57 rfl 3 i0 _ 1 8 Tryz.underlying57 hi hz0 hz1 hz2 rfl (by decide) _ _ _ rfl HOWN.out ⟨w7.heap.size,0,none⟩ 1 1 [.int .i64 x] rfl rfl p9.out (by simp [Value.oneCell']) hmax hbig ?_;intro a' c' wx hown2 hgr hmv;have HG:=Lib.hid (HC.out.next HT.out.2.2.2.2.1 HT.out.2.2.1 HT.out.2.2.2.1 HT.out.1 HT.out.2.1 hown2 hgr hmv);clear hown2 hgr hmv)
    all_goals
     go_roundg cnt2
     case measure=>exact HT.out.2.2.2.1
     case rel=>exact⟨_,ss++[x],by first | exact HG.out | simpa using HG.out⟩
 | some n _ bb _ _ T=>
  have lJ:=T.many
  have hn:n<11:=by
   apply Classical.byContradiction
   intro q
   have:=Nat.pow_le_pow_right (n:=2) (by omega) (Nat.le_of_not_lt q)
   omega
  have hself:=T.there _ T.self
  have hr0:¬root=0:=by omega
  have HI:=Lib.hid (Oo n S root bb l ids 1 [] _ b w.heap.size T (by omega) (by omega) hs (fun _ _ q=>by cases q) (by simp only [List.length_nil];omega) G)
  have VB:=T.nodup
  have hsz1:(w.alloc (.map #[] 0)).heap.size=w.heap.size+1:=by simp
  have Ns:=Lib.hid hsz1
  have mX:=Lib.hid o1
  clear G o1 hset hfresh h T hsz1
  unfold aF zn at HI
  unfold aF at hnil ⊢
  go_enter Tryz.func137,Tryz.ntmps137
  go_wp2_with fail
  refine HI.out.mono ?_
  rintro e w5 ⟨A,rfl,G5,C5,p5⟩
  have AQ:A.Perm ids:=by simpa using p5
  have hnd:A.Nodup:=AQ.nodup_iff.2 VB
  have UG:A.length≤1000000:=by have:=AQ.length_eq;omega
  have HS:=Lib.hid G5
  have JB:Hid (aB b w w5):=Lib.hid (fD.toP hpw mX.out C5 fun k e=>Nat.le_of_eq e.symm)
  obtain⟨sb,Tf⟩:∃sb,w.heap.size=sb:=⟨_,rfl⟩
  have hsb:w.heap.size≤sb∧sb<w5.heap.size:=⟨by omega,by have:=C5.only.size;have:=Ns.out;omega⟩
  rw [Tf] at HS ⊢
  clear G5 C5 p5 HI jY mX Tf
  obtain⟨D,hown,hA⟩:=HS.out.set
  have VA:=Lib.hid hA
  have HOW:=Lib.hid hown
  have Qx:=hown.size_le
  clear hown hA
  go_wp2_with (at_range;refine wpList_range_own _ rfl _ 220 rfl 3 4 pI Tryz.underlying220 (plainElem Tryz.prog 4) sb A.length D rfl HOW.out ?_;intro w6 Mq Td hs6;have Ot:=Lib.hid (And.intro Mq (And.intro Td hs6));clear Mq Td hs6)
  go_frame
  obtain⟨r,hr⟩:∃r,w5.heap.size=r:=⟨_,rfl⟩
  rw [hr] at Ot ⊢
  have o6:Only (fun _=>False) w5 w6:=(Only.refl (fun _=>False) w5).grown Ot.out.2.1 fun k _ h=>by cases h
  have C0:Coll w w6 b sb r S A D (has D) (size D) (.slice none 0 0) []:=
   ⟨HS.out.pages.still o6,JB.out.trans (aB.still HS.out.pages.lt o6),Ot.out.1,sM.start D,⟨rfl,.inl ⟨rfl,rfl⟩⟩,(fun j hj=>by cases hj),(fun j hj=>by cases hj),
    ⟨hsb.1,by have h9:=JB.out.only.size;rw [hr] at h9;exact h9,fun q=>HS.out.ps ((aD (o6.block b HS.out.pages.lt id) sb).1 q),fun q=>by have h9:=bM HS.out.pages ((aD (o6.block b HS.out.pages.lt id) r).1 q);rw [hr] at h9;exact Nat.lt_irrefl _ h9⟩,by have h9:=Qx;simp only [List.length_nil] at h9 ⊢;omega⟩
  have Te:=Lib.hid C0
  clear C0 o6 Ot HS JB hr HOW
  go_loopg [8] (size D) (fun gh ov wr=>∃(left:Lit→Bool) (ss:List Int),Coll w wr b sb r S A D left gh ov ss)
  case atStart=>exact⟨has D,[],Te.out⟩
  case round=>
   obtain⟨left,ss,hc⟩:=hrel
   obtain⟨aO,cO,rfl⟩:=ownsRow_form hc.row
   have HC:=Lib.hid hc
   have lJ:=hc.many
   clear hc Te
   go_wp2_with (at_next;refine wpList_next_ranges _ rfl _ rfl 3 pI (plainElem Tryz.prog 4) (Value.int .i64) (fun n:Nat=>Value.bool (decide (n=0))) (fun key kl hk=>by obtain⟨x,hx,_⟩:=Maps.keyOf_int_inv Tryz.underlying3 hk;exact⟨x,hx⟩) (rD Tryz.underlying4) sb r A.length D left gk rfl HC.out.rng ?_ ?_)
   ·intro _ hl0
    have xu:=(HC.out.col.perm VA.out hl0 hnd).trans AQ
    have hlen:=xu.length_eq
    rcases HC.out.row.2 with ⟨hnil,h0⟩ |⟨g,cap,cur,hv,hbase,hb,h1,h2,h3,h4⟩
    ·have hss:ss=[]:=List.eq_nil_of_length_eq_zero h0
     subst hss
     have gP:ids=[]:=xu.symm.eq_nil
     cases hnil
     have HF:Hid (vY w b S ids (.returned (.tuple #[.slice none 0 0,.int .i64 0])) wr):=Lib.hid ⟨⟨_,rfl,by rw [gP,show dM []=[] by simp [dM]];exact⟨.none,Nat.le_refl _,Nat.zero_le _⟩,(fun j hj=>by cases hj),HC.out.pages,HC.out.step,fun j hj=>by cases hj⟩,_,_,rfl,by rw [gP,show dM []=[] by simp [dM]];exact⟨rfl,.inl ⟨rfl,rfl⟩⟩⟩
     have zF:=Lib.hid (q9 none 0 wr)
     clear hl0 xu hlen
     simp only [List.length_nil]
     go_wp2_with fail
     (with_reducible refine zF.out.mono ?_)
     rintro e w' ⟨rfl,rfl⟩
     go_wp2_with fail
     go_ret2
     exact HF.out
    ·cases hv
     have hH:Sort.Holds (Value.int .i64) wr g 0 ss.toArray:=holds_of_blockI hb (by simpa [eT] using h4)
     have hgl:g<wr.heap.size:=(Array.getElem?_eq_some_iff.1 hb).1
     have zF:=Lib.hid (ru g 0 cO ss wr hH hgl (by omega))
     have hsl:(dM ss).length=ss.length:=by unfold dM;exact List.length_mergeSort _
     have Jy:Hid (∀n os,vY w b S ids (.returned (.tuple #[.slice (some ⟨g,0,none⟩) ss.length cO,.int .i64 0])) (Sort.grow (Sort.putRow (Value.int .i64) (Sort.ahead wr n) g 0 (dM ss).toArray) os)):=Lib.hid (fun n os=>by
      have own:=ownsRow_sortedI (n:=n) (os:=os) hsl hbase hb h1 h2 h3
      have hx:Only (fun k=>k=g) wr (Sort.grow (Sort.putRow (Value.int .i64) (Sort.ahead wr n) g 0 (dM ss).toArray) os):=(Only.refl (fun k=>k=g) wr).grown (grownBy_sortedI _) fun k _ e=>(Option.some.inj e).symm
      have hbb:=hx.block b HC.out.pages.lt fun e=>HC.out.far g rfl (.inl e.symm)
      refine⟨⟨_,rfl,?_,fun j hj=>?_,fT HC.out.pages hx fun k q e=>HC.out.far g rfl (e▸q),jH HC.out.step hbb hx fun k e=>by have e2:k=g:=e;rw [e2];exact(HC.out.new g rfl).1,fun j hj=>?_⟩,_,_,rfl,by rw [←pJ xu,hsl];exact own⟩
      ·exact⟨by rw [←pJ xu];exact bS (enc:=qN) (k:=1) (fun _=>rfl) (by rw [hsl,←iP];exact own),dQ own⟩
      ·cases hj
       exact⟨fun q=>HC.out.far g rfl ((aD hbb g).1 q),Nat.lt_of_lt_of_le hgl hx.size⟩
      ·cases hj
       exact(HC.out.new g rfl).1)
     clear hl0 xu hlen hH hb h1 h2 h3 h4 hsl hbase
     go_wp2_with fail
     (with_reducible refine zF.out.mono ?_)
     rintro e w' ⟨rfl,nn,os,rfl⟩
     have HF:=Lib.hid (Jy.out nn os)
     clear Jy zF
     unfold dM at HF
     generalize Sort.grow (Sort.putRow (Value.int .i64) (Sort.ahead wr nn) g 0 (ss.mergeSort fun x y=>decide (x≤y)).toArray) os=w9 at *
     go_wp2_with fail
     go_ret2
     exact HF.out
   ·intro x c kl yd yp w7 cnt2 hkey hlk hv hat Mr hlt MF hs7 hen
    obtain⟨x',ex,rfl,_⟩:=Maps.keyOf_int_inv Tryz.underlying3 hkey
    cases ex
    have HT:=Lib.hid (And.intro hlk (And.intro hat (And.intro Mr (And.intro hlt (And.intro MF (HC.out.turn MF).2.2.1)))))
    have HOWN:=Lib.hid ((HC.out.turn MF).2.2.1.alloc (.cells #[.int .i64 x] 3))
    have p9:=Lib.hid (bH w7 [.int .i64 x] 3 (0,0))
    have hmax:ss.length+1≤maxLen:=by unfold maxLen;omega
    have hbig:(ss.length+1) * 8≤140737488355328:=by omega
    clear hs7 hlk hat Mr hlt MF hkey hv
    go_wp2_with (at_builtin;refine aM _ rfl _ _ 57 rfl 3 i0 _ 1 8 Tryz.underlying57 hi hz0 hz1 hz2 rfl (by decide) _ _ _ rfl HOWN.out ⟨w7.heap.size,0,none⟩ 1 1 [.int .i64 x] rfl rfl p9.out (by simp [Value.oneCell']) hmax hbig ?_;intro a' c' wx hown2 hgr hmv;have HG:=Lib.hid (HC.out.next HT.out.2.2.2.2.1 HT.out.2.2.1 HT.out.2.2.2.1 HT.out.1 HT.out.2.1 hown2 hgr hmv);clear hown2 hgr hmv)
    all_goals
     go_roundg cnt2
     case measure=>exact HT.out.2.2.2.1
     case rel=>exact⟨_,ss++[x],by first | exact HG.out | simpa using HG.out⟩
end
end Go.Proofs.YtbhiamcmiopnoaaGreatDoor
