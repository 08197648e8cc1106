/- Package leaf: an item is taken away; Go's slices.Delete at items. Conditions: fewer than 2^30 items, which rise by their keys. -/
import Derived.Test.YtbhiamcmiopnoaaGreatDoorZLeaf5
import Derived.Lib.SliceRun
set_option maxHeartbeats 4000000
set_option maxRecDepth 100000
namespace Go.Proofs.YtbhiamcmiopnoaaGreatDoor
open Go.RowKit
theorem ny {P:Program} (w:World) {ops:Array Oper} {o:Oper} {a:Act} {K:Act→World→Prop} {Q:Exit→Act→World→Prop} {E:Prop} (hgd:o.guard=none) (s x:Operand) (t:TypeId)
 (ho:o.op=.call { callee:=.builtin .append,args:=#[s,x],argTypes:=#[t,t] })
 (e:TypeId) (i:TypeInfo) (size:Nat) (ht:P.underlying t=some (.slice e)) (hi:P.info? e=some i) (hsize:i.size=size)
 (g n cap:Nat) (xs:List Value) (hs:a.eval s=.slice (some ⟨g,0,none⟩) n cap) (hown:w.ownsRow 0 e size (.slice (some ⟨g,0,none⟩) n cap) n xs)
 (ad:Addr) (m c:Nat) (news:List Value) (hx:a.eval x=.slice (some ad) m c) (hl:news.length=m * size)
 (hnews:∀j u,news[j]? = some u→w.cell? (ad.add j)=some u) (h1:∀u∈news,u.oneCell'=true) (hroom:n+m≤cap)
 (h:∀w',w'.ownsRow 0 e size (.slice (some ⟨g,0,none⟩) (n+m) cap) (n+m) (xs++news)→w.grownBy w' (some g)→K (a.put o.dst (.slice (some ⟨g,0,none⟩) (n+m) cap)) w') :
 if Region.wanted o (yielded ops a.tmps)=true then o.wp P a w K Q else E:=by
 have hw:Region.wanted o (yielded ops a.tmps)=true:=by simp [Region.wanted,hgd]
 rw [if_pos hw]
 obtain⟨w',hrun,own',gr⟩:=run_append_fits (P:=P) w 0 t o.type e i size ht hi hsize g n cap xs hown ad m c news hl hnews h1 hroom
 unfold Oper.wp execOp
 simp only [ho,resolve,invoke,builtin,Sem.run_bind,Sem.run_pure,Result.andThen_ok,List.map_toArray,List.map_cons,List.map_nil,hs,hx,hrun]
 exact h w' own' gr
theorem yF (w:World) (ty:TypeId) (b o c:Nat) (hc:∀j,j<3→(w.cell? ⟨b,o+j,none⟩).isSome=true) (hf:∀j,j<3→w.frozen? ⟨b,o+j,none⟩=false) :
 (Builtin.clear_ #[140] ty #[.slice (some ⟨b,o,none⟩) 1 c]).run Tryz.prog w=.ok (.tuple #[]) (w.setCells b o [str [],str [],.int .i64 0]):=by
 have hv:∀w,(zeroValue 131).run Tryz.prog w=.ok (.agg #[str [],str [],.int .i64 0]) w:=by
  intro w
  kernel_rfl
 have hzc:(Builtin.zeroCells (Value.agg #[str [],str [],.int .i64 0]).cells 1).toList=[str [],str [],.int .i64 0]:=by kernel_rfl
 have hst:=run_storeCells_cells (P:=Tryz.prog) b o [str [],str [],.int .i64 0] 0 w (by simpa using hc) (by simpa using hf) (by intro v hv';simp at hv';rcases hv' with rfl | rfl<;>rfl)
 simp only [Nat.add_zero] at hst
 simp [Builtin.clear_,run_underlying Tryz.underlying140,hv,hzc,hst]
theorem wD (l:List Item) (i:Nat):(l.eraseIdx i).flatMap aJ=(l.take i).flatMap aJ++(l.drop (i+1)).flatMap aJ:=by
 rw [List.eraseIdx_eq_take_drop_succ,List.flatMap_append]
theorem rJ {w:World} {e:TypeId} {size n cap g:Nat} {xs:List Value} (h:w.ownsRow 0 e size (.slice (some ⟨g,0,none⟩) n cap) n xs) (j:Nat) (hj:n * size≤j) (u:Value):(w.setCell ⟨g,j,none⟩ u).ownsRow 0 e size (.slice (some ⟨g,0,none⟩) n cap) n xs:=by
 obtain⟨cur,hg,h1,h2,h3,h4⟩:=dD h
 refine eZ (cur:=cur.setIfInBounds j u) ?_ h1 h2 (by rw [Array.size_setIfInBounds];exact h3) ?_
 ·simp [World.setCell,Array.getElem?_modify,hg]
 ·rw [Array.toList_setIfInBounds,←h4,List.take_set_of_le hj]
theorem E5 (g cap:Nat) (l:List Item) (i:Nat) (w:World) (hi:i<l.length) (hown:w.ownsRow 0 131 3 (.slice (some ⟨g,0,none⟩) l.length cap) l.length (l.flatMap aJ)) (hn:l.length≤1073741824) :
 Calls Tryz.prog 220 #[.slice (some ⟨g,0,none⟩) l.length cap,.int .i64 i,.int .i64 ((i:Int)+1)] w fun e w'=>e=.returned (.slice (some ⟨g,0,none⟩) (l.length-1) cap)∧
  w'.ownsRow 0 131 3 (.slice (some ⟨g,0,none⟩) (l.length-1) cap) (l.length-1) ((l.eraseIdx i).flatMap aJ)∧Only (fun k=>k=g) w w':=by
 obtain⟨i0,hi0,hz0,hz1,hz2⟩:=info_parts nA
 obtain⟨cur,hg,h1,h2,h3,h4⟩:=dD hown
 have hgw:g<w.heap.size:=mK hown
 have hc63:cap≤9223372036854775807:=by unfold maxLen at h2;omega
 have hx:(l.flatMap aJ).length=l.length * 3:=dX l
 have hcut:=Bd hown i (by omega)
 rw [sW] at hcut
 have Rx:=Lib.hid hcut
 have Ry:Hid (∀W:World,W.heap=w.heap→∀A:Addr,A=⟨g,(i+1) * 3,none⟩∨cap=i+1→∀j u,((l.drop (i+1)).flatMap aJ)[j]? = some u→W.cell? (A.add j)=some u):=Lib.hid (fun W hW A hA j u hu=>by
  rcases hA with rfl | hA
  ·rw [addr_add]
   rw [←sZ,List.getElem?_drop] at hu
   exact(World.cell?_of_block (by rw [hW])).trans (aZ hown _ u hu)
  ·rw [List.drop_eq_nil_of_le (by omega)] at hu;cases hu)
 have HL:Hid (((l.drop (i+1)).flatMap aJ).length=(l.length-(i+1)) * 3):=Lib.hid (by rw [dX,List.length_drop])
 have mX:Hid (∀u∈(l.drop (i+1)).flatMap aJ,u.oneCell'=true):=Lib.hid (fun u hu=>rM _ u hu)
 have ME:Hid (∀(W:World) (q n:Nat),q=i+(l.length-(i+1))→n=1→W.ownsRow 0 131 3 (.slice (some ⟨g,0,none⟩) q cap) q ((l.take i).flatMap aJ++(l.drop (i+1)).flatMap aJ)→
  (∀ty c,(Builtin.clear_ #[140] ty #[.slice (some ⟨g,q * 3,none⟩) n c]).run Tryz.prog W=.ok (.tuple #[]) (W.setCells g (q * 3) [str [],str [],.int .i64 0]))∧
  (W.setCells g (q * 3) [str [],str [],.int .i64 0]).ownsRow 0 131 3 (.slice (some ⟨g,0,none⟩) q cap) q ((l.take i).flatMap aJ++(l.drop (i+1)).flatMap aJ)):=Lib.hid (fun W q n hq hn1 hW=>by
  subst hn1
  obtain⟨cur,hg,h1,h2,h3,h4⟩:=dD hW
  refine⟨fun ty c=>yF W ty g _ _ (fun j hj=>?_) (fun j hj=>?_),?_⟩
  ·rw [cell_of_row W g _ cur _ (0,0) hg,Array.getElem?_eq_getElem (by omega)];rfl
  ·simp [World.frozen?,hg]
  ·simp only [World.setCells]
   exact rJ (rJ (rJ hW _ (by omega) _) _ (by omega) _) _ (by omega) _)
 have hii:¬(i:Int)=(i:Int)+1:=by omega
 have hb1:(i:Int)+1≤(l.length:Int):=by omega
 have hb2:(i:Int)≤(i:Int)+1:=by omega
 have hb3:(l.length:Int)≤(cap:Int):=by omega
 have hb4:(i:Int)≤(cap:Int):=by omega
 have hb5:(i:Int)+1≤(cap:Int):=by omega
 have hb6:(0:Int)≤(i:Int)+1:=by omega
 have htn:((i:Int)+1).toNat=i+1:=by omega
 have hci:¬cap=i:=by omega
 clear hown hcut hx h3 h4 hg
 by_cases hcc:cap=i+1
 ·subst hcc
  go_enter Tryz.func220,Tryz.ntmps220
  go_wp2_with fail
  go_region_law (refine ny _ rfl (.tmp 22) (.tmp 25) 140 rfl 131 i0 3 Tryz.underlying140 hi0 hz1 g i (i+1) _ (by first |(simp [Act.eval];done) | simp [Act.eval,Act.put]) Rx.out ⟨g,0,none⟩ 0 0 [] (by first |(simp [Act.eval];done) | simp [Act.eval,Act.put]) (by simp) (fun j u hu=>by simp at hu) (fun u hu=>by simp at hu) (by omega) ?_;intro w1 lM EZ)
  all_goals
   rw [Nat.add_zero,List.append_nil] at lM
   have hdr:(l.drop (i+1)).flatMap aJ=[]:=by rw [List.drop_eq_nil_of_le (by omega)];rfl
   have hsp:=ME.out w1 i (l.length-i) (by omega) (by omega) (by rw [hdr,List.append_nil];exact lM)
   obtain⟨hcl,hown2⟩:=hsp
   rw [hdr,List.append_nil] at hown2
   clear hdr
   have ho1:Only (fun k=>k=g) w w1:=((Only.refl (fun k=>k=g) w).drew).grown EZ (fun k _ e=>(Option.some.inj e).symm)
   have hsz1:=ho1.size
   have HF:=Lib.hid (And.intro hown2 ho1)
   clear hown2 ho1 lM EZ
   go_wp2_with fail
   go_ret
   have e0:i=l.length-1:=by omega
   have hown:=HF.out.1
   have hdr:(l.drop (i+1)).flatMap aJ=[]:=by rw [List.drop_eq_nil_of_le (by omega)];rfl
   have he:=wD l i
   rw [hdr,List.append_nil] at he
   rw [←he] at hown
   refine⟨congrArg (fun n=>Ending.returned (.slice (some ⟨g,0,none⟩) n (i+1))) e0,by rw [e0] at hown ⊢;exact hown,((HF.out.2.put g _ rfl _).put g _ rfl _).put g _ rfl _⟩
 ·have Xp:¬(cap:Int)=(i:Int)+1:=by omega
  go_enter Tryz.func220,Tryz.ntmps220
  go_wp2_with fail
  go_region_law (refine ny _ rfl (.tmp 22) (.tmp 25) 140 rfl 131 i0 3 Tryz.underlying140 hi0 hz1 g i cap _ (by first |(simp [Act.eval];done) | simp [Act.eval,Act.put]) Rx.out ⟨g,(i+1) * 3,none⟩ (l.length-(i+1)) (cap-(i+1)) ((l.drop (i+1)).flatMap aJ) (by first |(simp [Act.eval];done) | simp [Act.eval,Act.put]) HL.out (Ry.out _ (by rfl) _ (.inl rfl)) mX.out (by omega) ?_;intro w1 lM EZ)
  all_goals
   obtain⟨hcl,hown2⟩:=ME.out w1 _ (l.length-(i+(l.length-(i+1)))) rfl (by omega) lM
   have ho1:Only (fun k=>k=g) w w1:=((Only.refl (fun k=>k=g) w).drew).grown EZ (fun k _ e=>(Option.some.inj e).symm)
   have hsz1:=ho1.size
   have HF:=Lib.hid (And.intro hown2 ho1)
   clear hown2 ho1 lM EZ
   go_wp2_with fail
   go_ret
   have e0:i+(l.length-(i+1))=l.length-1:=by omega
   have hown:=HF.out.1
   rw [←wD] at hown
   refine⟨congrArg (fun n=>Ending.returned (.slice (some ⟨g,0,none⟩) n cap)) e0,by rw [e0] at hown ⊢;exact hown,((HF.out.2.put g _ rfl _).put g _ rfl _).put g _ rfl _⟩
theorem Kq {l:List Item} {key:Bytes}:bU l key=if pX l key=true then (l.eraseIdx (findAt l key),true) else (l,false):=by
 rw [jB]
 have h1:=bZ l key
 have hl:findAt l key=(ahead l key).length:=rfl
 unfold bU
 cases hb:behind l key with
 | nil=>simp
 | cons y r=>
  rw [hb] at h1
  by_cases hy:y.key=key
  ·simp only [hy,if_true,beq_self_eq_true]
   have e:l.eraseIdx (findAt l key)=(ahead l key++y :: r).eraseIdx (ahead l key).length:=by rw [h1,hl]
   rw [e,List.eraseIdx_append_of_length_le (Nat.le_refl _),Nat.sub_self]
   rfl
  ·simp [hy]
theorem Nf (v:Value) (l:List Item) (key:Bytes) (w:World) (h:bL aJ 3 w v l) (hr:bF l) (hn:l.length≤1073741000) :
 Calls Tryz.prog 199 #[v,str key] w fun e w'=>∃v',e=.returned (.tuple #[v',.bool (bU l key).2])∧gN aJ 3 w' v' (bU l key).1∧Only (fun _=>False) w w'∧∀b,bI v'=some b→w.heap.size≤b:=by
 have HA:=Lib.hid h
 have HF:=Lib.hid (xD v l key w h hr (by omega))
 clear h hr
 have hd:=Kq (l:=l) (key:=key)
 have HD:=Lib.hid hd
 clear hd
 go_enter Tryz.func199,Tryz.ntmps199
 go_wp2_with fail
 (with_reducible refine HF.out.mono ?_)
 rintro e w1 ⟨rfl,o1⟩
 have HA:=Lib.hid (aU HA.out o1 (fun _ _=>id))
 have HW:=Lib.hid o1
 have hsz1:=o1.size
 clear o1 HF
 have HC:=Lib.hid (nC v l w1 HA.out (by omega))
 go_wp2_with fail
 (with_reducible refine HC.out.mono ?_)
 rintro e w2 ⟨v2,rfl,own,o2,hnew⟩
 have HW:=Lib.hid (HW.out.trans o2 (fun _ _=>id))
 have hsz2:=o2.size
 have HOWN:=Lib.hid own
 have jo:=Lib.hid hnew
 clear o2 HC own hnew HA
 have hle:=lq l key
 obtain⟨a,c,rfl⟩:=ownsRow_form HOWN.out
 cases hat:pX l key with
 | true=>
  have hk:findAt l key<l.length:=by
   unfold pX at hat
   apply Classical.byContradiction
   intro q
   rw [List.getElem?_eq_none (by omega)] at hat
   cases hat
  rw [hat] at HD
  simp only [if_true] at HD
  generalize findAt l key=k at *
  have hg:∃g,a=some ⟨g,0,none⟩:=by
   rcases HOWN.out.2 with ⟨q,h0⟩ |⟨g,cap,cur,q,_⟩
   ·omega
   ·injection q with q1 q2 q3;exact⟨g,q1⟩
  obtain⟨g,rfl⟩:=hg
  have Rz:=Lib.hid (E5 g c l k w2 hk HOWN.out (by omega))
  have hgn:w1.heap.size≤g:=jo.out g rfl
  have Uj:IntKind.i64.wrap ((k:Int)+1)=(k:Int)+1:=by exact IntWalk.i64_in _ (by omega)
  clear hat
  go_wp2_with fail
  (with_reducible refine Rz.out.mono ?_)
  rintro e w3 ⟨rfl,jS,o3⟩
  have HX:=Lib.hid (And.intro jS o3)
  clear jS o3 Rz
  go_wp2_with fail
  go_ret2
  rw [HD.out]
  have hown:=HX.out.1
  have hel:(l.eraseIdx k).length=l.length-1:=List.length_eraseIdx_of_lt hk
  refine⟨_,rfl,?_,HW.out.trans HX.out.2 (fun i hi e=>by have e2:i=g:=e;omega),fun b hb=>by have:=Option.some.inj (show some g=some b from hb);omega⟩
  rw [←hel] at hown ⊢
  exact⟨bS (enc:=aJ) (k:=3) (fun _=>rfl) hown,dQ hown⟩
 | false=>
  rw [hat] at HD
  simp only [Bool.false_eq_true,if_false] at HD
  generalize findAt l key=k at *
  clear hat
  go_wp2_with fail
  go_ret2
  rw [HD.out]
  exact⟨.slice a l.length c,rfl,⟨bS (enc:=aJ) (k:=3) (fun _=>rfl) HOWN.out,dQ HOWN.out⟩,HW.out,fun b hb=>by
   rw [bg HOWN.out] at hb
   have:=jo.out b hb;omega⟩
end Go.Proofs.YtbhiamcmiopnoaaGreatDoor
