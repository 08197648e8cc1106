/- Rows of things of k cells each: what copying, clearing, and appending zeros do to them, for any program. Conditions: those that each law names. -/
import Derived.Test.YtbhiamcmiopnoaaGreatDoorZLeafA
import Derived.Laws.CopyRow
import Derived.Lib.AppendZerosOnto
import Derived.Lib.Overlaps
set_option maxHeartbeats 4000000
set_option maxRecDepth 100000
namespace Go.Proofs.YtbhiamcmiopnoaaGreatDoor
section
open Go.RowKit
section
variable {P : Program}
theorem dO (w:World) (dT sT ty elem:TypeId) (size g o dLen dCap:Nat) (a:Addr) (sLen sCap:Nat) (cur:Array Value) (t:TypeId) (cs:List Value)
 (hu:P.underlying dT=some (.slice elem)) (hs:(P.info? elem).map (·.size)=some size)
 (hg:w.heap[g]? = some (.cells cur t (0,0))) (hn:cs.length=Nat.min sLen dLen * size)
 (hsrc:∀j v,cs[j]? = some v→w.cell? (a.add j)=some v) (hfit:o+cs.length≤cur.size) (h1:∀v∈cs,v.oneCell'=true) :
 (Builtin.copy_ #[dT,sT] ty #[.slice (some ⟨g,o,none⟩) dLen dCap,.slice (some a) sLen sCap]).run P w =
  .ok (goInt (Nat.min sLen dLen)) (w.setRow g (cur.toList.take o++cs++cur.toList.drop (o+cs.length)).toArray):=by
 have hl:=run_loadCells_list (P:=P) w a cs hsrc
 have hst:=run_storeCells_at P g o t cs 0 cur w hg (by simpa using hfit) h1
 cases hq:P.info? elem with
 | none=>simp [hq] at hs
 | some i=>
  have hi:i.size=size:=by simpa [hq] using hs
  simp [Builtin.copy_,run_underlying hu,Builtin.lenOf,Builtin.firstCells,sizeOf,typeInfo,hq,hi,←hn,hl,hst]
theorem sH (w:World) {o:Oper} {a:Act} {K:Act→World→Prop} {Q:Exit→Act→World→Prop} (d s:Operand) (t t':TypeId)
 (ho:o.op=.call { callee:=.builtin .copy,args:=#[d,s],argTypes:=#[t,t'] }) (v u:Value) (hd:a.eval d=v) (hs:a.eval s=u) {v':Value} {w':World}
 (hr:(Builtin.copy_ #[t,t'] o.type #[v,u]).run P w=.ok v' w') (h:K (a.put o.dst v') w'):o.wp P a w K Q:=by
 unfold Oper.wp execOp
 simp only [ho,resolve,invoke,builtin,Sem.run_bind,Sem.run_pure,Result.andThen_ok,List.map_toArray,List.map_cons,List.map_nil,hd,hs,hr]
 exact h
theorem bX (w:World) {ops:Array Oper} {rest:List Oper} {o:Oper} {a:Act} {Q:Exit→Act→World→Prop} (hgd:o.guard=none) (d s:Operand) (t t':TypeId)
 (ho:o.op=.call { callee:=.builtin .copy,args:=#[d,s],argTypes:=#[t,t'] }) (v u:Value) (hd:a.eval d=v) (hs:a.eval s=u) {v':Value} {w':World}
 (hr:(Builtin.copy_ #[t,t'] o.type #[v,u]).run P w=.ok v' w') (h:wpList P ops Q rest (a.put o.dst v') w'):wpList P ops Q (o :: rest) a w:=
 wpList_plain hgd fun _ hK=>sH w d s t t' ho v u hd hs hr (hK _ _ h)
theorem dz {ops:Array Oper} {o:Oper} {a:Act} {w:World} {K:Act→World→Prop} {Q:Exit→Act→World→Prop} {E:Prop}
 (hg:o.guard=none) (d x:Operand) (dT sT:TypeId) (hop:o.op=.call { callee:=.builtin .copy,args:=#[d,x],argTypes:=#[dT,sT] })
 (v u:Value) (hd:a.eval d=v) (hx:a.eval x=u) {v':Value} {w':World} (hr:(Builtin.copy_ #[dT,sT] o.type #[v,u]).run P w=.ok v' w') (hK:K (a.put o.dst v') w') :
 if Region.wanted o (yielded ops a.tmps)=true then Oper.wp P o a w K Q else E:=by
 have hw:Region.wanted o (yielded ops a.tmps)=true:=by simp [Region.wanted,hg]
 rw [if_pos hw]
 exact sH w d x dT sT hop v u hd hx hr hK
end
theorem Only.setRow {S:Nat→Prop} {a w:World} (h:Only S a w) {g:Nat} (hg:g<a.heap.size→S g) (cs:Array Value):Only S a (w.setRow g cs):=by
 refine h.trans (T:=fun k=>k=g) ⟨rfl,rfl,rfl,by simp [World.setRow],fun k hk hn=>?_⟩ fun i hi q=>by subst q;exact hg hi
 simp only [World.setRow,Array.getElem?_modify]
 rw [if_neg (fun e=>hn e.symm)]
theorem dD {w:World} {base:Nat} {e:TypeId} {size n cap g:Nat} {xs:List Value} (h:w.ownsRow base e size (.slice (some ⟨g,0,none⟩) n cap) n xs) :
 ∃cur:Array Value,w.heap[g]? = some (.cells cur e (0,0))∧n≤cap∧cap≤maxLen∧cur.size=cap * size∧cur.toList.take (n * size)=xs:=by
 rcases h.2 with ⟨h,_⟩ |⟨g',cap',cur,hv,_,hg,h1,h2,h3,h4⟩
 ·cases h
 ·cases hv;exact⟨cur,hg,h1,h2,h3,h4⟩
theorem eZ {w:World} {e:TypeId} {size n cap g:Nat} {cur:Array Value} (hg:w.heap[g]? = some (.cells cur e (0,0))) (h1:n≤cap) (h2:cap≤maxLen) (h3:cur.size=cap * size) {xs:List Value} (h4:cur.toList.take (n * size)=xs) :
 w.ownsRow 0 e size (.slice (some ⟨g,0,none⟩) n cap) n xs:=by
 refine⟨?_,.inr ⟨g,cap,cur,rfl,Nat.zero_le _,hg,h1,h2,h3,h4⟩⟩
 rw [←h4,List.length_take,Array.length_toList,h3]
 exact Nat.min_eq_left (Nat.mul_le_mul_right _ h1)
theorem Dv (cur xs vs:List Value) (a m N:Nat) (h:cur.take N=xs) (hN:N+m≤cur.length) (ha:a≤N) (hv:vs.length=m) :
 ((cur.take (a+m)++xs.drop a++cur.drop (a+m+(N-a))).take a++vs++(cur.take (a+m)++xs.drop a++cur.drop (a+m+(N-a))).drop (a+m)).take (N+m)=xs.take a++vs++xs.drop a:=by
 have hx:xs.length=N:=by rw [←h,List.length_take];omega
 have e1:(cur.take (a+m)++xs.drop a++cur.drop (a+m+(N-a))).take a=xs.take a:=by
  rw [List.append_assoc,List.take_append_of_le_length (by rw [List.length_take];omega),List.take_take,←h,List.take_take]
  congr 1
  omega
 have e2:(cur.take (a+m)++xs.drop a++cur.drop (a+m+(N-a))).drop (a+m)=xs.drop a++cur.drop (a+m+(N-a)):=by
  have hl:(cur.take (a+m)).length=a+m:=by rw [List.length_take];omega
  rw [List.append_assoc]
  have:=List.drop_left (l₁:=cur.take (a+m)) (l₂:=xs.drop a++cur.drop (a+m+(N-a)))
  rwa [hl] at this
 rw [e1,e2,←List.append_assoc]
 have hl:(xs.take a++vs++xs.drop a).length=N+m:=by simp only [List.length_append,List.length_take,List.length_drop];omega
 have:=List.take_left (l₁:=xs.take a++vs++xs.drop a) (l₂:=cur.drop (a+m+(N-a)))
 rwa [hl] at this
theorem Dw (r xs vs:List Value) (a m N:Nat) (h:r.take a=xs.take a) (hN:N+m≤r.length) (hx:xs.length=N) (ha:a≤N) (hv:vs.length=m) :
 ((r.take a++vs++r.drop (a+m)).take (a+m)++xs.drop a++(r.take a++vs++r.drop (a+m)).drop (a+m+(N-a))).take (N+m)=xs.take a++vs++xs.drop a:=by
 have hl:(r.take a++vs).length=a+m:=by simp only [List.length_append,List.length_take];omega
 have e1:(r.take a++vs++r.drop (a+m)).take (a+m)=xs.take a++vs:=by
  have:=List.take_left (l₁:=r.take a++vs) (l₂:=r.drop (a+m))
  rw [hl,h] at this
  rw [h]
  exact this
 rw [e1]
 have hl2:(xs.take a++vs++xs.drop a).length=N+m:=by simp only [List.length_append,List.length_take,List.length_drop];omega
 have:=List.take_left (l₁:=xs.take a++vs++xs.drop a) (l₂:=(r.take a++vs++r.drop (a+m)).drop (a+m+(N-a)))
 rwa [hl2] at this
end
section
open Go.RowKit
theorem nJ (x:Item):∀u∈aJ x,u.oneCell'=true:=by simp [aJ,Value.oneCell']
theorem rM (l:List Item):∀u∈l.flatMap aJ,u.oneCell'=true:=fun u hu=>by
 obtain⟨x,_,hu⟩:=List.mem_flatMap.1 hu
 exact nJ x u hu
theorem dX (l:List Item):(l.flatMap aJ).length=l.length * 3:=by
 induction l with
 | nil=>rfl
 | cons a l ih=>rw [List.flatMap_cons,List.length_append,ih,List.length_cons];simp only [aJ,List.length_cons,List.length_nil];omega
theorem addr_add (g o j:Nat):((⟨g,o,none⟩:Addr).add j)=⟨g,o+j,none⟩:=by unfold Addr.add;split<;>simp_all
theorem Al {w:World} {g off n c:Nat} {l:List Item} (h:bL aJ 3 w (.slice (some ⟨g,off,none⟩) n c) l):∀j u,(l.flatMap aJ)[j]? = some u→w.cell? ((⟨g,off,none⟩:Addr).add j)=some u:=by
 intro j u hu
 rw [addr_add]
 cases h with
 | some _ _ _ _ hc=>
  have hj:j<l.length * 3:=by
   obtain⟨hj,_⟩:=List.getElem?_eq_some_iff.1 hu
   rwa [dX] at hj
  have hi:j / 3<l.length:=by omega
  have hx:l[j / 3]? = some l[j / 3]:=List.getElem?_eq_getElem hi
  have hu2:(aJ l[j / 3])[j % 3]? = some ((aJ l[j / 3])[j % 3]'(by simp only [aJ,List.length_cons,List.length_nil];omega)):=List.getElem?_eq_getElem _
  have:=hc _ _ _ _ hx hu2
  have e:=flat_get (enc:=aJ) (k:=3) (fun _=>rfl) l (j / 3) (j % 3) _ _ hx hu2
  rw [show j / 3 * 3+j % 3=j by omega] at e this
  rw [hu] at e
  rw [this,Option.some.inj e]
theorem nC (v:Value) (l:List Item) (w:World) (h:bL aJ 3 w v l) (hn:l.length≤1073741824) :
 Calls Tryz.prog 213 #[v] w fun e w'=>∃v',e=.returned v'∧w'.ownsRow 0 131 3 v' l.length (l.flatMap aJ)∧Only (fun _=>False) w w'∧∀b,v'.ownBlock=some b→w.heap.size≤b:=by
 obtain⟨i0,hi,hz0,hz1,hz2⟩:=info_parts nA
 have hb0:∀w,(binOp .eql 140 (.slice none 0 0) (.slice none 0 0)).run Tryz.prog w=.ok (.bool true) w:=fun _=>rfl
 have hb1:∀p n c w,(binOp .eql 140 (.slice (some p) n c) (.slice none 0 0)).run Tryz.prog w=.ok (.bool false) w:=fun _ _ _ _=>rfl
 cases h with
 | none=>
  go_enter Tryz.func213,Tryz.ntmps213
  go_wp2_with fail
  go_ret
  exact⟨.slice none 0 0,rfl,⟨rfl,.inl ⟨rfl,rfl⟩⟩,Only.refl _ _,fun b hb=>by simp [Value.ownBlock] at hb⟩
 | some g off cap _ hc=>
  have HC:=Lib.hid (Al (.some g off cap l hc))
  have hown:(w.alloc (.cells #[] 131)).ownsRow 0 131 3 (.slice (some ⟨w.heap.size,0,none⟩) 0 0) 0 []:=
   eZ (cur:=#[]) (heap_alloc_new _ _) (Nat.le_refl _) (by unfold maxLen;omega) rfl rfl
  have HOWN:=Lib.hid hown
  have oW:=(Only.refl (fun _=>False) w).alloc (.cells #[] 131)
  have hcells:∀j u,(l.flatMap aJ)[j]? = some u→(w.alloc (.cells #[] 131)).cell? ((⟨g,off,none⟩:Addr).add j)=some u:=fun j u hu=>by
   have q:=HC.out j u hu
   rw [addr_add] at q ⊢
   exact(oW.cell (p:=⟨g,off+j,none⟩) (lt_of_cell q) id).trans q
  have p9:=Lib.hid hcells
  have HW:=Lib.hid oW
  clear hown hcells oW
  have hmax:0+l.length≤maxLen:=by unfold maxLen;omega
  go_enter Tryz.func213,Tryz.ntmps213
  go_wp2_with (at_builtin;refine aM _ rfl _ _ 140 rfl 131 i0 _ 3 40 Tryz.underlying140 hi hz0 hz1 hz2 rfl (by decide) _ _ _ rfl HOWN.out ⟨g,off,none⟩ l.length cap (l.flatMap aJ) rfl (dX l) p9.out (rM l) hmax (by omega) ?_;intro a' c' wx hown2 hgr hmv;have HX:=Lib.hid (And.intro hown2 (And.intro hgr hmv));clear hown2 hgr hmv)
  go_ret
  obtain⟨hown2,hgr,hmv⟩:=HX.out
  refine⟨.slice a' l.length c',by simp,by rw [Nat.zero_add] at hown2;exact hown2,HW.out.grown hgr fun k hk e=>?_,fun b hb=>?_⟩
  ·have:=Option.some.inj (show some w.heap.size=some k from e);omega
  ·rcases hmv b (by rw [Nat.zero_add];exact hb) with e | e
   ·have:=Option.some.inj (show some w.heap.size=some b from e);omega
   ·simp at e;omega
theorem II (w:World) (g vb o m c lb cb:Nat) (hne:vb≠g) {cur arr:Array Value} {t1 t2:TypeId} (hg:w.heap[g]? = some (.cells cur t1 (0,0))) (hv:w.heap[vb]? = some (.cells arr t2 (0,0))) (hsz:cur.size≠0) :
 (callFunc 229 #[.slice (some ⟨vb,0,none⟩) m c,.slice (some ⟨g,o,none⟩) lb cb]).run Tryz.prog w=.ok (.value (.bool false)) w:=by
 have hz:∀w,(Go.sizeOf 131).run Tryz.prog w=.ok 3 w:=fun _=>rfl
 rw [run_callFunc_extern Tryz.func229 (by kernel_rfl) (by kernel_rfl) (by kernel_rfl) (e:=Extern.SlicesOverlaps.overlaps #[140,140] #[4]) (by kernel_rfl),
  Lib.run_overlaps_apart w 140 4 131 Tryz.underlying140 3 hz ⟨vb,0,none⟩ ⟨g,o,none⟩ m c lb cb hne t2 t1 arr.size cur.size (by simp [World.shape?,hv]) (by simp [World.shape?,hg]) hsz (by simp [World.frozen?,hv]) (by simp [World.frozen?,hv])]
 rfl
theorem Dx (sv:Value) (l:List Item) (x:Item) (vb:Nat) (w:World) (hown:w.ownsRow 0 131 3 sv l.length (l.flatMap aJ)) (hv:w.heap[vb]? = some (.cells (aJ x).toArray 131 (0,0))) (hn:l.length≤1073741824) :
 Calls Tryz.prog 216 #[sv,.int .i64 l.length,.slice (some ⟨vb,0,none⟩) 1 1] w fun e w'=>∃v',e=.returned v'∧w'.ownsRow 0 131 3 v' (l.length+1) ((l++[x]).flatMap aJ)∧w.grownBy w' sv.ownBlock∧Moved w sv v':=by
 obtain⟨i0,hi,hz0,hz1,hz2⟩:=info_parts nA
 have HOWN:=Lib.hid hown
 have hcells:∀j u,(aJ x)[j]? = some u→w.cell? ((⟨vb,0,none⟩:Addr).add j)=some u:=fun j u hu=>by
  rw [addr_add,Nat.zero_add]
  simp [World.cell?,hv,hu]
 have p9:=Lib.hid hcells
 obtain⟨a,c,rfl⟩:=ownsRow_form hown
 have hcap:l.length≤c:=by
  rcases hown.2 with ⟨h1,h2⟩ |⟨g,cap,cur,h1,_,_,h2,_⟩
  ·injection h1 with q1 q2 q3;omega
  ·injection h1 with q1 q2 q3;omega
 have hmax:l.length+1≤maxLen:=by unfold maxLen;omega
 clear hown hcells hv
 cases a with
 | none=>
  go_enter Tryz.func216,Tryz.ntmps216
  go_wp2_with (at_builtin;refine aM _ rfl _ _ 140 rfl 131 i0 _ 3 40 Tryz.underlying140 hi hz0 hz1 hz2 rfl (by decide) _ _ _ rfl HOWN.out ⟨vb,0,none⟩ 1 1 (aJ x) rfl rfl p9.out (nJ x) hmax (by omega) ?_;intro a' c' wx hown2 hgr hmv;have HX:=Lib.hid (And.intro hown2 (And.intro hgr hmv));clear hown2 hgr hmv)
  go_ret
  obtain⟨hown2,hgr,hmv⟩:=HX.out
  exact⟨.slice a' (l.length+1) c',rfl,by simpa using hown2,hgr,hmv⟩
 | some p=>
  go_enter Tryz.func216,Tryz.ntmps216
  go_wp2_with (at_builtin;refine aM _ rfl _ _ 140 rfl 131 i0 _ 3 40 Tryz.underlying140 hi hz0 hz1 hz2 rfl (by decide) _ _ _ rfl HOWN.out ⟨vb,0,none⟩ 1 1 (aJ x) rfl rfl p9.out (nJ x) hmax (by omega) ?_;intro a' c' wx hown2 hgr hmv;have HX:=Lib.hid (And.intro hown2 (And.intro hgr hmv));clear hown2 hgr hmv)
  all_goals
   go_ret
   obtain⟨hown2,hgr,hmv⟩:=HX.out
   exact⟨.slice a' (l.length+1) c',rfl,by simpa using hown2,hgr,hmv⟩
theorem sW (l:List Item) (i:Nat):(l.flatMap aJ).take (i * 3)=(l.take i).flatMap aJ:=by
 induction l generalizing i with
 | nil=>simp
 | cons a l ih=>
  cases i with
  | zero=>simp
  | succ i=>
   rw [List.take_succ_cons,List.flatMap_cons,List.flatMap_cons,←ih i,show (i+1) * 3=(aJ a).length+i * 3 by simp only [aJ,List.length_cons,List.length_nil];omega,List.take_length_add_append]
theorem sZ (l:List Item) (i:Nat):(l.flatMap aJ).drop (i * 3)=(l.drop i).flatMap aJ:=by
 induction l generalizing i with
 | nil=>simp
 | cons a l ih=>
  cases i with
  | zero=>simp
  | succ i=>
   rw [List.drop_succ_cons,List.flatMap_cons,←ih i,show (i+1) * 3=(aJ a).length+i * 3 by simp only [aJ,List.length_cons,List.length_nil];omega,List.drop_length_add_append]
theorem BK (g cap:Nat) (l:List Item) (x:Item) (i vb:Nat) (w:World) (hi:i<l.length) (hne:vb≠g) (hroom:l.length+1≤cap) (hown:w.ownsRow 0 131 3 (.slice (some ⟨g,0,none⟩) l.length cap) l.length (l.flatMap aJ))
 (hv:w.heap[vb]? = some (.cells (aJ x).toArray 131 (0,0))) (hn:l.length≤1073741824) :
 Calls Tryz.prog 216 #[.slice (some ⟨g,0,none⟩) l.length cap,.int .i64 i,.slice (some ⟨vb,0,none⟩) 1 1] w fun e w'=>e=.returned (.slice (some ⟨g,0,none⟩) (l.length+1) cap)∧w'.ownsRow 0 131 3 (.slice (some ⟨g,0,none⟩) (l.length+1) cap) (l.length+1) ((l.take i++x :: l.drop i).flatMap aJ)∧Only (fun k=>k=g) w w':=by
 have hsz:(Tryz.prog.info? 131).map (·.size)=some 3:=by kernel_rfl
 obtain⟨cur,hg,h1,h2,h3,h4⟩:=dD hown
 have hov:∀o lb cb,(callFunc 229 #[.slice (some ⟨vb,0,none⟩) 1 1,.slice (some ⟨g,o,none⟩) lb cb]).run Tryz.prog w=.ok (.value (.bool false)) w:=fun o lb cb=>II w g vb o 1 1 lb cb hne hg hv (by omega)
 have hc63:cap≤9223372036854775807:=by unfold maxLen at h2;omega
 have hz2:¬((i:Int)=(l.length:Int)):=by omega
 have hz3:¬((cap:Int)<(l.length:Int)+1):=by omega
 have hw0:IntKind.i64.wrap ((l.length:Int)+1)=(l.length:Int)+1:=by exact IntWalk.i64_in _ (by omega)
 have hw1:IntKind.i64.wrap ((i:Int)+1)=(i:Int)+1:=by exact IntWalk.i64_in _ (by omega)
 have hb1:(0:Int)≤(i:Int)+1:=by omega
 have hin:i≤l.length:=by omega
 have htn:((i:Int)+1).toNat=i+1:=by omega
 have htl:((l.length:Int)+1).toNat=l.length+1:=by omega
 have hb2:¬(cap=i+1):=by omega
 have hb3:(i:Int)≤(l.length:Int)+1:=by omega
 have hb4:¬(cap=i):=by omega
 have hb5:(l.length:Int)+1≤(cap:Int):=by omega
 have hb6:(0:Int)≤(l.length:Int)+1:=by omega
 have UJ:(i:Int)+1≤(l.length:Int)+1:=by omega
 have hx:(l.flatMap aJ).length=l.length * 3:=dX l
 have hcl:cur.toList.length=cap * 3:=by rw [Array.length_toList];exact h3
 have hdl:((l.flatMap aJ).drop (i * 3)).length=l.length * 3-i * 3:=by rw [List.length_drop,hx]
 have hcp1:∀ty dc sc,(Builtin.copy_ #[140,140] ty #[.slice (some ⟨g,i * 3+3,none⟩) (l.length-i) dc,.slice (some ⟨g,i * 3,none⟩) (l.length+1-i) sc]).run Tryz.prog w.drew=.ok (goInt _) _:=fun ty dc sc=>
  dO w.drew 140 140 ty 131 3 g (i * 3+3) (l.length-i) dc ⟨g,i * 3,none⟩ (l.length+1-i) sc cur 131 ((l.flatMap aJ).drop (i * 3)) Tryz.underlying140 hsz hg
   (by rw [hdl];show _=min _ _ * 3;omega) (fun j u hu=>by
    rw [addr_add]
    rw [List.getElem?_drop] at hu
    exact aZ hown _ u hu) (by rw [hdl,h3];omega) (fun u hu=>rM l u (List.mem_of_mem_drop hu))
 rw [hdl] at hcp1
 obtain⟨C1,lN⟩:∃C1:List Value,C1=cur.toList.take (i * 3+3)++(l.flatMap aJ).drop (i * 3)++cur.toList.drop (i * 3+3+(l.length * 3-i * 3)):=⟨_,rfl⟩
 rw [←lN] at hcp1
 have jq:C1.length=cap * 3:=by rw [lN];simp only [List.length_append,List.length_take,List.length_drop,hcl,hx];omega
 have hg1:(w.drew.setRow g C1.toArray).heap[g]? = some (.cells C1.toArray 131 (0,0)):=setRow_heap w.drew g cur C1.toArray 131 (0,0) hg
 have o1:Only (fun k=>k=g) w (w.drew.setRow g C1.toArray):=((Only.refl (fun k=>k=g) w).drew).setRow (g:=g) (fun _=>rfl) _
 have hvb:vb<w.heap.size:=(Array.getElem?_eq_some_iff.1 hv).1
 have hv1:(w.drew.setRow g C1.toArray).heap[vb]? = some (.cells (aJ x).toArray 131 (0,0)):=(o1.block vb hvb hne).trans hv
 have hcp2:∀ty dc,(Builtin.copy_ #[140,140] ty #[.slice (some ⟨g,i * 3,none⟩) (l.length+1-i) dc,.slice (some ⟨vb,0,none⟩) 1 1]).run Tryz.prog (w.drew.setRow g C1.toArray)=.ok (goInt _) _:=fun ty dc=>
  dO (w.drew.setRow g C1.toArray) 140 140 ty 131 3 g (i * 3) (l.length+1-i) dc ⟨vb,0,none⟩ 1 1 C1.toArray 131 (aJ x) Tryz.underlying140 hsz hg1
   (by show 3=min _ _ * 3;omega) (fun j u hu=>by
    rw [addr_add,Nat.zero_add]
    simp [World.cell?,hv1,hu]) (by rw [List.size_toArray,jq];simp only [aJ,List.length_cons,List.length_nil];omega) (nJ x)
 have hfin:(C1.toArray.toList.take (i * 3)++aJ x++C1.toArray.toList.drop (i * 3+(aJ x).length)).take ((l.length+1) * 3)=(l.take i++x :: l.drop i).flatMap aJ:=by
  have:=Dv cur.toList (l.flatMap aJ) (aJ x) (i * 3) 3 (l.length * 3) h4 (by rw [hcl];omega) (by omega) rfl
  rw [←lN] at this
  rw [show (l.length+1) * 3=l.length * 3+3 by omega]
  show (C1.take (i * 3)++aJ x++C1.drop (i * 3+3)).take _=_
  rw [this,sW,sZ]
  simp
 have kQ:(C1.toArray.toList.take (i * 3)++aJ x++C1.toArray.toList.drop (i * 3+(aJ x).length)).length=cap * 3:=by
  simp only [List.length_append,List.length_take,List.length_drop,jq,aJ,List.length_cons,List.length_nil];omega
 obtain⟨C2,hC2⟩:∃C2:List Value,C2=C1.toArray.toList.take (i * 3)++aJ x++C1.toArray.toList.drop (i * 3+(aJ x).length):=⟨_,rfl⟩
 rw [←hC2] at hcp2 hfin kQ
 have hg2:=setRow_heap (w.drew.setRow g C1.toArray) g C1.toArray C2.toArray 131 (0,0) hg1
 have HF:Hid (((w.drew.setRow g C1.toArray).setRow g C2.toArray).ownsRow 0 131 3 (.slice (some ⟨g,0,none⟩) (l.length+1) cap) (l.length+1) ((l.take i++x :: l.drop i).flatMap aJ)∧Only (fun k=>k=g) w ((w.drew.setRow g C1.toArray).setRow g C2.toArray)):=
  Lib.hid ⟨eZ hg2 hroom h2 (by rw [List.size_toArray,kQ]) hfin,o1.setRow (g:=g) (fun _=>rfl) _⟩
 clear hown h3 h4 hg hv lN jq hg1 o1 hv1 hfin kQ hC2 hg2 hcl hdl hx
 go_enter Tryz.func216,Tryz.ntmps216
 go_wp2_with (simp only [hov])
 go_region_law (refine dz rfl _ _ 140 140 rfl (.slice (some ⟨g,i * 3+3,none⟩) (l.length-i) (cap-(i+1))) (.slice (some ⟨g,i * 3,none⟩) (l.length+1-i) (cap-i)) (by simp [Act.eval,Act.put]) (by simp [Act.eval,Act.put]) (hcp1 _ _ _) ?_)
 go_wp2_with (at_builtin;refine bX _ rfl _ _ 140 140 rfl _ _ rfl rfl (hcp2 _ _) ?_)
 go_ret
 exact⟨rfl,HF.out⟩
end
section
open Go.RowKit
theorem BL (g cap:Nat) (l:List Item) (x:Item) (i vb:Nat) (w:World) (hi:i<l.length) (hroom:cap<l.length+1) (hown:w.ownsRow 0 131 3 (.slice (some ⟨g,0,none⟩) l.length cap) l.length (l.flatMap aJ))
 (hv:w.heap[vb]? = some (.cells (aJ x).toArray 131 (0,0))) (hn:l.length≤1073741824) :
 Calls Tryz.prog 216 #[.slice (some ⟨g,0,none⟩) l.length cap,.int .i64 i,.slice (some ⟨vb,0,none⟩) 1 1] w fun e w'=>∃gc,e=.returned (.slice (some ⟨w.heap.size,0,none⟩) (l.length+1) gc)∧w'.ownsRow 0 131 3 (.slice (some ⟨w.heap.size,0,none⟩) (l.length+1) gc) (l.length+1) ((l.take i++x :: l.drop i).flatMap aJ)∧Only (fun _=>False) w w':=by
 obtain⟨i0,hi0,hz0,hz1,hz2⟩:=info_parts nA
 have hsz:(Tryz.prog.info? 131).map (·.size)=some 3:=by kernel_rfl
 obtain⟨cur,hg,h1,h2,h3,h4⟩:=dD hown
 have hgw:g<w.heap.size:=mK hown
 have hvw:vb<w.heap.size:=(Array.getElem?_eq_some_iff.1 hv).1
 have hc63:cap≤9223372036854775807:=by unfold maxLen at h2;omega
 have Xy:¬((i:Int)=(l.length:Int)):=by omega
 have hz3:(cap:Int)<(l.length:Int)+1:=by omega
 have hw0:IntKind.i64.wrap ((l.length:Int)+1)=(l.length:Int)+1:=by exact IntWalk.i64_in _ (by omega)
 have hw1:IntKind.i64.wrap ((i:Int)+1)=(i:Int)+1:=by exact IntWalk.i64_in _ (by omega)
 have hw2:IntKind.i64.wrap ((l.length:Int)+1-(i:Int))=(l.length:Int)+1-(i:Int):=by exact IntWalk.i64_in _ (by omega)
 have hkk:(l.length:Int)+1-(i:Int)=((l.length+1-i:Nat):Int):=by omega
 have hik:i+(l.length+1-i)=l.length+1:=by omega
 have hb1:(0:Int)≤(i:Int)+1:=by omega
 have hin:i≤l.length:=by omega
 have htn:((i:Int)+1).toNat=i+1:=by omega
 have hb4:¬(cap=i):=by omega
 have UJ:(i:Int)+1≤(l.length:Int)+1:=by omega
 have PG:(i:Int)≤(cap:Int):=by omega
 have Xz:(i:Int)≤(l.length:Int)+1:=by omega
 have hx:(l.flatMap aJ).length=l.length * 3:=dX l
 have hold:(Builtin.firstCells i0.size i (.slice (some ⟨g,0,none⟩) i cap)).run Tryz.prog w.drew=.ok ((l.flatMap aJ).take (i * 3)).toArray w.drew:=by
  rw [hz1]
  exact run_firstCells_some w.drew 3 i ⟨g,0,none⟩ i cap ((l.flatMap aJ).take (i * 3)) (by rw [List.length_take,hx];omega) (fun j u hu=>by
   rw [addr_add,Nat.zero_add]
   rw [List.getElem?_take] at hu
   split at hu
   ·exact aZ hown _ u hu
   ·cases hu)
 have hrz:∀ty,(Builtin.append_ #[140,3] ty #[.slice (some ⟨g,0,none⟩) i cap,.int .i64 ((l.length:Int)+1-(i:Int))]).run Tryz.prog w =
  .ok (.slice (some ⟨w.heap.size,0,none⟩) (l.length+1) (grownCap w (l.length+1) cap 131)) (w.drew.alloc (.cells (((l.flatMap aJ).take (i * 3)).toArray++Builtin.zeroCells (Value.agg #[str [],str [],.int .i64 0]).cells (l.length+1-i)++Builtin.zeroCells (Value.agg #[str [],str [],.int .i64 0]).cells (grownCap w (l.length+1) cap 131-(l.length+1))) 131)):=fun ty=>by
  have h:=Lib.run_append_grow_zeros w 140 3 ty 131 i0 _ .i64 .i64 Tryz.underlying140 Tryz.underlying3 hi0 hz0 (some ⟨g,0,none⟩) i cap ((l.flatMap aJ).take (i * 3)) hold (l.length+1-i) (by omega) (by omega) (by omega) (by omega) (by rw [hz2];omega) (by rw [hz2,hik];exact growslice_fits hroom (by omega))
  rw [hik] at h
  rw [hkk]
  exact h
 have hGn:l.length+1≤grownCap w (l.length+1) cap 131:=grownCap_ge w _ _ _
 have KC:grownCap w (l.length+1) cap 131≤maxLen:=grownCap_le_maxLen w _ _ _ (by unfold maxLen;omega)
 generalize grownCap w (l.length+1) cap 131=G at *
 obtain⟨R,hR⟩:∃R:Array Value,R=((l.flatMap aJ).take (i * 3)).toArray++Builtin.zeroCells (Value.agg #[str [],str [],.int .i64 0]).cells (l.length+1-i)++Builtin.zeroCells (Value.agg #[str [],str [],.int .i64 0]).cells (G-(l.length+1)):=⟨_,rfl⟩
 rw [←hR] at hrz
 have hzl:(Value.agg #[str [],str [],.int .i64 0]).cells.size=3:=rfl
 have hRl:R.size=G * 3:=by
  rw [hR]
  simp only [Array.size_append,Builtin.zeroCells,Array.size_map,Array.size_range,hzl,List.size_toArray,List.length_take,hx]
  omega
 have OH:R.toList.take (i * 3)=(l.flatMap aJ).take (i * 3):=by
  rw [hR]
  simp only [Array.toList_append,List.append_assoc]
  have hl:((l.flatMap aJ).take (i * 3)).length=i * 3:=by rw [List.length_take,hx];omega
  have:=List.take_left (l₁:=(l.flatMap aJ).take (i * 3)) (l₂:=(Builtin.zeroCells (Value.agg #[str [],str [],.int .i64 0]).cells (l.length+1-i)).toList++(Builtin.zeroCells (Value.agg #[str [],str [],.int .i64 0]).cells (G-(l.length+1))).toList)
  rwa [hl] at this
 clear hR
 have hG63:G≤9223372036854775807:=by unfold maxLen at KC;omega
 have hGi:¬(G=i):=by omega
 have RL:¬(G=i+1):=by omega
 have V6:(l.length:Int)+1≤(G:Int):=by omega
 obtain⟨C1,lN⟩:∃C1:List Value,C1=R.toList.take (i * 3)++aJ x++R.toList.drop (i * 3+3):=⟨_,rfl⟩
 have yR:R.toList.length=G * 3:=by rw [Array.length_toList];exact hRl
 have jq:C1.length=G * 3:=by rw [lN];simp only [List.length_append,List.length_take,List.length_drop,yR,aJ,List.length_cons,List.length_nil];omega
 have hcpA:∀W:World,W.heap=(w.alloc (.cells R 131)).heap→∀ty dc,(Builtin.copy_ #[140,140] ty #[.slice (some ⟨w.heap.size,i * 3,none⟩) (l.length+1-i) dc,.slice (some ⟨vb,0,none⟩) 1 1]).run Tryz.prog W=.ok (goInt (Nat.min 1 (l.length+1-i))) (W.setRow w.heap.size C1.toArray):=fun W hW ty dc=>by
  have wC:W.heap[w.heap.size]? = some (.cells R 131 (0,0)):=by rw [hW];exact heap_alloc_new _ _
  have PX:W.heap[vb]? = some (.cells (aJ x).toArray 131 (0,0)):=by rw [hW,((Only.refl (fun _=>False) w).alloc (.cells R 131)).block vb hvw id];exact hv
  have wZ:C1=R.toList.take (i * 3)++aJ x++R.toList.drop (i * 3+(aJ x).length):=lN
  rw [wZ]
  exact dO W 140 140 ty 131 3 w.heap.size (i * 3) (l.length+1-i) dc ⟨vb,0,none⟩ 1 1 R 131 (aJ x) Tryz.underlying140 hsz wC
   (by show 3=min _ _ * 3;omega) (fun j u hu=>by
    rw [addr_add,Nat.zero_add]
    simp [World.cell?,PX,hu]) (by rw [hRl];simp only [aJ,List.length_cons,List.length_nil];omega) (nJ x)
 have hdl:((l.flatMap aJ).drop (i * 3)).length=l.length * 3-i * 3:=by rw [List.length_drop,hx]
 obtain⟨C2,hC2⟩:∃C2:List Value,C2=C1.take (i * 3+3)++(l.flatMap aJ).drop (i * 3)++C1.drop (i * 3+3+(l.length * 3-i * 3)):=⟨_,rfl⟩
 have kQ:C2.length=G * 3:=by rw [hC2];simp only [List.length_append,List.length_take,hdl,List.length_drop,jq];omega
 have hcpB:∀W:World,W.heap=((w.alloc (.cells R 131)).setRow w.heap.size C1.toArray).heap→∀ty dc sc,(Builtin.copy_ #[140,140] ty #[.slice (some ⟨w.heap.size,i * 3+3,none⟩) (l.length-i) dc,.slice (some ⟨g,i * 3,none⟩) (l.length-i) sc]).run Tryz.prog W=.ok (goInt (Nat.min (l.length-i) (l.length-i))) (W.setRow w.heap.size C2.toArray):=fun W hW ty dc sc=>by
  have wC:W.heap[w.heap.size]? = some (.cells C1.toArray 131 (0,0)):=by rw [hW];exact setRow_heap (w.alloc (.cells R 131)) w.heap.size R C1.toArray 131 (0,0) (heap_alloc_new _ _)
  have RN:W.heap[g]? = w.heap[g]?:=by
   rw [hW]
   exact(((Only.refl (fun _=>False) w).alloc (.cells R 131)).setRow (g:=w.heap.size) (fun q=>by omega) C1.toArray).block g hgw id
  have yC:C2=C1.toArray.toList.take (i * 3+3)++(l.flatMap aJ).drop (i * 3)++C1.toArray.toList.drop (i * 3+3+((l.flatMap aJ).drop (i * 3)).length):=by rw [hdl];exact hC2
  rw [yC]
  exact dO W 140 140 ty 131 3 w.heap.size (i * 3+3) (l.length-i) dc ⟨g,i * 3,none⟩ (l.length-i) sc C1.toArray 131 ((l.flatMap aJ).drop (i * 3)) Tryz.underlying140 hsz wC
   (by rw [hdl];show _=min _ _ * 3;omega) (fun j u hu=>by
    rw [addr_add]
    rw [List.getElem?_drop] at hu
    exact(World.cell?_of_block RN).trans (aZ hown _ u hu)) (by rw [hdl,List.size_toArray,jq];omega) (fun u hu=>rM l u (List.mem_of_mem_drop hu))
 have hfin:C2.toArray.toList.take ((l.length+1) * 3)=(l.take i++x :: l.drop i).flatMap aJ:=by
  have:=Dw R.toList (l.flatMap aJ) (aJ x) (i * 3) 3 (l.length * 3) OH (by rw [yR];omega) hx (by omega) rfl
  rw [←lN,←hC2] at this
  rw [show (l.length+1) * 3=l.length * 3+3 by omega]
  show C2.take _=_
  rw [this,sW,sZ]
  simp
 have HF:Hid (∀W:World,W.heap=(((w.alloc (.cells R 131)).setRow w.heap.size C1.toArray).setRow w.heap.size C2.toArray).heap→W.os=w.os→W.tape=w.tape→W.output=w.output→
  W.ownsRow 0 131 3 (.slice (some ⟨w.heap.size,0,none⟩) (l.length+1) G) (l.length+1) ((l.take i++x :: l.drop i).flatMap aJ)∧Only (fun _=>False) w W):=Lib.hid (fun W hW e1 e2 e3=>by
  have hg1:=setRow_heap (w.alloc (.cells R 131)) w.heap.size R C1.toArray 131 (0,0) (heap_alloc_new _ _)
  have hg2:=setRow_heap _ w.heap.size C1.toArray C2.toArray 131 (0,0) hg1
  have o:=(((Only.refl (fun _=>False) w).alloc (.cells R 131)).setRow (g:=w.heap.size) (fun q=>by omega) C1.toArray).setRow (g:=w.heap.size) (fun q=>by omega) C2.toArray
  exact⟨eZ (by rw [hW];exact hg2) hGn KC (by rw [List.size_toArray,kQ]) hfin,e1,e2,e3,by rw [hW];exact o.size,fun k hk hs=>by rw [hW];exact o.block k hk hs⟩)
 have HA:=Lib.hid hcpA
 have HB:=Lib.hid hcpB
 clear hown h3 h4 hg hv lN jq hfin kQ hC2 hdl hx hold hRl OH yR hkk hik KC hcpA hcpB
 go_enter Tryz.func216,Tryz.ntmps216
 go_wp2_with (first |(at_builtin;refine Lib.wpList_append_run _ rfl _ _ _ _ rfl _ _ rfl rfl _ _ (hrz _) ?_) |(refine bX _ rfl _ _ 140 140 rfl _ _ rfl rfl (HA.out _ (by rfl) _ _) ?_))
 go_region_law (refine dz rfl _ _ 140 140 rfl (.slice (some ⟨w.heap.size,i * 3+3,none⟩) (l.length-i) (G-(i+1))) (.slice (some ⟨g,i * 3,none⟩) (l.length-i) (cap-i)) (by simp [Act.eval,Act.put]) (by simp [Act.eval,Act.put]) (HB.out _ (by rfl) _ _ _) ?_)
 go_wp2_with fail
 go_ret
 exact⟨G,rfl,HF.out _ rfl rfl rfl rfl⟩
theorem E8 (sv:Value) (l:List Item) (x:Item) (i vb:Nat) (w:World) (hi:i≤l.length) (hown:w.ownsRow 0 131 3 sv l.length (l.flatMap aJ)) (hne:sv.ownBlock≠some vb)
 (hv:w.heap[vb]? = some (.cells (aJ x).toArray 131 (0,0))) (hn:l.length≤1073741824) :
 Calls Tryz.prog 216 #[sv,.int .i64 i,.slice (some ⟨vb,0,none⟩) 1 1] w fun e w'=>∃v',e=.returned v'∧w'.ownsRow 0 131 3 v' (l.length+1) ((l.take i++x :: l.drop i).flatMap aJ)∧Only (fun k=>sv.ownBlock=some k) w w'∧Moved w sv v':=by
 by_cases h:i=l.length
 ·subst h
  refine(Dx sv l x vb w hown hv hn).mono fun e w' ⟨v',e1,o,g,m⟩=>⟨v',e1,?_,(Only.refl _ w).grown g fun k _ q=>q,m⟩
  rw [List.take_length,List.drop_length]
  exact o
 ·rcases hown.2 with ⟨rfl,h0⟩ |⟨g,cap,cur,rfl,_⟩
  ·omega
  ·by_cases hr:l.length+1≤cap
   ·refine(BK g cap l x i vb w (by omega) (fun q=>hne (by rw [q];rfl)) hr hown hv hn).mono fun e w' ⟨e1,o,q⟩=>⟨_,e1,o,q.mono fun k _ hk=>by rw [hk];rfl,fun k hk=>.inl hk⟩
   ·refine(BL g cap l x i vb w (by omega) (by omega) hown hv hn).mono fun e w' ⟨gc,e1,o,q⟩=>⟨_,e1,o,q.mono fun k _ hk=>hk.elim,fun k hk=>.inr ?_⟩
    have:=Option.some.inj (show some w.heap.size=some k from hk)
    omega
end
end Go.Proofs.YtbhiamcmiopnoaaGreatDoor
