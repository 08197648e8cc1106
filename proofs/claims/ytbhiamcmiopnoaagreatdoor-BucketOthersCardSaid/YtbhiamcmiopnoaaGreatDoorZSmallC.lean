/- Small laws on rows and on the law's pages as an interface. Conditions: none. -/
import Derived.Test.YtbhiamcmiopnoaaGreatDoorZTreeC
import Derived.BigQuiet
import Derived.Maps.OwnOps
import Derived.Maps.Views
namespace Go.Proofs.YtbhiamcmiopnoaaGreatDoor
section
open Go.RowKit
theorem A9 (l:List Item):∀u∈l.flatMap aJ,u.oneCell'=true:=by
 intro u hu
 obtain⟨x,_,hu⟩:=List.mem_flatMap.1 hu
 simp only [aJ,List.mem_cons,List.not_mem_nil,or_false] at hu
 rcases hu with rfl | rfl | rfl<;>rfl
theorem pR {P:Program} (w:World) {ops:Array Oper} {o:Oper} {a:Act} {K:Act→World→Prop} {Q:Exit→Act→World→Prop} {E:Prop} (hgd:o.guard=none) (s x:Operand) (t:TypeId)
 (ho:o.op=.call { callee:=.builtin .append,args:=#[s,x],argTypes:=#[t,t] })
 (e:TypeId) (i:TypeInfo) (z:Value) (size bytes:Nat) (ht:P.underlying t=some (.slice e)) (hi:P.info? e=some i) (hz:i.zero=some z)
 (hsize:i.size=size) (hby:i.bytes=bytes) (hzs:z.cells.size=size) (hsz:0<size)
 (v:Value) (n:Nat) (xs:List Value) (hs:a.eval s=v) (hown:w.ownsRow 0 e size v n xs)
 (ao:Option Addr) (m c:Nat) (news:List Value) (hx:a.eval x=.slice ao m c) (hl:news.length=m * size) (hnone:ao=none→m=0∧c=0)
 (hnews:∀ad,ao=some ad→∀j u,news[j]? = some u→w.cell? (ad.add j)=some u) (h1:∀u∈news,u.oneCell'=true)
 (h63:n+m≤maxLen) (hbytes:(n+m) * bytes≤140737488355328)
 (h:∀a' c' w',w'.ownsRow 0 e size (.slice a' (n+m) c') (n+m) (xs++news)→w.grownBy w' v.ownBlock→Moved w v (.slice a' (n+m) c')→K (a.put o.dst (.slice a' (n+m) c')) w') :
 if Region.wanted o (yielded ops a.tmps)=true then o.wp P a w K Q else E:=by
 cases ao with
 | some ad=>exact dF w hgd s x t ho e i z size bytes ht hi hz hsize hby hzs hsz v n xs hs hown ad m c news hx hl (hnews ad rfl) h1 h63 hbytes h
 | none=>
  obtain⟨rfl,rfl⟩:=hnone rfl
  have hnn:news=[]:=List.eq_nil_of_length_eq_zero (by simpa using hl)
  subst hnn
  have hw:Region.wanted o (yielded ops a.tmps)=true:=by simp [Region.wanted,hgd]
  rw [if_pos hw]
  have hrun:=run_append_owned_none (P:=P) w 0 t o.type e i size ht hi v n xs hown
  obtain⟨a',c',rfl⟩:=ownsRow_form hown
  unfold Oper.wp execOp
  simp only [ho,resolve,invoke,builtin,Sem.run_bind,Sem.run_pure,Result.andThen_ok,List.map_toArray,List.map_cons,List.map_nil,hs,hx,hrun]
  have:=h a' c' w
  simp only [Nat.add_zero,List.append_nil] at this
  exact this hown ⟨rfl,rfl,rfl,Nat.le_refl _,fun _ _ _=>rfl⟩ (fun k hk=>.inl hk)
end
section
open Go.RowKit
structure fD (b:Nat) (F F':Nat→Prop) (w w':World):Prop where
 only:Only (fun k=>F k∨bn w b k) w w'
 grow:∀k,F' k→F k∨w.heap.size≤k
 own:∀k,bn w' b k→bn w b k∨w.heap.size≤k
theorem fD.refl (b:Nat) (F:Nat→Prop) (w:World):fD b F F w w:=⟨Only.refl _ w,fun _ h=>.inl h,fun _ h=>.inl h⟩
theorem fD.trans {b:Nat} {F F1 F2:Nat→Prop} {w w1 w2:World} (h:fD b F F1 w w1) (k:fD b F1 F2 w1 w2):fD b F F2 w w2:=by
 have hs:=h.only.size
 refine⟨h.only.trans k.only fun i hi q=>?_,fun i q=>?_,fun i q=>?_⟩
 ·rcases q with q | q
  ·exact .inl ((h.grow i q).resolve_right (by omega))
  ·exact .inr ((h.own i q).resolve_right (by omega))
 ·rcases k.grow i q with q | q
  ·exact h.grow i q
  ·exact .inr (by omega)
 ·rcases k.own i q with q | q
  ·exact h.own i q
  ·exact .inr (by omega)
theorem fD.still {b:Nat} {F:Nat→Prop} {w w':World} (hb:b<w.heap.size) (ho:Only (fun _=>False) w w'):fD b F F w w':=
 ⟨ho.mono fun _ _ q=>q.elim,fun _ q=>.inl q,fun k q=>.inl ((aD (ho.block b hb id) k).1 q)⟩
end
section
open Go.RowKit
theorem pI:Go.Maps.Keyed Tryz.prog 3:=Go.Maps.int_keyed Tryz.underlying3
theorem Js (w:World):(zeroValue 4).run Tryz.prog w=.ok (.bool false) w:=by kernel_rfl
theorem rA {P:Program} {e:TypeId} (he:P.underlying e=some .bool) {v:Value} {z:DataW Unit×List MemPlace} (h:plainElem P e v=some z):∃x,v=.bool x∧z=(.lit (.bool x),[]):=by
 unfold plainElem at h
 rw [he] at h
 cases v<;>simp at h
 exact⟨_,rfl,h.symm⟩
def jJ (w:World) (b:Nat) (A:List Int):Prop:=
 ∃D:DataW Unit,w.ownsMap Tryz.prog 3 (plainElem Tryz.prog 4) b A.length D∧∀(x:Int) (zd:DataW Unit),D.atKey (.int .i64 x) zd=if x∈A then .lit (.bool true) else zd
theorem jJ.made (w:World):jJ (w.alloc (.map #[] 0)) w.heap.size []:=
 ⟨.map [],World.ownsMap_made _ _ _ _,fun x zd=>by simp;rfl⟩
theorem jJ.lt {w:World} {b:Nat} {A:List Int} (h:jJ w b A):b<w.heap.size:=by
 obtain⟨D,h,_⟩:=h
 exact h.lt
theorem jJ.only {w w':World} {b:Nat} {A:List Int} {F:Nat→Prop} (h:jJ w b A) (ho:Only F w w') (hF:¬F b):jJ w' b A:=by
 have hlt:=h.lt
 obtain⟨D,⟨es,clock,hb,r⟩,hA⟩:=h
 exact⟨D,⟨es,clock,(ho.block b hlt hF).trans hb,r⟩,hA⟩
theorem jJ.look {w:World} {b:Nat} {A:List Int} (h:jJ w b A) (i:Int) (hw:(Lit.int .i64 i).wf=true) :
 (Instr.lookup 220 (.map (some b)) (.int .i64 i) false).run Tryz.prog w=.ok (.bool (decide (i∈A))) w:=by
 obtain⟨D,h,hA⟩:=h
 obtain⟨v,ps,hrun,hv⟩:=h.lookup pI Tryz.underlying220 (Js w) (plainElem_bool Tryz.underlying4 false) (Go.Maps.keyOf_int_mk Tryz.underlying3 hw)
 obtain⟨x,rfl,hx⟩:=rA Tryz.underlying4 hv
 rw [hA i] at hx
 have hx2:decide (i∈A)=x:=by
  have h3:=congrArg Prod.fst hx
  simp only at h3
  by_cases hi:i∈A
  ·rw [if_pos hi] at h3
   simp only [DataW.lit.injEq,Lit.bool.injEq] at h3
   rw [←h3,decide_eq_true hi]
  ·rw [if_neg hi] at h3
   simp only [DataW.lit.injEq,Lit.bool.injEq] at h3
   rw [←h3,decide_eq_false hi]
 rw [hx2]
 exact hrun
theorem jJ.Cr {w:World} {b:Nat} {A:List Int} (h:jJ w b A) (i:Int) (hw:(Lit.int .i64 i).wf=true) (hn:i∉A) :
 (Instr.lookup 220 (.map (some b)) (.int .i64 i) false).run Tryz.prog w=.ok (.bool false) w:=by
 rw [h.look i hw,decide_eq_false hn]
theorem jJ.put {w:World} {b:Nat} {A:List Int} (h:jJ w b A) (i:Int) (hw:(Lit.int .i64 i).wf=true) (hn:A.length<maxLen) :
 ∃w',(Instr.mapUpdate 220 (.map (some b)) (.int .i64 i) (.bool true)).run Tryz.prog w=.ok () w'∧jJ w' b (i :: A)∧Only (fun k=>k=b) w w':=by
 obtain⟨D,h,hA⟩:=h
 obtain⟨w',hrun,ho,hg⟩:=h.update pI Tryz.underlying220 hn (Go.Maps.keyOf_int_mk Tryz.underlying3 hw) (plainElem_bool Tryz.underlying4 true)
 have hm:Go.Maps.IsMap D:=by
  obtain⟨es,clock,_,_,_,rfl⟩:=h
  exact⟨_,rfl⟩
 refine⟨w',hrun,⟨_,ho,fun x zd=>?_⟩,(Only.refl (fun k=>k=b) w).grown hg (fun k _ q=>(Option.some.inj q).symm)⟩
 by_cases hx:x=i
 ·subst hx
  rw [Go.Maps.atKey_put_same hm (pI.key (Go.Maps.keyOf_int_mk Tryz.underlying3 hw))]
  simp
 ·rw [Go.Maps.atKey_put_other (by intro q;injection q with _ q;exact hx q),hA x]
  simp [hx]
end
end Go.Proofs.YtbhiamcmiopnoaaGreatDoor
