/- Rows of children: Go's slices.Insert, on all its roads. Conditions: fewer than 2^30 children. -/
import Derived.Test.YtbhiamcmiopnoaaGreatDoorZTwig5
set_option maxHeartbeats 4000000
set_option maxRecDepth 100000
namespace Go.Proofs.YtbhiamcmiopnoaaGreatDoor
open Go.RowKit
theorem DI (sv:Value) (l:List Kid) (x:Kid) (vb:Nat) (w:World) (hown:w.ownsRow 0 185 2 sv l.length (l.flatMap aR)) (hv:w.heap[vb]? = some (.cells (aR x).toArray 185 (0,0))) (hn:l.length≤1073741824) :
 Calls Tryz.prog 221 #[sv,.int .i64 l.length,.slice (some ⟨vb,0,none⟩) 1 1] w fun e w'=>∃v',e=.returned v'∧w'.ownsRow 0 185 2 v' (l.length+1) ((l++[x]).flatMap aR)∧w.grownBy w' sv.ownBlock∧Moved w sv v':=by
 obtain⟨i0,hi,hz0,hz1,hz2⟩:=info_parts kF
 have HOWN:=Lib.hid hown
 have hcells:∀j u,(aR x)[j]? = some u→w.cell? ((⟨vb,0,none⟩:Addr).add j)=some u:=fun j u hu=>by
  rw [addr_add,Nat.zero_add]
  simp [World.cell?,hv,hu]
 have p9:=Lib.hid hcells
 obtain⟨a,c,rfl⟩:=ownsRow_form hown
 have hcap:l.length≤c:=by
  rcases hown.2 with ⟨h1,h2⟩ |⟨g,cap,cur,h1,_,_,h2,_⟩
  ·injection h1 with q1 q2 q3;omega
  ·injection h1 with q1 q2 q3;omega
 have hmax:l.length+1≤maxLen:=by unfold maxLen;omega
 clear hown hcells hv
 cases a with
 | none=>
  go_enter Tryz.func221,Tryz.ntmps221
  go_wp2_with (at_builtin;refine aM _ rfl _ _ 163 rfl 185 i0 _ 2 24 Tryz.underlying163 hi hz0 hz1 hz2 rfl (by decide) _ _ _ rfl HOWN.out ⟨vb,0,none⟩ 1 1 (aR x) rfl rfl p9.out (qI x) hmax (by omega) ?_;intro a' c' wx hown2 hgr hmv;have HX:=Lib.hid (And.intro hown2 (And.intro hgr hmv));clear hown2 hgr hmv)
  go_ret
  obtain⟨hown2,hgr,hmv⟩:=HX.out
  exact⟨.slice a' (l.length+1) c',rfl,by simpa using hown2,hgr,hmv⟩
 | some p=>
  go_enter Tryz.func221,Tryz.ntmps221
  go_wp2_with (at_builtin;refine aM _ rfl _ _ 163 rfl 185 i0 _ 2 24 Tryz.underlying163 hi hz0 hz1 hz2 rfl (by decide) _ _ _ rfl HOWN.out ⟨vb,0,none⟩ 1 1 (aR x) rfl rfl p9.out (qI x) hmax (by omega) ?_;intro a' c' wx hown2 hgr hmv;have HX:=Lib.hid (And.intro hown2 (And.intro hgr hmv));clear hown2 hgr hmv)
  all_goals
   go_ret
   obtain⟨hown2,hgr,hmv⟩:=HX.out
   exact⟨.slice a' (l.length+1) c',rfl,by simpa using hown2,hgr,hmv⟩
theorem BO (g cap:Nat) (l:List Kid) (x:Kid) (i vb:Nat) (w:World) (hi:i<l.length) (hne:vb≠g) (hroom:l.length+1≤cap) (hown:w.ownsRow 0 185 2 (.slice (some ⟨g,0,none⟩) l.length cap) l.length (l.flatMap aR))
 (hv:w.heap[vb]? = some (.cells (aR x).toArray 185 (0,0))) (hn:l.length≤1073741824) :
 Calls Tryz.prog 221 #[.slice (some ⟨g,0,none⟩) l.length cap,.int .i64 i,.slice (some ⟨vb,0,none⟩) 1 1] w fun e w'=>e=.returned (.slice (some ⟨g,0,none⟩) (l.length+1) cap)∧w'.ownsRow 0 185 2 (.slice (some ⟨g,0,none⟩) (l.length+1) cap) (l.length+1) ((l.take i++x :: l.drop i).flatMap aR)∧Only (fun k=>k=g) w w':=by
 have hsz:(Tryz.prog.info? 185).map (·.size)=some 2:=by kernel_rfl
 obtain⟨cur,hg,h1,h2,h3,h4⟩:=dD hown
 have hov:∀o lb cb,(callFunc 231 #[.slice (some ⟨vb,0,none⟩) 1 1,.slice (some ⟨g,o,none⟩) lb cb]).run Tryz.prog w=.ok (.value (.bool false)) w:=fun o lb cb=>IK w g vb o 1 1 lb cb hne hg hv (by omega)
 have hc63:cap≤9223372036854775807:=by unfold maxLen at h2;omega
 have hz2:¬((i:Int)=(l.length:Int)):=by omega
 have hz3:¬((cap:Int)<(l.length:Int)+1):=by omega
 have hw0:IntKind.i64.wrap ((l.length:Int)+1)=(l.length:Int)+1:=by exact IntWalk.i64_in _ (by omega)
 have hw1:IntKind.i64.wrap ((i:Int)+1)=(i:Int)+1:=by exact IntWalk.i64_in _ (by omega)
 have hb1:(0:Int)≤(i:Int)+1:=by omega
 have hin:i≤l.length:=by omega
 have htn:((i:Int)+1).toNat=i+1:=by omega
 have htl:((l.length:Int)+1).toNat=l.length+1:=by omega
 have hb2:¬(cap=i+1):=by omega
 have hb3:(i:Int)≤(l.length:Int)+1:=by omega
 have hb4:¬(cap=i):=by omega
 have hb5:(l.length:Int)+1≤(cap:Int):=by omega
 have hb6:(0:Int)≤(l.length:Int)+1:=by omega
 have UJ:(i:Int)+1≤(l.length:Int)+1:=by omega
 have hx:(l.flatMap aR).length=l.length * 2:=dH l
 have hcl:cur.toList.length=cap * 2:=by rw [Array.length_toList];exact h3
 have hdl:((l.flatMap aR).drop (i * 2)).length=l.length * 2-i * 2:=by rw [List.length_drop,hx]
 have hcp1:∀ty dc sc,(Builtin.copy_ #[163,163] ty #[.slice (some ⟨g,i * 2+2,none⟩) (l.length-i) dc,.slice (some ⟨g,i * 2,none⟩) (l.length+1-i) sc]).run Tryz.prog w.drew=.ok (goInt _) _:=fun ty dc sc=>
  dO w.drew 163 163 ty 185 2 g (i * 2+2) (l.length-i) dc ⟨g,i * 2,none⟩ (l.length+1-i) sc cur 185 ((l.flatMap aR).drop (i * 2)) Tryz.underlying163 hsz hg
   (by rw [hdl];show _=min _ _ * 2;omega) (fun j u hu=>by
    rw [addr_add]
    rw [List.getElem?_drop] at hu
    exact aZ hown _ u hu) (by rw [hdl,h3];omega) (fun u hu=>gq l u (List.mem_of_mem_drop hu))
 rw [hdl] at hcp1
 obtain⟨C1,lN⟩:∃C1:List Value,C1=cur.toList.take (i * 2+2)++(l.flatMap aR).drop (i * 2)++cur.toList.drop (i * 2+2+(l.length * 2-i * 2)):=⟨_,rfl⟩
 rw [←lN] at hcp1
 have jq:C1.length=cap * 2:=by rw [lN];simp only [List.length_append,List.length_take,List.length_drop,hcl,hx];omega
 have hg1:(w.drew.setRow g C1.toArray).heap[g]? = some (.cells C1.toArray 185 (0,0)):=setRow_heap w.drew g cur C1.toArray 185 (0,0) hg
 have o1:Only (fun k=>k=g) w (w.drew.setRow g C1.toArray):=((Only.refl (fun k=>k=g) w).drew).setRow (g:=g) (fun _=>rfl) _
 have hvb:vb<w.heap.size:=(Array.getElem?_eq_some_iff.1 hv).1
 have hv1:(w.drew.setRow g C1.toArray).heap[vb]? = some (.cells (aR x).toArray 185 (0,0)):=(o1.block vb hvb hne).trans hv
 have hcp2:∀ty dc,(Builtin.copy_ #[163,163] ty #[.slice (some ⟨g,i * 2,none⟩) (l.length+1-i) dc,.slice (some ⟨vb,0,none⟩) 1 1]).run Tryz.prog (w.drew.setRow g C1.toArray)=.ok (goInt _) _:=fun ty dc=>
  dO (w.drew.setRow g C1.toArray) 163 163 ty 185 2 g (i * 2) (l.length+1-i) dc ⟨vb,0,none⟩ 1 1 C1.toArray 185 (aR x) Tryz.underlying163 hsz hg1
   (by show 2=min _ _ * 2;omega) (fun j u hu=>by
    rw [addr_add,Nat.zero_add]
    simp [World.cell?,hv1,hu]) (by rw [List.size_toArray,jq];simp only [aR,List.length_cons,List.length_nil];omega) (qI x)
 have hfin:(C1.toArray.toList.take (i * 2)++aR x++C1.toArray.toList.drop (i * 2+(aR x).length)).take ((l.length+1) * 2)=(l.take i++x :: l.drop i).flatMap aR:=by
  have:=Dv cur.toList (l.flatMap aR) (aR x) (i * 2) 2 (l.length * 2) h4 (by rw [hcl];omega) (by omega) rfl
  rw [←lN] at this
  rw [show (l.length+1) * 2=l.length * 2+2 by omega]
  show (C1.take (i * 2)++aR x++C1.drop (i * 2+2)).take _=_
  rw [this,iN,j5]
  simp
 have kQ:(C1.toArray.toList.take (i * 2)++aR x++C1.toArray.toList.drop (i * 2+(aR x).length)).length=cap * 2:=by
  simp only [List.length_append,List.length_take,List.length_drop,jq,aR,List.length_cons,List.length_nil];omega
 obtain⟨C2,hC2⟩:∃C2:List Value,C2=C1.toArray.toList.take (i * 2)++aR x++C1.toArray.toList.drop (i * 2+(aR x).length):=⟨_,rfl⟩
 rw [←hC2] at hcp2 hfin kQ
 have hg2:=setRow_heap (w.drew.setRow g C1.toArray) g C1.toArray C2.toArray 185 (0,0) hg1
 have HF:Hid (((w.drew.setRow g C1.toArray).setRow g C2.toArray).ownsRow 0 185 2 (.slice (some ⟨g,0,none⟩) (l.length+1) cap) (l.length+1) ((l.take i++x :: l.drop i).flatMap aR)∧Only (fun k=>k=g) w ((w.drew.setRow g C1.toArray).setRow g C2.toArray)):=
  Lib.hid ⟨eZ hg2 hroom h2 (by rw [List.size_toArray,kQ]) hfin,o1.setRow (g:=g) (fun _=>rfl) _⟩
 clear hown h3 h4 hg hv lN jq hg1 o1 hv1 hfin kQ hC2 hg2 hcl hdl hx
 go_enter Tryz.func221,Tryz.ntmps221
 go_wp2_with (simp only [hov])
 go_region_law (refine dz rfl _ _ 163 163 rfl (.slice (some ⟨g,i * 2+2,none⟩) (l.length-i) (cap-(i+1))) (.slice (some ⟨g,i * 2,none⟩) (l.length+1-i) (cap-i)) (by simp [Act.eval,Act.put]) (by simp [Act.eval,Act.put]) (hcp1 _ _ _) ?_)
 go_wp2_with (at_builtin;refine bX _ rfl _ _ 163 163 rfl _ _ rfl rfl (hcp2 _ _) ?_)
 go_ret
 exact⟨rfl,HF.out⟩
theorem BP (g cap:Nat) (l:List Kid) (x:Kid) (i vb:Nat) (w:World) (hi:i<l.length) (hroom:cap<l.length+1) (hown:w.ownsRow 0 185 2 (.slice (some ⟨g,0,none⟩) l.length cap) l.length (l.flatMap aR))
 (hv:w.heap[vb]? = some (.cells (aR x).toArray 185 (0,0))) (hn:l.length≤1073741824) :
 Calls Tryz.prog 221 #[.slice (some ⟨g,0,none⟩) l.length cap,.int .i64 i,.slice (some ⟨vb,0,none⟩) 1 1] w fun e w'=>∃gc,e=.returned (.slice (some ⟨w.heap.size,0,none⟩) (l.length+1) gc)∧w'.ownsRow 0 185 2 (.slice (some ⟨w.heap.size,0,none⟩) (l.length+1) gc) (l.length+1) ((l.take i++x :: l.drop i).flatMap aR)∧Only (fun _=>False) w w':=by
 obtain⟨i0,hi0,hz0,hz1,hz2⟩:=info_parts kF
 have hsz:(Tryz.prog.info? 185).map (·.size)=some 2:=by kernel_rfl
 obtain⟨cur,hg,h1,h2,h3,h4⟩:=dD hown
 have hgw:g<w.heap.size:=mK hown
 have hvw:vb<w.heap.size:=(Array.getElem?_eq_some_iff.1 hv).1
 have hc63:cap≤9223372036854775807:=by unfold maxLen at h2;omega
 have Xy:¬((i:Int)=(l.length:Int)):=by omega
 have hz3:(cap:Int)<(l.length:Int)+1:=by omega
 have hw0:IntKind.i64.wrap ((l.length:Int)+1)=(l.length:Int)+1:=by exact IntWalk.i64_in _ (by omega)
 have hw1:IntKind.i64.wrap ((i:Int)+1)=(i:Int)+1:=by exact IntWalk.i64_in _ (by omega)
 have hw2:IntKind.i64.wrap ((l.length:Int)+1-(i:Int))=(l.length:Int)+1-(i:Int):=by exact IntWalk.i64_in _ (by omega)
 have hkk:(l.length:Int)+1-(i:Int)=((l.length+1-i:Nat):Int):=by omega
 have hik:i+(l.length+1-i)=l.length+1:=by omega
 have hb1:(0:Int)≤(i:Int)+1:=by omega
 have hin:i≤l.length:=by omega
 have htn:((i:Int)+1).toNat=i+1:=by omega
 have hb4:¬(cap=i):=by omega
 have UJ:(i:Int)+1≤(l.length:Int)+1:=by omega
 have PG:(i:Int)≤(cap:Int):=by omega
 have Xz:(i:Int)≤(l.length:Int)+1:=by omega
 have hx:(l.flatMap aR).length=l.length * 2:=dH l
 have hold:(Builtin.firstCells i0.size i (.slice (some ⟨g,0,none⟩) i cap)).run Tryz.prog w.drew=.ok ((l.flatMap aR).take (i * 2)).toArray w.drew:=by
  rw [hz1]
  exact run_firstCells_some w.drew 2 i ⟨g,0,none⟩ i cap ((l.flatMap aR).take (i * 2)) (by rw [List.length_take,hx];omega) (fun j u hu=>by
   rw [addr_add,Nat.zero_add]
   rw [List.getElem?_take] at hu
   split at hu
   ·exact aZ hown _ u hu
   ·cases hu)
 have hrz:∀ty,(Builtin.append_ #[163,3] ty #[.slice (some ⟨g,0,none⟩) i cap,.int .i64 ((l.length:Int)+1-(i:Int))]).run Tryz.prog w =
  .ok (.slice (some ⟨w.heap.size,0,none⟩) (l.length+1) (grownCap w (l.length+1) cap 185)) (w.drew.alloc (.cells (((l.flatMap aR).take (i * 2)).toArray++Builtin.zeroCells (Value.agg #[str [],.int .i64 0]).cells (l.length+1-i)++Builtin.zeroCells (Value.agg #[str [],.int .i64 0]).cells (grownCap w (l.length+1) cap 185-(l.length+1))) 185)):=fun ty=>by
  have h:=Lib.run_append_grow_zeros w 163 3 ty 185 i0 _ .i64 .i64 Tryz.underlying163 Tryz.underlying3 hi0 hz0 (some ⟨g,0,none⟩) i cap ((l.flatMap aR).take (i * 2)) hold (l.length+1-i) (by omega) (by omega) (by omega) (by omega) (by rw [hz2];omega) (by rw [hz2,hik];exact growslice_fits hroom (by omega))
  rw [hik] at h
  rw [hkk]
  exact h
 have hGn:l.length+1≤grownCap w (l.length+1) cap 185:=grownCap_ge w _ _ _
 have KC:grownCap w (l.length+1) cap 185≤maxLen:=grownCap_le_maxLen w _ _ _ (by unfold maxLen;omega)
 generalize grownCap w (l.length+1) cap 185=G at *
 obtain⟨R,hR⟩:∃R:Array Value,R=((l.flatMap aR).take (i * 2)).toArray++Builtin.zeroCells (Value.agg #[str [],.int .i64 0]).cells (l.length+1-i)++Builtin.zeroCells (Value.agg #[str [],.int .i64 0]).cells (G-(l.length+1)):=⟨_,rfl⟩
 rw [←hR] at hrz
 have hzl:(Value.agg #[str [],.int .i64 0]).cells.size=2:=rfl
 have hRl:R.size=G * 2:=by
  rw [hR]
  simp only [Array.size_append,Builtin.zeroCells,Array.size_map,Array.size_range,hzl,List.size_toArray,List.length_take,hx]
  omega
 have OH:R.toList.take (i * 2)=(l.flatMap aR).take (i * 2):=by
  rw [hR]
  simp only [Array.toList_append,List.append_assoc]
  have hl:((l.flatMap aR).take (i * 2)).length=i * 2:=by rw [List.length_take,hx];omega
  have:=List.take_left (l₁:=(l.flatMap aR).take (i * 2)) (l₂:=(Builtin.zeroCells (Value.agg #[str [],.int .i64 0]).cells (l.length+1-i)).toList++(Builtin.zeroCells (Value.agg #[str [],.int .i64 0]).cells (G-(l.length+1))).toList)
  rwa [hl] at this
 clear hR
 have hG63:G≤9223372036854775807:=by unfold maxLen at KC;omega
 have hGi:¬(G=i):=by omega
 have RL:¬(G=i+1):=by omega
 have V6:(l.length:Int)+1≤(G:Int):=by omega
 obtain⟨C1,lN⟩:∃C1:List Value,C1=R.toList.take (i * 2)++aR x++R.toList.drop (i * 2+2):=⟨_,rfl⟩
 have yR:R.toList.length=G * 2:=by rw [Array.length_toList];exact hRl
 have jq:C1.length=G * 2:=by rw [lN];simp only [List.length_append,List.length_take,List.length_drop,yR,aR,List.length_cons,List.length_nil];omega
 have hcpA:∀W:World,W.heap=(w.alloc (.cells R 185)).heap→∀ty dc,(Builtin.copy_ #[163,163] ty #[.slice (some ⟨w.heap.size,i * 2,none⟩) (l.length+1-i) dc,.slice (some ⟨vb,0,none⟩) 1 1]).run Tryz.prog W=.ok (goInt (Nat.min 1 (l.length+1-i))) (W.setRow w.heap.size C1.toArray):=fun W hW ty dc=>by
  have wC:W.heap[w.heap.size]? = some (.cells R 185 (0,0)):=by rw [hW];exact heap_alloc_new _ _
  have PX:W.heap[vb]? = some (.cells (aR x).toArray 185 (0,0)):=by rw [hW,((Only.refl (fun _=>False) w).alloc (.cells R 185)).block vb hvw id];exact hv
  have wZ:C1=R.toList.take (i * 2)++aR x++R.toList.drop (i * 2+(aR x).length):=lN
  rw [wZ]
  exact dO W 163 163 ty 185 2 w.heap.size (i * 2) (l.length+1-i) dc ⟨vb,0,none⟩ 1 1 R 185 (aR x) Tryz.underlying163 hsz wC
   (by show 2=min _ _ * 2;omega) (fun j u hu=>by
    rw [addr_add,Nat.zero_add]
    simp [World.cell?,PX,hu]) (by rw [hRl];simp only [aR,List.length_cons,List.length_nil];omega) (qI x)
 have hdl:((l.flatMap aR).drop (i * 2)).length=l.length * 2-i * 2:=by rw [List.length_drop,hx]
 obtain⟨C2,hC2⟩:∃C2:List Value,C2=C1.take (i * 2+2)++(l.flatMap aR).drop (i * 2)++C1.drop (i * 2+2+(l.length * 2-i * 2)):=⟨_,rfl⟩
 have kQ:C2.length=G * 2:=by rw [hC2];simp only [List.length_append,List.length_take,hdl,List.length_drop,jq];omega
 have hcpB:∀W:World,W.heap=((w.alloc (.cells R 185)).setRow w.heap.size C1.toArray).heap→∀ty dc sc,(Builtin.copy_ #[163,163] ty #[.slice (some ⟨w.heap.size,i * 2+2,none⟩) (l.length-i) dc,.slice (some ⟨g,i * 2,none⟩) (l.length-i) sc]).run Tryz.prog W=.ok (goInt (Nat.min (l.length-i) (l.length-i))) (W.setRow w.heap.size C2.toArray):=fun W hW ty dc sc=>by
  have wC:W.heap[w.heap.size]? = some (.cells C1.toArray 185 (0,0)):=by rw [hW];exact setRow_heap (w.alloc (.cells R 185)) w.heap.size R C1.toArray 185 (0,0) (heap_alloc_new _ _)
  have RN:W.heap[g]? = w.heap[g]?:=by
   rw [hW]
   exact(((Only.refl (fun _=>False) w).alloc (.cells R 185)).setRow (g:=w.heap.size) (fun q=>by omega) C1.toArray).block g hgw id
  have yC:C2=C1.toArray.toList.take (i * 2+2)++(l.flatMap aR).drop (i * 2)++C1.toArray.toList.drop (i * 2+2+((l.flatMap aR).drop (i * 2)).length):=by rw [hdl];exact hC2
  rw [yC]
  exact dO W 163 163 ty 185 2 w.heap.size (i * 2+2) (l.length-i) dc ⟨g,i * 2,none⟩ (l.length-i) sc C1.toArray 185 ((l.flatMap aR).drop (i * 2)) Tryz.underlying163 hsz wC
   (by rw [hdl];show _=min _ _ * 2;omega) (fun j u hu=>by
    rw [addr_add]
    rw [List.getElem?_drop] at hu
    exact(World.cell?_of_block RN).trans (aZ hown _ u hu)) (by rw [hdl,List.size_toArray,jq];omega) (fun u hu=>gq l u (List.mem_of_mem_drop hu))
 have hfin:C2.toArray.toList.take ((l.length+1) * 2)=(l.take i++x :: l.drop i).flatMap aR:=by
  have:=Dw R.toList (l.flatMap aR) (aR x) (i * 2) 2 (l.length * 2) OH (by rw [yR];omega) hx (by omega) rfl
  rw [←lN,←hC2] at this
  rw [show (l.length+1) * 2=l.length * 2+2 by omega]
  show C2.take _=_
  rw [this,iN,j5]
  simp
 have HF:Hid (∀W:World,W.heap=(((w.alloc (.cells R 185)).setRow w.heap.size C1.toArray).setRow w.heap.size C2.toArray).heap→W.os=w.os→W.tape=w.tape→W.output=w.output→
  W.ownsRow 0 185 2 (.slice (some ⟨w.heap.size,0,none⟩) (l.length+1) G) (l.length+1) ((l.take i++x :: l.drop i).flatMap aR)∧Only (fun _=>False) w W):=Lib.hid (fun W hW e1 e2 e3=>by
  have hg1:=setRow_heap (w.alloc (.cells R 185)) w.heap.size R C1.toArray 185 (0,0) (heap_alloc_new _ _)
  have hg2:=setRow_heap _ w.heap.size C1.toArray C2.toArray 185 (0,0) hg1
  have o:=(((Only.refl (fun _=>False) w).alloc (.cells R 185)).setRow (g:=w.heap.size) (fun q=>by omega) C1.toArray).setRow (g:=w.heap.size) (fun q=>by omega) C2.toArray
  exact⟨eZ (by rw [hW];exact hg2) hGn KC (by rw [List.size_toArray,kQ]) hfin,e1,e2,e3,by rw [hW];exact o.size,fun k hk hs=>by rw [hW];exact o.block k hk hs⟩)
 have HA:=Lib.hid hcpA
 have HB:=Lib.hid hcpB
 clear hown h3 h4 hg hv lN jq hfin kQ hC2 hdl hx hold hRl OH yR hkk hik KC hcpA hcpB
 go_enter Tryz.func221,Tryz.ntmps221
 go_wp2_with (first |(at_builtin;refine Lib.wpList_append_run _ rfl _ _ _ _ rfl _ _ rfl rfl _ _ (hrz _) ?_) |(refine bX _ rfl _ _ 163 163 rfl _ _ rfl rfl (HA.out _ (by rfl) _ _) ?_))
 go_region_law (refine dz rfl _ _ 163 163 rfl (.slice (some ⟨w.heap.size,i * 2+2,none⟩) (l.length-i) (G-(i+1))) (.slice (some ⟨g,i * 2,none⟩) (l.length-i) (cap-i)) (by simp [Act.eval,Act.put]) (by simp [Act.eval,Act.put]) (HB.out _ (by rfl) _ _ _) ?_)
 go_wp2_with fail
 go_ret
 exact⟨G,rfl,HF.out _ rfl rfl rfl rfl⟩
theorem EX (sv:Value) (l:List Kid) (x:Kid) (i vb:Nat) (w:World) (hi:i≤l.length) (hown:w.ownsRow 0 185 2 sv l.length (l.flatMap aR)) (hne:sv.ownBlock≠some vb)
 (hv:w.heap[vb]? = some (.cells (aR x).toArray 185 (0,0))) (hn:l.length≤1073741824) :
 Calls Tryz.prog 221 #[sv,.int .i64 i,.slice (some ⟨vb,0,none⟩) 1 1] w fun e w'=>∃v',e=.returned v'∧w'.ownsRow 0 185 2 v' (l.length+1) ((l.take i++x :: l.drop i).flatMap aR)∧Only (fun k=>sv.ownBlock=some k) w w'∧Moved w sv v':=by
 by_cases h:i=l.length
 ·subst h
  refine(DI sv l x vb w hown hv hn).mono fun e w' ⟨v',e1,o,g,m⟩=>⟨v',e1,?_,(Only.refl _ w).grown g fun k _ q=>q,m⟩
  rw [List.take_length,List.drop_length]
  exact o
 ·rcases hown.2 with ⟨rfl,h0⟩ |⟨g,cap,cur,rfl,_⟩
  ·omega
  ·by_cases hr:l.length+1≤cap
   ·refine(BO g cap l x i vb w (by omega) (fun q=>hne (by rw [q];rfl)) hr hown hv hn).mono fun e w' ⟨e1,o,q⟩=>⟨_,e1,o,q.mono fun k _ hk=>by rw [hk];rfl,fun k hk=>.inl hk⟩
   ·refine(BP g cap l x i vb w (by omega) (by omega) hown hv hn).mono fun e w' ⟨gc,e1,o,q⟩=>⟨_,e1,o,q.mono fun k _ hk=>hk.elim,fun k hk=>.inr ?_⟩
    have:=Option.some.inj (show some w.heap.size=some k from hk)
    omega
end Go.Proofs.YtbhiamcmiopnoaaGreatDoor
