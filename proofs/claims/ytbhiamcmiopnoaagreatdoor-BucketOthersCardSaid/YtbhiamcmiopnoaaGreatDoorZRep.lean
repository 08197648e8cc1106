/- Rows of children: Go's slices.Clone. Conditions: fewer than 2^30 children. -/
import Derived.Test.YtbhiamcmiopnoaaGreatDoorZTwigA
import Derived.Test.YtbhiamcmiopnoaaGreatDoorZRow
set_option maxHeartbeats 4000000
set_option maxRecDepth 100000
namespace Go.Proofs.YtbhiamcmiopnoaaGreatDoor
section
open Go.RowKit
theorem qI (x:Kid):∀u∈aR x,u.oneCell'=true:=by simp [aR,Value.oneCell']
theorem gq (l:List Kid):∀u∈l.flatMap aR,u.oneCell'=true:=fun u hu=>by
 obtain⟨x,_,hu⟩:=List.mem_flatMap.1 hu
 exact qI x u hu
theorem dH (l:List Kid):(l.flatMap aR).length=l.length * 2:=by
 induction l with
 | nil=>rfl
 | cons a l ih=>rw [List.flatMap_cons,List.length_append,ih,List.length_cons];simp only [aR,List.length_cons,List.length_nil];omega
theorem Fp {w:World} {g off n c:Nat} {l:List Kid} (h:bL aR 2 w (.slice (some ⟨g,off,none⟩) n c) l):∀j u,(l.flatMap aR)[j]? = some u→w.cell? ((⟨g,off,none⟩:Addr).add j)=some u:=by
 intro j u hu
 rw [addr_add]
 cases h with
 | some _ _ _ _ hc=>
  have hj:j<l.length * 2:=by
   obtain⟨hj,_⟩:=List.getElem?_eq_some_iff.1 hu
   rwa [dH] at hj
  have hi:j / 2<l.length:=by omega
  have hx:l[j / 2]? = some l[j / 2]:=List.getElem?_eq_getElem hi
  have hu2:(aR l[j / 2])[j % 2]? = some ((aR l[j / 2])[j % 2]'(by simp only [aR,List.length_cons,List.length_nil];omega)):=List.getElem?_eq_getElem _
  have:=hc _ _ _ _ hx hu2
  have e:=flat_get (enc:=aR) (k:=2) (fun _=>rfl) l (j / 2) (j % 2) _ _ hx hu2
  rw [show j / 2 * 2+j % 2=j by omega] at e this
  rw [hu] at e
  rw [this,Option.some.inj e]
theorem iE (v:Value) (l:List Kid) (w:World) (h:bL aR 2 w v l) (hn:l.length≤1073741824) :
 Calls Tryz.prog 218 #[v] w fun e w'=>∃v',e=.returned v'∧w'.ownsRow 0 185 2 v' l.length (l.flatMap aR)∧Only (fun _=>False) w w'∧∀b,v'.ownBlock=some b→w.heap.size≤b:=by
 obtain⟨i0,hi,hz0,hz1,hz2⟩:=info_parts kF
 have hb0:∀w,(binOp .eql 163 (.slice none 0 0) (.slice none 0 0)).run Tryz.prog w=.ok (.bool true) w:=fun _=>rfl
 have hb1:∀p n c w,(binOp .eql 163 (.slice (some p) n c) (.slice none 0 0)).run Tryz.prog w=.ok (.bool false) w:=fun _ _ _ _=>rfl
 cases h with
 | none=>
  go_enter Tryz.func218,Tryz.ntmps218
  go_wp2_with fail
  go_ret
  exact⟨.slice none 0 0,rfl,⟨rfl,.inl ⟨rfl,rfl⟩⟩,Only.refl _ _,fun b hb=>by simp [Value.ownBlock] at hb⟩
 | some g off cap _ hc=>
  have HC:=Lib.hid (Fp (.some g off cap l hc))
  have hown:(w.alloc (.cells #[] 185)).ownsRow 0 185 2 (.slice (some ⟨w.heap.size,0,none⟩) 0 0) 0 []:=
   eZ (cur:=#[]) (heap_alloc_new _ _) (Nat.le_refl _) (by unfold maxLen;omega) rfl rfl
  have HOWN:=Lib.hid hown
  have oW:=(Only.refl (fun _=>False) w).alloc (.cells #[] 185)
  have hcells:∀j u,(l.flatMap aR)[j]? = some u→(w.alloc (.cells #[] 185)).cell? ((⟨g,off,none⟩:Addr).add j)=some u:=fun j u hu=>by
   have q:=HC.out j u hu
   rw [addr_add] at q ⊢
   exact(oW.cell (p:=⟨g,off+j,none⟩) (lt_of_cell q) id).trans q
  have p9:=Lib.hid hcells
  have HW:=Lib.hid oW
  clear hown hcells oW
  have hmax:0+l.length≤maxLen:=by unfold maxLen;omega
  go_enter Tryz.func218,Tryz.ntmps218
  go_wp2_with (at_builtin;refine aM _ rfl _ _ 163 rfl 185 i0 _ 2 24 Tryz.underlying163 hi hz0 hz1 hz2 rfl (by decide) _ _ _ rfl HOWN.out ⟨g,off,none⟩ l.length cap (l.flatMap aR) rfl (dH l) p9.out (gq l) hmax (by omega) ?_;intro a' c' wx hown2 hgr hmv;have HX:=Lib.hid (And.intro hown2 (And.intro hgr hmv));clear hown2 hgr hmv)
  go_ret
  obtain⟨hown2,hgr,hmv⟩:=HX.out
  refine⟨.slice a' l.length c',by simp,by rw [Nat.zero_add] at hown2;exact hown2,HW.out.grown hgr fun k hk e=>?_,fun b hb=>?_⟩
  ·have:=Option.some.inj (show some w.heap.size=some k from e);omega
  ·rcases hmv b (by rw [Nat.zero_add];exact hb) with e | e
   ·have:=Option.some.inj (show some w.heap.size=some b from e);omega
   ·simp at e;omega
theorem IK (w:World) (g vb o m c lb cb:Nat) (hne:vb≠g) {cur arr:Array Value} {t1 t2:TypeId} (hg:w.heap[g]? = some (.cells cur t1 (0,0))) (hv:w.heap[vb]? = some (.cells arr t2 (0,0))) (hsz:cur.size≠0) :
 (callFunc 231 #[.slice (some ⟨vb,0,none⟩) m c,.slice (some ⟨g,o,none⟩) lb cb]).run Tryz.prog w=.ok (.value (.bool false)) w:=by
 have hz:∀w,(Go.sizeOf 185).run Tryz.prog w=.ok 2 w:=fun _=>rfl
 rw [run_callFunc_extern Tryz.func231 (by kernel_rfl) (by kernel_rfl) (by kernel_rfl) (e:=Extern.SlicesOverlaps.overlaps #[163,163] #[4]) (by kernel_rfl),
  Lib.run_overlaps_apart w 163 4 185 Tryz.underlying163 2 hz ⟨vb,0,none⟩ ⟨g,o,none⟩ m c lb cb hne t2 t1 arr.size cur.size (by simp [World.shape?,hv]) (by simp [World.shape?,hg]) hsz (by simp [World.frozen?,hv]) (by simp [World.frozen?,hv])]
 rfl
theorem iN (l:List Kid) (i:Nat):(l.flatMap aR).take (i * 2)=(l.take i).flatMap aR:=by
 induction l generalizing i with
 | nil=>simp
 | cons a l ih=>
  cases i with
  | zero=>simp
  | succ i=>
   rw [List.take_succ_cons,List.flatMap_cons,List.flatMap_cons,←ih i,show (i+1) * 2=(aR a).length+i * 2 by simp only [aR,List.length_cons,List.length_nil];omega,List.take_length_add_append]
theorem j5 (l:List Kid) (i:Nat):(l.flatMap aR).drop (i * 2)=(l.drop i).flatMap aR:=by
 induction l generalizing i with
 | nil=>simp
 | cons a l ih=>
  cases i with
  | zero=>simp
  | succ i=>
   rw [List.drop_succ_cons,List.flatMap_cons,←ih i,show (i+1) * 2=(aR a).length+i * 2 by simp only [aR,List.length_cons,List.length_nil];omega,List.drop_length_add_append]
end
section
open Go.RowKit
theorem KL (cur xs vs:List Value) (a M e N:Nat) (h:cur.take N=xs) (hN:N-e+M≤cur.length) (rU:N≤cur.length) (ha:a+e≤N) (hv:vs.length=M) :
 ((cur.take (a+M)++xs.drop (a+e)++cur.drop (a+M+(N-(a+e)))).take a++vs++(cur.take (a+M)++xs.drop (a+e)++cur.drop (a+M+(N-(a+e)))).drop (a+M)).take (N-e+M)=xs.take a++vs++xs.drop (a+e):=by
 have hx:xs.length=N:=by rw [←h,List.length_take];omega
 have e1:(cur.take (a+M)++xs.drop (a+e)++cur.drop (a+M+(N-(a+e)))).take a=xs.take a:=by
  rw [List.append_assoc,List.take_append_of_le_length (by rw [List.length_take];omega),List.take_take,←h,List.take_take]
  congr 1
  omega
 have e2:(cur.take (a+M)++xs.drop (a+e)++cur.drop (a+M+(N-(a+e)))).drop (a+M)=xs.drop (a+e)++cur.drop (a+M+(N-(a+e))):=by
  have hl:(cur.take (a+M)).length=a+M:=by rw [List.length_take];omega
  rw [List.append_assoc]
  have:=List.drop_left (l₁:=cur.take (a+M)) (l₂:=xs.drop (a+e)++cur.drop (a+M+(N-(a+e))))
  rwa [hl] at this
 rw [e1,e2,←List.append_assoc]
 have hl:(xs.take a++vs++xs.drop (a+e)).length=N-e+M:=by simp only [List.length_append,List.length_take,List.length_drop];omega
 have:=List.take_left (l₁:=xs.take a++vs++xs.drop (a+e)) (l₂:=cur.drop (a+M+(N-(a+e))))
 rwa [hl] at this
theorem yD (r xs vs:List Value) (a M e N:Nat) (h:r.take a=xs.take a) (hN:N-e+M≤r.length) (hx:xs.length=N) (ha:a+e≤N) (hv:vs.length=M) :
 ((r.take a++vs++r.drop (a+M)).take (a+M)++xs.drop (a+e)++(r.take a++vs++r.drop (a+M)).drop (a+M+(N-(a+e)))).take (N-e+M)=xs.take a++vs++xs.drop (a+e):=by
 have hl:(r.take a++vs).length=a+M:=by simp only [List.length_append,List.length_take];omega
 have e1:(r.take a++vs++r.drop (a+M)).take (a+M)=xs.take a++vs:=by
  have:=List.take_left (l₁:=r.take a++vs) (l₂:=r.drop (a+M))
  rw [hl,h] at this
  rw [h]
  exact this
 rw [e1]
 have hl2:(xs.take a++vs++xs.drop (a+e)).length=N-e+M:=by simp only [List.length_append,List.length_take,List.length_drop];omega
 have:=List.take_left (l₁:=xs.take a++vs++xs.drop (a+e)) (l₂:=(r.take a++vs++r.drop (a+M)).drop (a+M+(N-(a+e))))
 rwa [hl2] at this
theorem Nq (g cap:Nat) (l ws:List Kid) (i vb vc:Nat) (w:World) (hi:i+1=l.length) (hm:1≤ws.length)
 (hown:w.ownsRow 0 185 2 (.slice (some ⟨g,0,none⟩) l.length cap) l.length (l.flatMap aR)) (hv:w.ownsRow 0 185 2 (.slice (some ⟨vb,0,none⟩) ws.length vc) ws.length (ws.flatMap aR)) (hn:l.length≤1000000) (hwn:ws.length≤1000000) :
 Calls Tryz.prog 219 #[.slice (some ⟨g,0,none⟩) l.length cap,.int .i64 i,.int .i64 ((i:Int)+1),.slice (some ⟨vb,0,none⟩) ws.length vc] w fun e w'=>∃v',e=.returned v'∧w'.ownsRow 0 185 2 v' (i+ws.length) ((l.take i++ws).flatMap aR)∧Only (fun k=>k=g) w w'∧Moved w (.slice (some ⟨g,0,none⟩) l.length cap) v':=by
 obtain⟨i0,hi0,hz0,hz1,hz2⟩:=info_parts kF
 obtain⟨cur,hg,h1,h2,h3,h4⟩:=dD hown
 have hcut:=Bd hown i (by omega)
 rw [iN] at hcut
 have HOWN:=Lib.hid hcut
 have p9:Hid (∀j u,(ws.flatMap aR)[j]? = some u→w.cell? ((⟨vb,0,none⟩:Addr).add j)=some u):=Lib.hid (fun j u hu=>by rw [addr_add,Nat.zero_add];exact aZ hv j u hu)
 have hc63:cap≤9223372036854775807:=by unfold maxLen at h2;omega
 have hci:(i:Int)+1≤(cap:Int):=by omega
 have Kn:(i:Int)≤(cap:Int):=by omega
 have hi1:(i:Int)≤(i:Int)+1:=by omega
 have hi2:¬((i:Int)=(i:Int)+1):=by omega
 have hi3:((i:Int)+1=(l.length:Int)):=by omega
 have Ko:(0:Int)≤(i:Int):=by omega
 have htn:((i:Int)+1).toNat=i+1:=by omega
 have hle:¬((i:Int)+(ws.length:Int)<(l.length:Int)):=by omega
 clear hown hv hcut hg h3 h4
 go_enter Tryz.func219,Tryz.ntmps219
 go_wp2_with (at_builtin;refine aM _ rfl _ _ 163 rfl 185 i0 _ 2 24 Tryz.underlying163 hi0 hz0 hz1 hz2 rfl (by decide) _ _ _ rfl HOWN.out ⟨vb,0,none⟩ ws.length vc (ws.flatMap aR) rfl (dH ws) p9.out (gq ws) (by unfold maxLen;omega) (by omega) ?_;intro a' c' wx hown2 hgr hmv;have HX:=Lib.hid (And.intro hown2 (And.intro hgr hmv));clear hown2 hgr hmv)
 all_goals
  go_ret
  obtain⟨hown2,hgr,hmv⟩:=HX.out
  exact⟨.slice a' (i+ws.length) c',rfl,by simpa using hown2,(Only.refl _ w).grown hgr (fun k _ e=>(Option.some.inj e).symm),hmv⟩
end
section
open Go.RowKit
theorem Fq (w:World) (g vb o m c lb cb:Nat) (hne:vb≠g) {cur arr:Array Value} {t1 t2:TypeId} (hg:w.heap[g]? = some (.cells cur t1 (0,0))) (hv:w.heap[vb]? = some (.cells arr t2 (0,0))) (hsz:arr.size≠0) :
 (callFunc 231 #[.slice (some ⟨g,o,none⟩) lb cb,.slice (some ⟨vb,0,none⟩) m c]).run Tryz.prog w=.ok (.value (.bool false)) w:=by
 have hz:∀w,(Go.sizeOf 185).run Tryz.prog w=.ok 2 w:=fun _=>rfl
 rw [run_callFunc_extern Tryz.func231 (by kernel_rfl) (by kernel_rfl) (by kernel_rfl) (e:=Extern.SlicesOverlaps.overlaps #[163,163] #[4]) (by kernel_rfl),
  Lib.run_overlaps_apart w 163 4 185 Tryz.underlying163 2 hz ⟨g,o,none⟩ ⟨vb,0,none⟩ lb cb m c (fun e=>hne e.symm) t1 t2 cur.size arr.size (by simp [World.shape?,hg]) (by simp [World.shape?,hv]) hsz (by simp [World.frozen?,hg]) (by simp [World.frozen?,hg])]
 rfl
theorem KH (g cap m T:Nat) (l ws:List Kid) (i vb vc:Nat) (w:World) (hmm:ws.length=m) (hT:T=l.length-1+m) (hi:i+1<l.length) (hm:2≤m) (hne:vb≠g) (hroom:T≤cap)
 (hown:w.ownsRow 0 185 2 (.slice (some ⟨g,0,none⟩) l.length cap) l.length (l.flatMap aR)) (hv:w.ownsRow 0 185 2 (.slice (some ⟨vb,0,none⟩) m vc) m (ws.flatMap aR)) (hn:l.length≤1000000) (hwn:m≤1000000) :
 Calls Tryz.prog 219 #[.slice (some ⟨g,0,none⟩) l.length cap,.int .i64 i,.int .i64 ((i:Int)+1),.slice (some ⟨vb,0,none⟩) m vc] w fun e w'=>e=.returned (.slice (some ⟨g,0,none⟩) T cap)∧w'.ownsRow 0 185 2 (.slice (some ⟨g,0,none⟩) T cap) T ((l.take i++ws++l.drop (i+1)).flatMap aR)∧Only (fun k=>k=g) w w':=by
 obtain⟨cur,hg,h1,h2,h3,h4⟩:=dD hown
 obtain⟨arr,P5,k1,k2,k3,k4⟩:=dD hv
 have hc63:cap≤9223372036854775807:=by unfold maxLen at h2;omega
 have hsum:(i:Int)+(m:Int)+((l.length-(i+1):Nat):Int)=(T:Int):=by omega
 have hci:(i:Int)+1≤(cap:Int):=by omega
 have Kn:(i:Int)≤(cap:Int):=by omega
 have hi1:(i:Int)≤(i:Int)+1:=by omega
 have hi2:¬((i:Int)=(i:Int)+1):=by omega
 have hi3:¬((i:Int)+1=(l.length:Int)):=by omega
 have hi4:(i:Int)+1≤(l.length:Int):=by omega
 have Ko:(0:Int)≤(i:Int):=by omega
 have hi5:(0:Int)≤(i:Int)+1:=by omega
 have htn:((i:Int)+1).toNat=i+1:=by omega
 have hw1:IntKind.i64.wrap ((i:Int)+(m:Int))=(i:Int)+(m:Int):=by exact IntWalk.i64_in _ (by omega)
 have hw2:IntKind.i64.wrap (T:Int)=(T:Int):=by exact IntWalk.i64_in _ (by omega)
 have hT1:¬((cap:Int)<(T:Int)):=by omega
 have VY:(T:Int)≤(cap:Int):=by omega
 have hT0:(0:Int)≤(T:Int):=by omega
 have him:¬((i:Int)+(m:Int)≤(i:Int)+1):=by omega
 have PI:(0:Int)≤(i:Int)+(m:Int):=by omega
 have PK:(i:Int)+(m:Int)≤(T:Int):=by omega
 have Uy:((i:Int)+(m:Int)).toNat=i+m:=by omega
 have hcm:¬(cap=i+m):=by omega
 have hc1:¬(cap=i+1):=by omega
 have hc0:¬(cap=i):=by omega
 have Uz:(i:Int)≤(T:Int):=by omega
 have hov:∀o lb cb W,W.heap=w.heap→(callFunc 231 #[.slice (some ⟨g,o,none⟩) lb cb,.slice (some ⟨vb,0,none⟩) m vc]).run Tryz.prog W=.ok (.value (.bool false)) W:=fun o lb cb W hW=>Fq W g vb o m vc lb cb hne (by rw [hW];exact hg) (by rw [hW];exact P5) (by omega)
 have XD:=hov ((i+m) * 2) (T-(i+m)) (cap-(i+m)) w.drew rfl
 have hsz:(Tryz.prog.info? 185).map (·.size)=some 2:=by kernel_rfl
 have hx:(l.flatMap aR).length=l.length * 2:=dH l
 have hwl:(ws.flatMap aR).length=m * 2:=by rw [dH,hmm]
 have hcl:cur.toList.length=cap * 2:=by rw [Array.length_toList];exact h3
 have hgw:g<w.heap.size:=mK hown
 have hvw:vb<w.heap.size:=mK hv
 have hdl:((l.flatMap aR).drop (i * 2+2)).length=l.length * 2-(i * 2+2):=by rw [List.length_drop,hx]
 obtain⟨C1,lN⟩:∃C1:List Value,C1=cur.toList.take (i * 2+m * 2)++(l.flatMap aR).drop (i * 2+2)++cur.toList.drop (i * 2+m * 2+(l.length * 2-(i * 2+2))):=⟨_,rfl⟩
 have jq:C1.length=cap * 2:=by rw [lN];simp only [List.length_append,List.length_take,hdl,List.length_drop,hcl];omega
 have hcpA:∀W:World,W.heap=w.heap→∀ty dc sc,(Builtin.copy_ #[163,163] ty #[.slice (some ⟨g,(i+m) * 2,none⟩) (T-(i+m)) dc,.slice (some ⟨g,i * 2+2,none⟩) (l.length-(i+1)) sc]).run Tryz.prog W=.ok (goInt (Nat.min (l.length-(i+1)) (T-(i+m)))) (W.setRow g C1.toArray):=fun W hW ty dc sc=>by
  have wC:W.heap[g]? = some (.cells cur 185 (0,0)):=by rw [hW];exact hg
  have wZ:C1=cur.toList.take ((i+m) * 2)++(l.flatMap aR).drop (i * 2+2)++cur.toList.drop ((i+m) * 2+((l.flatMap aR).drop (i * 2+2)).length):=by rw [hdl,Nat.add_mul];exact lN
  rw [wZ]
  exact dO W 163 163 ty 185 2 g ((i+m) * 2) (T-(i+m)) dc ⟨g,i * 2+2,none⟩ (l.length-(i+1)) sc cur 185 ((l.flatMap aR).drop (i * 2+2)) Tryz.underlying163 hsz wC
   (by rw [hdl];show _=min _ _ * 2;omega) (fun j u hu=>by
    rw [addr_add]
    rw [List.getElem?_drop] at hu
    exact(World.cell?_of_block (by rw [hW])).trans (aZ hown _ u hu)) (by rw [hdl,h3];omega) (fun u hu=>gq l u (List.mem_of_mem_drop hu))
 obtain⟨C2,hC2⟩:∃C2:List Value,C2=C1.take (i * 2)++ws.flatMap aR++C1.drop (i * 2+m * 2):=⟨_,rfl⟩
 have kQ:C2.length=cap * 2:=by rw [hC2];simp only [List.length_append,List.length_take,List.length_drop,jq,hwl];omega
 have hcpB:∀W:World,W.heap=(w.setRow g C1.toArray).heap→∀ty dc,(Builtin.copy_ #[163,163] ty #[.slice (some ⟨g,i * 2,none⟩) (T-i) dc,.slice (some ⟨vb,0,none⟩) m vc]).run Tryz.prog W=.ok (goInt (Nat.min m (T-i))) (W.setRow g C2.toArray):=fun W hW ty dc=>by
  have wC:W.heap[g]? = some (.cells C1.toArray 185 (0,0)):=by rw [hW];exact setRow_heap w g cur C1.toArray 185 (0,0) hg
  have PX:W.heap[vb]? = w.heap[vb]?:=by rw [hW];exact((Only.refl (fun k=>k=g) w).setRow (g:=g) (fun _=>rfl) C1.toArray).block vb hvw hne
  have yC:C2=C1.toArray.toList.take (i * 2)++ws.flatMap aR++C1.toArray.toList.drop (i * 2+(ws.flatMap aR).length):=by rw [hwl];exact hC2
  rw [yC]
  exact dO W 163 163 ty 185 2 g (i * 2) (T-i) dc ⟨vb,0,none⟩ m vc C1.toArray 185 (ws.flatMap aR) Tryz.underlying163 hsz wC
   (by rw [hwl];show _=min _ _ * 2;omega) (fun j u hu=>by
    rw [addr_add,Nat.zero_add]
    exact(World.cell?_of_block PX).trans (aZ hv j u hu)) (by rw [List.size_toArray,jq,hwl];omega) (gq ws)
 have hfin:C2.toArray.toList.take (T * 2)=(l.take i++ws++l.drop (i+1)).flatMap aR:=by
  have:=KL cur.toList (l.flatMap aR) (ws.flatMap aR) (i * 2) (m * 2) 2 (l.length * 2) h4 (by rw [hcl];omega) (by rw [hcl];omega) (by omega) hwl
  rw [←lN,←hC2] at this
  rw [show T * 2=l.length * 2-2+m * 2 by omega]
  show C2.take _=_
  rw [this,iN,show i * 2+2=(i+1) * 2 by omega,j5]
  simp
 have HF:Hid (∀W:World,W.heap=((w.setRow g C1.toArray).setRow g C2.toArray).heap→W.os=w.os→W.tape=w.tape→W.output=w.output→
  W.ownsRow 0 185 2 (.slice (some ⟨g,0,none⟩) T cap) T ((l.take i++ws++l.drop (i+1)).flatMap aR)∧Only (fun k=>k=g) w W):=Lib.hid (fun W hW e1 e2 e3=>by
  have hg1:=setRow_heap w g cur C1.toArray 185 (0,0) hg
  have hg2:=setRow_heap _ g C1.toArray C2.toArray 185 (0,0) hg1
  have o:=((Only.refl (fun k=>k=g) w).setRow (g:=g) (fun _=>rfl) C1.toArray).setRow (g:=g) (fun _=>rfl) C2.toArray
  exact⟨eZ (by rw [hW];exact hg2) hroom h2 (by rw [List.size_toArray,kQ]) hfin,e1,e2,e3,by rw [hW];exact o.size,fun k hk hs=>by rw [hW];exact o.block k hk hs⟩)
 have HA:=Lib.hid hcpA
 have HB:=Lib.hid hcpB
 clear hown h3 h4 hg hv P5 k3 k4 hmm hT lN jq hC2 kQ hfin hx hwl hcl hdl hcpA hcpB hov hgw hvw
 go_enter Tryz.func219,Tryz.ntmps219
 go_wp2_with fail
 go_region_law (fail)
 go_wp2_with fail
 go_region_law (refine dz rfl _ _ 163 163 rfl (.slice (some ⟨g,(i+m) * 2,none⟩) (T-(i+m)) (cap-(i+m))) (.slice (some ⟨g,i * 2+2,none⟩) (l.length-(i+1)) (cap-(i+1))) (by simp [Act.eval,Act.put]) (by simp [Act.eval,Act.put]) (HA.out _ (by rfl) _ _ _) ?_)
 go_wp2_with (first |(refine bX _ rfl _ _ 163 163 rfl _ _ rfl rfl (HB.out _ (by rfl) _ _) ?_))
 go_ret
 exact⟨rfl,HF.out _ rfl rfl rfl rfl⟩
end
section
open Go.RowKit
theorem Nr (g cap m T:Nat) (l ws:List Kid) (i vb vc:Nat) (w:World) (hmm:ws.length=m) (hT:T=l.length-1+m) (hi:i+1<l.length) (hm:m=1) (hne:vb≠g) (hroom:T≤cap)
 (hown:w.ownsRow 0 185 2 (.slice (some ⟨g,0,none⟩) l.length cap) l.length (l.flatMap aR)) (hv:w.ownsRow 0 185 2 (.slice (some ⟨vb,0,none⟩) m vc) m (ws.flatMap aR)) (hn:l.length≤1000000) :
 Calls Tryz.prog 219 #[.slice (some ⟨g,0,none⟩) l.length cap,.int .i64 i,.int .i64 ((i:Int)+1),.slice (some ⟨vb,0,none⟩) m vc] w fun e w'=>e=.returned (.slice (some ⟨g,0,none⟩) T cap)∧w'.ownsRow 0 185 2 (.slice (some ⟨g,0,none⟩) T cap) T ((l.take i++ws++l.drop (i+1)).flatMap aR)∧Only (fun k=>k=g) w w':=by
 obtain⟨cur,hg,h1,h2,h3,h4⟩:=dD hown
 obtain⟨arr,P5,k1,k2,k3,k4⟩:=dD hv
 have hc63:cap≤9223372036854775807:=by unfold maxLen at h2;omega
 have hsum:(i:Int)+(m:Int)+((l.length-(i+1):Nat):Int)=(T:Int):=by omega
 have hci:(i:Int)+1≤(cap:Int):=by omega
 have Kn:(i:Int)≤(cap:Int):=by omega
 have hi1:(i:Int)≤(i:Int)+1:=by omega
 have hi2:¬((i:Int)=(i:Int)+1):=by omega
 have hi3:¬((i:Int)+1=(l.length:Int)):=by omega
 have hi4:(i:Int)+1≤(l.length:Int):=by omega
 have Ko:(0:Int)≤(i:Int):=by omega
 have hi5:(0:Int)≤(i:Int)+1:=by omega
 have htn:((i:Int)+1).toNat=i+1:=by omega
 have hw1:IntKind.i64.wrap ((i:Int)+(m:Int))=(i:Int)+(m:Int):=by exact IntWalk.i64_in _ (by omega)
 have hw2:IntKind.i64.wrap (T:Int)=(T:Int):=by exact IntWalk.i64_in _ (by omega)
 have hT1:¬((cap:Int)<(T:Int)):=by omega
 have VY:(T:Int)≤(cap:Int):=by omega
 have hT0:(0:Int)≤(T:Int):=by omega
 have him:(i:Int)+(m:Int)≤(i:Int)+1:=by omega
 have PI:(0:Int)≤(i:Int)+(m:Int):=by omega
 have PK:(i:Int)+(m:Int)≤(T:Int):=by omega
 have Uy:((i:Int)+(m:Int)).toNat=i+m:=by omega
 have hcm:¬(cap=i+m):=by omega
 have hc1:¬(cap=i+1):=by omega
 have hc0:¬(cap=i):=by omega
 have Uz:(i:Int)≤(T:Int):=by omega
 have UA:∀p c ty w,(Builtin.clear_ #[163] ty #[.slice (some p) 0 c]).run Tryz.prog w=.ok (.tuple #[]) w:=fun _ _ _ _=>rfl
 have TB:T=l.length:=by omega
 have hsz:(Tryz.prog.info? 185).map (·.size)=some 2:=by kernel_rfl
 have hx:(l.flatMap aR).length=l.length * 2:=dH l
 have hwl:(ws.flatMap aR).length=m * 2:=by rw [dH,hmm]
 have hcl:cur.toList.length=cap * 2:=by rw [Array.length_toList];exact h3
 have hgw:g<w.heap.size:=mK hown
 have hvw:vb<w.heap.size:=mK hv
 have hdl:((l.flatMap aR).drop (i * 2+2)).length=l.length * 2-(i * 2+2):=by rw [List.length_drop,hx]
 obtain⟨C1,lN⟩:∃C1:List Value,C1=cur.toList.take (i * 2)++ws.flatMap aR++cur.toList.drop (i * 2+m * 2):=⟨_,rfl⟩
 have jq:C1.length=cap * 2:=by rw [lN];simp only [List.length_append,List.length_take,List.length_drop,hcl,hwl];omega
 have hcpB:∀W:World,W.heap=w.heap→∀ty dc,(Builtin.copy_ #[163,163] ty #[.slice (some ⟨g,i * 2,none⟩) (T-i) dc,.slice (some ⟨vb,0,none⟩) m vc]).run Tryz.prog W=.ok (goInt (Nat.min m (T-i))) (W.setRow g C1.toArray):=fun W hW ty dc=>by
  have wC:W.heap[g]? = some (.cells cur 185 (0,0)):=by rw [hW];exact hg
  have wZ:C1=cur.toList.take (i * 2)++ws.flatMap aR++cur.toList.drop (i * 2+(ws.flatMap aR).length):=by rw [hwl];exact lN
  rw [wZ]
  exact dO W 163 163 ty 185 2 g (i * 2) (T-i) dc ⟨vb,0,none⟩ m vc cur 185 (ws.flatMap aR) Tryz.underlying163 hsz wC
   (by rw [hwl];show _=min _ _ * 2;omega) (fun j u hu=>by
    rw [addr_add,Nat.zero_add]
    exact(World.cell?_of_block (by rw [hW])).trans (aZ hv j u hu)) (by rw [h3,hwl];omega) (gq ws)
 obtain⟨C2,hC2⟩:∃C2:List Value,C2=C1.take (i * 2+m * 2)++(l.flatMap aR).drop (i * 2+2)++C1.drop (i * 2+m * 2+(l.length * 2-(i * 2+2))):=⟨_,rfl⟩
 have kQ:C2.length=cap * 2:=by rw [hC2];simp only [List.length_append,List.length_take,hdl,List.length_drop,jq];omega
 have Dh:∀j u,((l.flatMap aR).drop (i * 2+2))[j]? = some u→C1[i * 2+2+j]? = some u:=fun j u hu=>by
  have hj:j<l.length * 2-(i * 2+2):=by rw [←hdl];exact(List.getElem?_eq_some_iff.1 hu).1
  rw [List.getElem?_drop,←h4,List.getElem?_take] at hu
  rw [if_pos (by omega)] at hu
  rw [lN,List.getElem?_append_right (by simp only [List.length_append,List.length_take,hcl,hwl];omega)]
  simp only [List.length_append,List.length_take,hcl,hwl,List.getElem?_drop]
  rw [←hu]
  congr 1
  omega
 have hcpA:∀W:World,W.heap=(w.setRow g C1.toArray).heap→∀ty dc sc,(Builtin.copy_ #[163,163] ty #[.slice (some ⟨g,(i+m) * 2,none⟩) (T-(i+m)) dc,.slice (some ⟨g,i * 2+2,none⟩) (l.length-(i+1)) sc]).run Tryz.prog W=.ok (goInt (Nat.min (l.length-(i+1)) (T-(i+m)))) (W.setRow g C2.toArray):=fun W hW ty dc sc=>by
  have wC:W.heap[g]? = some (.cells C1.toArray 185 (0,0)):=by rw [hW];exact setRow_heap w g cur C1.toArray 185 (0,0) hg
  have yC:C2=C1.toArray.toList.take ((i+m) * 2)++(l.flatMap aR).drop (i * 2+2)++C1.toArray.toList.drop ((i+m) * 2+((l.flatMap aR).drop (i * 2+2)).length):=by rw [hdl,Nat.add_mul];exact hC2
  rw [yC]
  exact dO W 163 163 ty 185 2 g ((i+m) * 2) (T-(i+m)) dc ⟨g,i * 2+2,none⟩ (l.length-(i+1)) sc C1.toArray 185 ((l.flatMap aR).drop (i * 2+2)) Tryz.underlying163 hsz wC
   (by rw [hdl];show _=min _ _ * 2;omega) (fun j u hu=>by
    rw [addr_add]
    simp only [World.cell?,wC]
    simpa using Dh j u hu) (by rw [hdl,List.size_toArray,jq];omega) (fun u hu=>gq l u (List.mem_of_mem_drop hu))
 have hfin:C2.toArray.toList.take (T * 2)=(l.take i++ws++l.drop (i+1)).flatMap aR:=by
  have:=yD cur.toList (l.flatMap aR) (ws.flatMap aR) (i * 2) (m * 2) 2 (l.length * 2) (by rw [←h4,List.take_take];congr 1;omega) (by rw [hcl];omega) hx (by omega) hwl
  rw [←lN,←hC2] at this
  rw [show T * 2=l.length * 2-2+m * 2 by omega]
  show C2.take _=_
  rw [this,iN,show i * 2+2=(i+1) * 2 by omega,j5]
  simp
 have HF:Hid (∀W:World,W.heap=((w.setRow g C1.toArray).setRow g C2.toArray).heap→W.os=w.os→W.tape=w.tape→W.output=w.output→
  W.ownsRow 0 185 2 (.slice (some ⟨g,0,none⟩) T cap) T ((l.take i++ws++l.drop (i+1)).flatMap aR)∧Only (fun k=>k=g) w W):=Lib.hid (fun W hW e1 e2 e3=>by
  have hg1:=setRow_heap w g cur C1.toArray 185 (0,0) hg
  have hg2:=setRow_heap _ g C1.toArray C2.toArray 185 (0,0) hg1
  have o:=((Only.refl (fun k=>k=g) w).setRow (g:=g) (fun _=>rfl) C1.toArray).setRow (g:=g) (fun _=>rfl) C2.toArray
  exact⟨eZ (by rw [hW];exact hg2) hroom h2 (by rw [List.size_toArray,kQ]) hfin,e1,e2,e3,by rw [hW];exact o.size,fun k hk hs=>by rw [hW];exact o.block k hk hs⟩)
 have HA:=Lib.hid hcpA
 have HB:=Lib.hid hcpB
 clear hown h3 h4 hg hv P5 k3 k4 hmm hT lN jq hC2 kQ hfin hx hwl hcl hdl hcpA hcpB hgw hvw Dh
 have TA:l.length-T=0:=by omega
 have VZ:(T:Int)≤(l.length:Int):=by omega
 clear hm TB
 by_cases OB:cap=T
 ·subst OB
  go_enter Tryz.func219,Tryz.ntmps219
  go_wp2_with fail
  go_region_law (fail)
  go_wp2_with (first |(refine bX _ rfl _ _ 163 163 rfl _ _ rfl rfl (HB.out _ (by rfl) _ _) ?_))
  go_region_law (refine dz rfl _ _ 163 163 rfl (.slice (some ⟨g,(i+m) * 2,none⟩) (cap-(i+m)) (cap-(i+m))) (.slice (some ⟨g,i * 2+2,none⟩) (l.length-(i+1)) (cap-(i+1))) (by simp [Act.eval,Act.put]) (by simp [Act.eval,Act.put]) (HA.out _ (by rfl) _ _ _) ?_)
  go_wp2_with fail
  go_ret
  exact⟨rfl,HF.out _ rfl rfl rfl rfl⟩
 ·go_enter Tryz.func219,Tryz.ntmps219
  go_wp2_with fail
  go_region_law (fail)
  go_wp2_with (first |(refine bX _ rfl _ _ 163 163 rfl _ _ rfl rfl (HB.out _ (by rfl) _ _) ?_))
  go_region_law (refine dz rfl _ _ 163 163 rfl (.slice (some ⟨g,(i+m) * 2,none⟩) (T-(i+m)) (cap-(i+m))) (.slice (some ⟨g,i * 2+2,none⟩) (l.length-(i+1)) (cap-(i+1))) (by simp [Act.eval,Act.put]) (by simp [Act.eval,Act.put]) (HA.out _ (by rfl) _ _ _) ?_)
  go_wp2_with fail
  go_ret
  exact⟨rfl,HF.out _ rfl rfl rfl rfl⟩
end
section
open Go.RowKit
theorem KI (g cap m T:Nat) (l ws:List Kid) (i vb vc:Nat) (w:World) (hmm:ws.length=m) (hT:T=l.length-1+m) (hi:i+1<l.length) (hm:1≤m) (hroom:cap<T)
 (hown:w.ownsRow 0 185 2 (.slice (some ⟨g,0,none⟩) l.length cap) l.length (l.flatMap aR)) (hv:w.ownsRow 0 185 2 (.slice (some ⟨vb,0,none⟩) m vc) m (ws.flatMap aR)) (hn:l.length≤1000000) (hwn:m≤1000000) :
 Calls Tryz.prog 219 #[.slice (some ⟨g,0,none⟩) l.length cap,.int .i64 i,.int .i64 ((i:Int)+1),.slice (some ⟨vb,0,none⟩) m vc] w fun e w'=>∃gc,e=.returned (.slice (some ⟨w.heap.size,0,none⟩) T gc)∧w'.ownsRow 0 185 2 (.slice (some ⟨w.heap.size,0,none⟩) T gc) T ((l.take i++ws++l.drop (i+1)).flatMap aR)∧Only (fun _=>False) w w':=by
 obtain⟨i0,hi0,hz0,hz1,hz2⟩:=info_parts kF
 have hsz:(Tryz.prog.info? 185).map (·.size)=some 2:=by kernel_rfl
 obtain⟨cur,hg,h1,h2,h3,h4⟩:=dD hown
 have hc63:cap≤9223372036854775807:=by unfold maxLen at h2;omega
 have hsum:(i:Int)+(m:Int)+((l.length-(i+1):Nat):Int)=(T:Int):=by omega
 have hci:(i:Int)+1≤(cap:Int):=by omega
 have Kn:(i:Int)≤(cap:Int):=by omega
 have hi1:(i:Int)≤(i:Int)+1:=by omega
 have hi2:¬((i:Int)=(i:Int)+1):=by omega
 have hi3:¬((i:Int)+1=(l.length:Int)):=by omega
 have hi4:(i:Int)+1≤(l.length:Int):=by omega
 have Ko:(0:Int)≤(i:Int):=by omega
 have hi5:(0:Int)≤(i:Int)+1:=by omega
 have htn:((i:Int)+1).toNat=i+1:=by omega
 have hw1:IntKind.i64.wrap ((i:Int)+(m:Int))=(i:Int)+(m:Int):=by exact IntWalk.i64_in _ (by omega)
 have hw2:IntKind.i64.wrap (T:Int)=(T:Int):=by exact IntWalk.i64_in _ (by omega)
 have hw3:IntKind.i64.wrap ((T:Int)-(i:Int))=(T:Int)-(i:Int):=by exact IntWalk.i64_in _ (by omega)
 have hT1:(cap:Int)<(T:Int):=by omega
 have hT0:(0:Int)≤(T:Int):=by omega
 have PI:(0:Int)≤(i:Int)+(m:Int):=by omega
 have PK:(i:Int)+(m:Int)≤(T:Int):=by omega
 have Uy:((i:Int)+(m:Int)).toNat=i+m:=by omega
 have hc1:¬(cap=i+1):=by omega
 have hc0:¬(cap=i):=by omega
 have Uz:(i:Int)≤(T:Int):=by omega
 have hkk:(T:Int)-(i:Int)=((T-i:Nat):Int):=by omega
 have hik:i+(T-i)=T:=by omega
 have hx:(l.flatMap aR).length=l.length * 2:=dH l
 have hwl:(ws.flatMap aR).length=m * 2:=by rw [dH,hmm]
 have hgw:g<w.heap.size:=mK hown
 have hvw:vb<w.heap.size:=mK hv
 have hold:(Builtin.firstCells i0.size i (.slice (some ⟨g,0,none⟩) i cap)).run Tryz.prog w.drew.drew=.ok ((l.flatMap aR).take (i * 2)).toArray w.drew.drew:=by
  rw [hz1]
  exact run_firstCells_some w.drew.drew 2 i ⟨g,0,none⟩ i cap ((l.flatMap aR).take (i * 2)) (by rw [List.length_take,hx];omega) (fun j u hu=>by
   rw [addr_add,Nat.zero_add]
   rw [List.getElem?_take] at hu
   split at hu
   ·exact aZ hown _ u hu
   ·cases hu)
 have hrz:∀ty,(Builtin.append_ #[163,3] ty #[.slice (some ⟨g,0,none⟩) i cap,.int .i64 ((T:Int)-(i:Int))]).run Tryz.prog w.drew =
  .ok (.slice (some ⟨w.heap.size,0,none⟩) T (grownCap w.drew T cap 185)) (w.drew.drew.alloc (.cells (((l.flatMap aR).take (i * 2)).toArray++Builtin.zeroCells (Value.agg #[str [],.int .i64 0]).cells (T-i)++Builtin.zeroCells (Value.agg #[str [],.int .i64 0]).cells (grownCap w.drew T cap 185-T)) 185)):=fun ty=>by
  have h:=Lib.run_append_grow_zeros w.drew 163 3 ty 185 i0 _ .i64 .i64 Tryz.underlying163 Tryz.underlying3 hi0 hz0 (some ⟨g,0,none⟩) i cap ((l.flatMap aR).take (i * 2)) hold (T-i) (by omega) (by omega) (by omega) (by omega) (by rw [hz2];omega) (by rw [hz2,hik];exact growslice_fits hroom (by omega))
  rw [hik] at h
  rw [hkk]
  exact h
 have hGn:T≤grownCap w.drew T cap 185:=grownCap_ge w.drew _ _ _
 have KC:grownCap w.drew T cap 185≤maxLen:=grownCap_le_maxLen w.drew _ _ _ (by unfold maxLen;omega)
 generalize grownCap w.drew T cap 185=G at *
 obtain⟨R,hR⟩:∃R:Array Value,R=((l.flatMap aR).take (i * 2)).toArray++Builtin.zeroCells (Value.agg #[str [],.int .i64 0]).cells (T-i)++Builtin.zeroCells (Value.agg #[str [],.int .i64 0]).cells (G-T):=⟨_,rfl⟩
 rw [←hR] at hrz
 have hzl:(Value.agg #[str [],.int .i64 0]).cells.size=2:=rfl
 have hRl:R.size=G * 2:=by
  rw [hR]
  simp only [Array.size_append,Builtin.zeroCells,Array.size_map,Array.size_range,hzl,List.size_toArray,List.length_take,hx]
  omega
 have OH:R.toList.take (i * 2)=(l.flatMap aR).take (i * 2):=by
  rw [hR]
  simp only [Array.toList_append,List.append_assoc]
  have hl:((l.flatMap aR).take (i * 2)).length=i * 2:=by rw [List.length_take,hx];omega
  have:=List.take_left (l₁:=(l.flatMap aR).take (i * 2)) (l₂:=(Builtin.zeroCells (Value.agg #[str [],.int .i64 0]).cells (T-i)).toList++(Builtin.zeroCells (Value.agg #[str [],.int .i64 0]).cells (G-T)).toList)
  rwa [hl] at this
 clear hR
 have hG63:G≤9223372036854775807:=by unfold maxLen at KC;omega
 have hGi:¬(G=i):=by omega
 have RL:¬(G=i+m):=by omega
 have V6:(T:Int)≤(G:Int):=by omega
 obtain⟨C1,lN⟩:∃C1:List Value,C1=R.toList.take (i * 2)++ws.flatMap aR++R.toList.drop (i * 2+m * 2):=⟨_,rfl⟩
 have yR:R.toList.length=G * 2:=by rw [Array.length_toList];exact hRl
 have jq:C1.length=G * 2:=by rw [lN];simp only [List.length_append,List.length_take,List.length_drop,yR,hwl];omega
 have hcpA:∀W:World,W.heap=(w.alloc (.cells R 185)).heap→∀ty dc,(Builtin.copy_ #[163,163] ty #[.slice (some ⟨w.heap.size,i * 2,none⟩) (T-i) dc,.slice (some ⟨vb,0,none⟩) m vc]).run Tryz.prog W=.ok (goInt (Nat.min m (T-i))) (W.setRow w.heap.size C1.toArray):=fun W hW ty dc=>by
  have wC:W.heap[w.heap.size]? = some (.cells R 185 (0,0)):=by rw [hW];exact heap_alloc_new _ _
  have PX:W.heap[vb]? = w.heap[vb]?:=by rw [hW,((Only.refl (fun _=>False) w).alloc (.cells R 185)).block vb hvw id]
  have wZ:C1=R.toList.take (i * 2)++ws.flatMap aR++R.toList.drop (i * 2+(ws.flatMap aR).length):=by rw [hwl];exact lN
  rw [wZ]
  exact dO W 163 163 ty 185 2 w.heap.size (i * 2) (T-i) dc ⟨vb,0,none⟩ m vc R 185 (ws.flatMap aR) Tryz.underlying163 hsz wC
   (by rw [hwl];show _=min _ _ * 2;omega) (fun j u hu=>by
    rw [addr_add,Nat.zero_add]
    exact(World.cell?_of_block PX).trans (aZ hv j u hu)) (by rw [hRl,hwl];omega) (gq ws)
 have hdl:((l.flatMap aR).drop (i * 2+2)).length=l.length * 2-(i * 2+2):=by rw [List.length_drop,hx]
 obtain⟨C2,hC2⟩:∃C2:List Value,C2=C1.take (i * 2+m * 2)++(l.flatMap aR).drop (i * 2+2)++C1.drop (i * 2+m * 2+(l.length * 2-(i * 2+2))):=⟨_,rfl⟩
 have kQ:C2.length=G * 2:=by rw [hC2];simp only [List.length_append,List.length_take,hdl,List.length_drop,jq];omega
 have hcpB:∀W:World,W.heap=((w.alloc (.cells R 185)).setRow w.heap.size C1.toArray).heap→∀ty dc sc,(Builtin.copy_ #[163,163] ty #[.slice (some ⟨w.heap.size,(i+m) * 2,none⟩) (T-(i+m)) dc,.slice (some ⟨g,i * 2+2,none⟩) (l.length-(i+1)) sc]).run Tryz.prog W=.ok (goInt (Nat.min (l.length-(i+1)) (T-(i+m)))) (W.setRow w.heap.size C2.toArray):=fun W hW ty dc sc=>by
  have wC:W.heap[w.heap.size]? = some (.cells C1.toArray 185 (0,0)):=by rw [hW];exact setRow_heap (w.alloc (.cells R 185)) w.heap.size R C1.toArray 185 (0,0) (heap_alloc_new _ _)
  have RN:W.heap[g]? = w.heap[g]?:=by
   rw [hW]
   exact(((Only.refl (fun _=>False) w).alloc (.cells R 185)).setRow (g:=w.heap.size) (fun q=>by omega) C1.toArray).block g hgw id
  have yC:C2=C1.toArray.toList.take ((i+m) * 2)++(l.flatMap aR).drop (i * 2+2)++C1.toArray.toList.drop ((i+m) * 2+((l.flatMap aR).drop (i * 2+2)).length):=by rw [hdl,Nat.add_mul];exact hC2
  rw [yC]
  exact dO W 163 163 ty 185 2 w.heap.size ((i+m) * 2) (T-(i+m)) dc ⟨g,i * 2+2,none⟩ (l.length-(i+1)) sc C1.toArray 185 ((l.flatMap aR).drop (i * 2+2)) Tryz.underlying163 hsz wC
   (by rw [hdl];show _=min _ _ * 2;omega) (fun j u hu=>by
    rw [addr_add]
    rw [List.getElem?_drop] at hu
    exact(World.cell?_of_block RN).trans (aZ hown _ u hu)) (by rw [hdl,List.size_toArray,jq];omega) (fun u hu=>gq l u (List.mem_of_mem_drop hu))
 have hfin:C2.toArray.toList.take (T * 2)=(l.take i++ws++l.drop (i+1)).flatMap aR:=by
  have:=yD R.toList (l.flatMap aR) (ws.flatMap aR) (i * 2) (m * 2) 2 (l.length * 2) OH (by rw [yR];omega) hx (by omega) hwl
  rw [←lN,←hC2] at this
  rw [show T * 2=l.length * 2-2+m * 2 by omega]
  show C2.take _=_
  rw [this,iN,show i * 2+2=(i+1) * 2 by omega,j5]
  simp
 have HF:Hid (∀W:World,W.heap=(((w.alloc (.cells R 185)).setRow w.heap.size C1.toArray).setRow w.heap.size C2.toArray).heap→W.os=w.os→W.tape=w.tape→W.output=w.output→
  W.ownsRow 0 185 2 (.slice (some ⟨w.heap.size,0,none⟩) T G) T ((l.take i++ws++l.drop (i+1)).flatMap aR)∧Only (fun _=>False) w W):=Lib.hid (fun W hW e1 e2 e3=>by
  have hg1:=setRow_heap (w.alloc (.cells R 185)) w.heap.size R C1.toArray 185 (0,0) (heap_alloc_new _ _)
  have hg2:=setRow_heap _ w.heap.size C1.toArray C2.toArray 185 (0,0) hg1
  have o:=(((Only.refl (fun _=>False) w).alloc (.cells R 185)).setRow (g:=w.heap.size) (fun q=>by omega) C1.toArray).setRow (g:=w.heap.size) (fun q=>by omega) C2.toArray
  exact⟨eZ (by rw [hW];exact hg2) hGn KC (by rw [List.size_toArray,kQ]) hfin,e1,e2,e3,by rw [hW];exact o.size,fun k hk hs=>by rw [hW];exact o.block k hk hs⟩)
 have HA:=Lib.hid hcpA
 have HB:=Lib.hid hcpB
 clear hown h3 h4 hg hv hmm hT lN jq hC2 kQ hfin hx hwl hdl hcpA hcpB hold hRl OH yR hkk hik KC hm
 go_enter Tryz.func219,Tryz.ntmps219
 go_wp2_with fail
 go_region_law (fail)
 go_wp2_with (first |(at_builtin;refine Lib.wpList_append_run _ rfl _ _ _ _ rfl _ _ rfl rfl _ _ (hrz _) ?_) |(refine bX _ rfl _ _ 163 163 rfl _ _ rfl rfl (HA.out _ (by rfl) _ _) ?_))
 go_region_law (refine dz rfl _ _ 163 163 rfl (.slice (some ⟨w.heap.size,(i+m) * 2,none⟩) (T-(i+m)) (G-(i+m))) (.slice (some ⟨g,i * 2+2,none⟩) (l.length-(i+1)) (cap-(i+1))) (by simp [Act.eval,Act.put]) (by simp [Act.eval,Act.put]) (HB.out _ (by rfl) _ _ _) ?_)
 go_wp2_with fail
 go_ret
 exact⟨G,rfl,HF.out _ rfl rfl rfl rfl⟩
end
end Go.Proofs.YtbhiamcmiopnoaaGreatDoor
