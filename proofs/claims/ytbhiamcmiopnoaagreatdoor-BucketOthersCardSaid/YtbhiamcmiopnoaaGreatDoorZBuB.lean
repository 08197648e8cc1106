/- Package big: the pages of a reference. Conditions: one goroutine. -/
import Derived.Test.YtbhiamcmiopnoaaGreatDoorZBuA
import Derived.Test.YtbhiamcmiopnoaaGreatDoorZPages
import Derived.Test.YtbhiamcmiopnoaaGreatDoorZDrop
set_option maxHeartbeats 4000000
set_option maxRecDepth 100000
namespace Go.Proofs.YtbhiamcmiopnoaaGreatDoor
section
open Go.RowKit Go.MuLone
def Ee (first k:Nat):List Int:=(List.range k).map fun i=>((first+i:Nat):Int)
theorem I6 (first k:Nat):Ee first (k+1)=Ee first k++[((first+k:Nat):Int)]:=by simp [Ee,List.range_succ]
theorem Ef (first k:Nat):(Ee first k).length=k:=by simp [Ee]
theorem jf {n:Nat} (h:n≤2000):bW n≤9:=by
 unfold bW
 split<;>omega
def Ch (w:World) (first n:Nat):Ending→World→Prop:=fun e w'=>∃v,e=.returned (.tuple #[v,.int .i64 0])∧bL qN 1 w' v (kr first n)∧Only (fun _=>False) w w'∧∀j,bI v=some j→w.heap.size≤j∧j<w'.heap.size
theorem Eb (w:World) (first n:Nat) (hf:2≤first∧first<4000) (hn:n≤2000):Calls Tryz.prog 138 #[str (gD first n)] w (Ch w first n):=by
 obtain⟨i0,hi,hz0,hz1,hz2⟩:=info_parts nN
 have HU:=Lib.hid (yh w first n hf hn)
 have HN:=Lib.hid (fun W=>vo W n (by omega))
 have Q6:=jf hn
 go_enter Tryz.func138,Tryz.ntmps138
 go_wp2_with fail
 (with_reducible refine HU.out.mono ?_)
 rintro e w2 ⟨rfl,o2⟩
 go_wp2_with fail
 (with_reducible refine(HN.out w2).mono ?_)
 rintro e w3 ⟨rfl,rfl⟩
 have HO:=Lib.hid o2
 clear o2 HU HN
 go_wp2_with fail
 go_loopg [7,20] (bW n) (fun gh ov iv wr=>∃k:Nat,gh+k=bW n∧iv=.int .i64 k∧wr.ownsRow 0 3 1 ov k (eT (Ee first k))∧Only (fun _=>False) w wr∧∀j,ov.ownBlock=some j→w.heap.size≤j)
 case atStart=>exact⟨0,by omega,rfl,⟨rfl,.inl ⟨rfl,rfl⟩⟩,HO.out,fun j q=>by cases q⟩
 case round=>
  obtain⟨k,u6,rfl,hown,ho,hfr⟩:=hrel
  obtain⟨aO,cO,rfl⟩:=ownsRow_form hown
  by_cases hk:k<bW n
  ·have hk1:(k:Int)<(bW n:Int):=by omega
   have hw1:IntKind.i64.wrap ((k:Int)+1)=(k:Int)+1:=by exact IntWalk.i64_in _ (by omega)
   have hw2:IntKind.i64.wrap ((first:Int)+(k:Int))=(first:Int)+(k:Int):=by exact IntWalk.i64_in _ (by omega)
   have HOWN:=Lib.hid (hown.alloc (.cells #[.int .i64 ((first:Int)+(k:Int))] 3))
   have p9:=Lib.hid (bH wr [.int .i64 ((first:Int)+(k:Int))] 3 (0,0))
   have HB:=Lib.hid (And.intro ho hfr)
   have hmax:k+1≤maxLen:=by unfold maxLen;omega
   have hbig:(k+1) * 8≤140737488355328:=by omega
   clear hown ho hfr
   go_wp2_with (at_builtin;refine aM _ rfl _ _ 57 rfl 3 i0 _ 1 8 Tryz.underlying57 hi hz0 hz1 hz2 rfl (by decide) _ _ _ rfl HOWN.out ⟨wr.heap.size,0,none⟩ 1 1 [.int .i64 ((first:Int)+(k:Int))] rfl rfl p9.out (by simp [Value.oneCell']) hmax hbig ?_;intro a' c' wx hown2 hgr hmv;have HG:=Lib.hid (And.intro hown2 (And.intro hgr hmv));clear hown2 hgr hmv)
   all_goals
    go_roundg (bW n-(k+1))
    case measure=>omega
    case rel=>
     obtain⟨hown2,hgr,hmv⟩:=HG.out
     have hq:Only (fun j=>(Value.slice aO k cO).ownBlock=some j) wr wx:=((Only.refl _ wr).alloc _).grown hgr (fun _ _ h=>h)
     refine⟨k+1,by omega,by go_num,?_,?_,fun j hj=>?_⟩
     ·rw [I6]
      simpa [eT] using hown2
     ·exact(Only.trans (HB.out.1.mono (T:=fun j=>(Value.slice aO k cO).ownBlock=some j) (fun _ _ (q:False)=>q.elim)) hq (fun _ _ q=>q)).mono (fun j hj q=>by have:=HB.out.2 j q;omega)
     ·have hs:=HB.out.1.size
      rcases hmv j hj with q | q
      ·exact HB.out.2 j q
      ·simp at q
       omega
  ·have hk2:k=bW n:=by omega
   have hk1:¬(k:Int)<(bW n:Int):=by omega
   have hrow:bL qN 1 wr (.slice aO k cO) (Ee first k):=bS (enc:=qN) (k:=1) (fun _=>rfl) (by rw [Ef,←iP];exact hown)
   have HF:Hid (Ch w first n (.returned (.tuple #[.slice aO k cO,.int .i64 0])) wr):=Lib.hid ⟨_,rfl,by rw [show kr first n=Ee first k by rw [hk2];rfl];exact hrow,ho,fun j hj=>by
    have hj2:(Value.slice aO k cO).ownBlock=some j:=by
     rcases hown.2 with ⟨q,h0⟩ |⟨g,cap,cur,q,_⟩
     ·cases q
      cases hj
     ·cases q
      exact hj
    exact⟨hfr j hj2,(hown.lt j hj2).2⟩⟩
   subst hk2
   clear hown ho hfr hrow
   go_wp2_with fail
   go_ret2
   exact HF.out
end
section
open Go.RowKit Go.MuLone
def qR (v:Bytes) (k:Nat):List Node:=(List.range k).map fun i=>.over (fJ v i)
theorem FQ (v:Bytes) (k:Nat):qR v (k+1)=qR v k++[.over (fJ v k)]:=by simp [qR,List.range_succ]
theorem uU (v:Bytes) (k:Nat):(qR v k).length=k:=by simp [qR]
theorem kW (v:Bytes) (k:Nat):(fJ v k).length≤232:=by unfold fJ;rw [List.length_take];omega
theorem NJ (w:World) (b:Bytes) (hb:b.length≤232) (id:Int) (hid:0≤id∧id<4000):Calls Tryz.prog 182 #[qO (.over b) id] w fun e w'=>e=.returned (.bool true)∧Only (fun _=>False) w w':=by
 have ho:=(Only.refl (fun _=>False) w).alloc (.cells #[.int .i64 5,.int .i64 id,.int .i64 0,str b] 252)
 have q1:decide (id≥0)=true:=decide_eq_true (by omega)
 have q2:decide (id<4000)=true:=decide_eq_true (by omega)
 have q3:decide ((b.length:Int)≤232)=true:=decide_eq_true (by omega)
 have HO:=Lib.hid ho
 unfold qO mI eU eX
 go_enter Tryz.func182,Tryz.ntmps182
 go_wp2_with fail
 go_ret
 exact⟨rfl,HO.out⟩
theorem zK (v:Bytes) (k:Nat) (hk:k * 232≤v.length):(ByteArray.mk v.toArray).extract (k * 232) (min ((k:Int) * 232+232) (v.length:Int)).toNat=⟨(fJ v k).toArray⟩:=by
 have e:(min ((k:Int) * 232+232) (v.length:Int)).toNat=min (k * 232+232) v.length:=by omega
 rw [e]
 apply ByteArray.ext
 rw [ByteArray.data_extract]
 apply Array.ext'
 simp only [Array.toList_extract,List.extract_eq_take_drop,List.toList_toArray,fJ]
 by_cases h:k * 232+232≤v.length
 ·rw [Nat.min_eq_left h]
  congr 1
  omega
 ·rw [Nat.min_eq_right (by omega),List.take_of_length_le (by simp),List.take_of_length_le (by rw [List.length_drop];omega)]
theorem CV {n k:Nat} (h:k<bW n):k * 232≤n:=by
 unfold bW at h
 split at h<;>omega
def Eh (w:World) (v:Bytes):Ending→World→Prop:=fun e w'=>∃a c,e=.returned (.tuple #[.slice a (bW v.length) c,.int .i64 0])∧w'.ownsRow 0 252 4 (.slice a (bW v.length) c) (bW v.length) (iI (qR v (bW v.length)))∧Only (fun _=>False) w w'∧∀j,(Value.slice a (bW v.length) c).ownBlock=some j→w.heap.size≤j
theorem Le (w:World) (v:Bytes) (hn:v.length≤2000):Calls Tryz.prog 148 #[str v,.int .i64 2,.int .i64 0] w (Eh w v):=by
 obtain⟨i0,hi,hz0,hz1,hz2⟩:=info_parts nM
 have HN:=Lib.hid (fun W=>vo W v.length (by omega))
 have Q6:=jf hn
 have q1:decide ((v.length:Int) > 2000)=false:=decide_eq_false (by omega)
 go_enter Tryz.func148,Tryz.ntmps148
 go_wp2_with fail
 (with_reducible refine(HN.out w).mono ?_)
 rintro e w3 ⟨rfl,rfl⟩
 clear HN
 go_wp2_with fail
 go_loopg [8,26] (bW v.length) (fun gh ov iv wr=>∃k:Nat,gh+k=bW v.length∧iv=.int .i64 k∧wr.ownsRow 0 252 4 ov k (iI (qR v k))∧Only (fun _=>False) w wr∧∀j,ov.ownBlock=some j→w.heap.size≤j)
 case atStart=>exact⟨0,by omega,rfl,⟨rfl,.inl ⟨rfl,rfl⟩⟩,Only.refl _ _,fun j q=>by cases q⟩
 case round=>
  obtain⟨k,u6,rfl,hown,ho,hfr⟩:=hrel
  obtain⟨aO,cO,rfl⟩:=ownsRow_form hown
  by_cases hk:k<bW v.length
  ·have hk1:(k:Int)<(bW v.length:Int):=by omega
   have hw1:IntKind.i64.wrap ((k:Int)+1)=(k:Int)+1:=by exact IntWalk.i64_in _ (by omega)
   have hw2:IntKind.i64.wrap (2+(k:Int))=2+(k:Int):=by exact IntWalk.i64_in _ (by omega)
   have hw3:IntKind.i64.wrap ((k:Int) * 232)=(k:Int) * 232:=by exact IntWalk.i64_in _ (by omega)
   have hw4:IntKind.i64.wrap ((k:Int) * 232+232)=(k:Int) * 232+232:=by exact IntWalk.i64_in _ (by omega)
   have HB:=Lib.hid (And.intro hown (And.intro ho hfr))
   have hin:=CV hk
   have hbd:0≤(k:Int) * 232∧(k:Int) * 232≤min ((k:Int) * 232+232) (v.length:Int):=by omega
   have HX:=Lib.hid (zK v k hin)
   have HC:=Lib.hid (CO (fJ v k) (by have:=kW v k;omega))
   have HV:=Lib.hid (fun W=>NJ W (fJ v k) (kW v k) (2+(k:Int)) (by omega))
   unfold qO mI eU eX at HV
   clear hown ho hfr hin
   go_wp2_with fail
   rw [HX.out]
   (with_reducible refine(HC.out wr).mono ?_)
   rintro e w4 ⟨rfl,o4⟩
   have oA:=(Only.refl (fun _=>False) w4).alloc (.cells #[.int .i64 5,.int .i64 (2+(k:Int)),.int .i64 0,str (fJ v k)] 252)
   have bA:=dw w4 (.cells #[.int .i64 5,.int .i64 (2+(k:Int)),.int .i64 0,str (fJ v k)] 252)
   have c0:=aj bA 0
   have c1:=aj bA 1
   have c2:=aj bA 2
   have c3:=aj bA 3
   simp only [List.getElem?_toArray,List.getElem?_cons_zero,List.getElem?_cons_succ] at c0 c1 c2 c3
   have HA:=Lib.hid (And.intro bA (And.intro o4 oA))
   clear bA o4 oA
   go_wp2_with fail
   generalize Q7:(w4.alloc (.cells #[.int .i64 5,.int .i64 (2+(k:Int)),.int .i64 0,str (fJ v k)] 252))=W5 at *
   (with_reducible refine(HV.out W5).mono ?_)
   rintro e w6 ⟨rfl,o6⟩
   obtain⟨bA,o4,oA⟩:=HA.out
   have oW:Only (fun _=>False) wr w6:=Only.trans (Only.trans o4 oA (fun _ _ q=>q)) o6 (fun _ _ q=>q)
   have bB:=dR bA o6 id
   have d0:=aj bB 0
   have d1:=aj bB 1
   have d2:=aj bB 2
   have d3:=aj bB 3
   simp only [List.getElem?_toArray,List.getElem?_cons_zero,List.getElem?_cons_succ] at d0 d1 d2 d3
   have pY:=aP HB.out.1 oW (fun _ _ q=>q)
   have HOWN:=Lib.hid (pY.alloc (.cells #[.int .i64 5,.int .i64 (2+(k:Int)),.int .i64 0,str (fJ v k)] 252))
   have p9:=Lib.hid (bH w6 [.int .i64 5,.int .i64 (2+(k:Int)),.int .i64 0,str (fJ v k)] 252 (0,0))
   have HW:=Lib.hid oW
   have hmax:k+1≤maxLen:=by unfold maxLen;omega
   have hbig:(k+1) * 40≤140737488355328:=by omega
   clear bA o4 oA oW bB o6 pY HA HV HC c0 c1 c2 c3 Q7
   go_wp2_with (at_builtin;refine aM _ rfl _ _ 60 rfl 252 i0 _ 4 40 Tryz.underlying60 hi hz0 hz1 hz2 rfl (by decide) _ _ _ rfl HOWN.out ⟨w6.heap.size,0,none⟩ 1 1 [.int .i64 5,.int .i64 (2+(k:Int)),.int .i64 0,str (fJ v k)] rfl rfl p9.out (by simp [Value.oneCell',str]) hmax hbig ?_;intro a' c' wx hown2 hgr hmv;have HG:=Lib.hid (And.intro hown2 (And.intro hgr hmv));clear hown2 hgr hmv)
   all_goals
    go_roundg (bW v.length-(k+1))
    case measure=>omega
    case rel=>
     obtain⟨hown2,hgr,hmv⟩:=HG.out
     have hq:Only (fun j=>(Value.slice aO k cO).ownBlock=some j) w6 wx:=((Only.refl _ w6).alloc _).grown hgr (fun _ _ h=>h)
     have oX:Only (fun _=>False) w w6:=Only.trans HB.out.2.1 HW.out (fun _ _ q=>q)
     refine⟨k+1,by omega,by go_num,?_,?_,fun j hj=>?_⟩
     ·rw [FQ,qP,uU]
      have e:(2+(k:Int))=((k+2:Nat):Int):=by omega
      rw [e] at hown2
      exact hown2
     ·exact(Only.trans (oX.mono (T:=fun j=>(Value.slice aO k cO).ownBlock=some j) (fun _ _ (q:False)=>q.elim)) hq (fun _ _ q=>q)).mono (fun j hj q=>by have:=HB.out.2.2 j q;omega)
     ·have hs:=oX.size
      rcases hmv j hj with q | q
      ·exact HB.out.2.2 j q
      ·simp at q
       omega
  ·have hk2:k=bW v.length:=by omega
   have hk1:¬(k:Int)<(bW v.length:Int):=by omega
   subst hk2
   have HF:Hid (Eh w v (.returned (.tuple #[.slice aO (bW v.length) cO,.int .i64 0])) wr):=Lib.hid ⟨_,_,rfl,hown,ho,hfr⟩
   clear hown ho hfr
   go_wp2_with fail
   go_ret2
   exact HF.out
end
section
open Go.RowKit Go.MuLone
def Tail (w:World) (g:Nat) (ns:List Node) (k:Nat):Prop:=∀(m:Nat) (n:Node),k≤m→ns[m]? = some n→∀(j:Nat) (u:Value),(mI n ((m+2:Nat):Int))[j]? = some u→w.cell? ⟨g,m * 4+j,none⟩=some u∧w.frozen? ⟨g,m * 4+j,none⟩=false
theorem Tail.keep {w w':World} {g:Nat} {ns:List Node} {k:Nat} {F:Nat→Prop} (h:Tail w g ns k) (ho:Only F w w') (hF:¬F g):Tail w' g ns k:=fun m n hm hn j u hu=>by
 obtain⟨a,b⟩:=h m n hm hn j u hu
 exact⟨(ho.cell (p:=⟨g,m * 4+j,none⟩) (lt_of_cell a) hF).trans a,(ho.frozen (p:=⟨g,m * 4+j,none⟩) (lt_of_cell a) hF).trans b⟩
structure Ec (b:Nat) (S:aW) (g:Nat) (w w':World) (ns:List Node):Prop where
 pages:aA w' b { S with L:=S.L++ns }
 only:Only (fun k=>bn w b k∨k=g) w w'
 own:∀k,bn w' b k→bn w b k∨w.heap.size≤k
theorem NI (w:World) (b:Nat) (S:aW) (ns:List Node) (g c:Nat) (h:aA w b S) (hs:∀n∈ns,mQ n) (hL:S.L.length+ns.length≤3998) (hT:Tail w g ns 0) (hgw:g<w.heap.size) (hg:¬bn w b g) :
 Calls Tryz.prog 258 #[.pointer (some ⟨b,0,none⟩),.slice (some ⟨g,0,none⟩) ns.length c] w fun e w'=>e=.returned (.tuple #[.int .i64 (S.L.length+2),.int .i64 0])∧Ec b S g w w' ns:=by
 obtain⟨i0,hi,hz0,hz1,hz2⟩:=info_parts nM
 have OV:Ec b S g w w (ns.take 0):=⟨by simpa using h,Only.refl _ _,fun _ q=>.inl q⟩
 obtain⟨vL,vG,h⟩:=h
 obtain⟨aL,cL,rfl⟩:=ownsRow_form h.iY
 have c0:=ay h.heap 0
 simp only [List.getElem?_toArray,List.getElem?_cons_zero] at c0
 have hw1:IntKind.i64.wrap ((S.L.length:Int)+2)=(S.L.length:Int)+2:=by exact IntWalk.i64_in _ (by omega)
 have hw2:IntKind.i64.wrap ((S.L.length:Int)+2+(ns.length:Int))=(S.L.length:Int)+2+(ns.length:Int):=by exact IntWalk.i64_in _ (by omega)
 have hf:decide ((S.L.length:Int)+2+(ns.length:Int) > 4000)=false:=decide_eq_false (by omega)
 have hf2:¬4000<(S.L.length:Int)+2+(ns.length:Int):=by omega
 have H0:=Lib.hid (And.intro OV hT)
 clear h OV hT
 go_enter Tryz.func258,Tryz.ntmps258
 go_wp2_with fail
 go_loopg [7] ns.length (fun gh iv wr=>∃k:Nat,gh+k=ns.length∧iv=.int .i64 k∧Ec b S g w wr (ns.take k)∧Tail wr g ns k)
 case atStart=>exact⟨0,by omega,rfl,H0.out⟩
 case round=>
  obtain⟨k,u6,rfl,hr,ht⟩:=hrel
  by_cases hk:k<ns.length
  ·have hk1:(k:Int)<(ns.length:Int):=by omega
   have hw3:IntKind.i64.wrap ((k:Int)+1)=(k:Int)+1:=by exact IntWalk.i64_in _ (by omega)
   have hw4:IntKind.i64.wrap ((S.L.length:Int)+2+(k:Int))=(S.L.length:Int)+2+(k:Int):=by exact IntWalk.i64_in _ (by omega)
   obtain⟨n,hn⟩:∃n,ns[k]? = some n:=⟨_,List.getElem?_eq_getElem hk⟩
   have q0:=(ht k n (Nat.le_refl _) hn 0 _ rfl).1
   have q1:=(ht k n (Nat.le_refl _) hn 1 _ rfl).1
   have z1:=(ht k n (Nat.le_refl _) hn 1 _ rfl).2
   have q2:=(ht k n (Nat.le_refl _) hn 2 _ rfl).1
   have q3:=(ht k n (Nat.le_refl _) hn 3 _ rfl).1
   have hgr:=fun q=>(hr.own g q).elim hg (fun q=>by omega)
   have Qg:Only (fun j=>j=g) wr (wr.setCell ⟨g,k * 4+1,none⟩ (.int .i64 ((S.L.length:Int)+2+(k:Int)))):=(Only.refl (fun j=>j=g) wr).put g (k * 4+1) rfl _
   have P8:Tail (wr.setCell ⟨g,k * 4+1,none⟩ (.int .i64 ((S.L.length:Int)+2+(k:Int)))) g ns (k+1):=fun m n hm hn j u hu=>by
    obtain⟨x,y⟩:=ht m n (by omega) hn j u hu
    exact⟨(World.cell?_setCell_other _ _ _ _ (oC _ _ _ (by omega))).trans x,by simpa using y⟩
   have x0:=(World.cell?_setCell_other wr ⟨g,k * 4+1,none⟩ ⟨g,k * 4,none⟩ (.int .i64 ((S.L.length:Int)+2+(k:Int))) (oC _ _ _ (by omega))).trans q0
   have x1:=jV q1 (.int .i64 ((S.L.length:Int)+2+(k:Int)))
   have x2:=(World.cell?_setCell_other wr ⟨g,k * 4+1,none⟩ ⟨g,k * 4+2,none⟩ (.int .i64 ((S.L.length:Int)+2+(k:Int))) (oC _ _ _ (by omega))).trans q2
   have x3:=(World.cell?_setCell_other wr ⟨g,k * 4+1,none⟩ ⟨g,k * 4+3,none⟩ (.int .i64 ((S.L.length:Int)+2+(k:Int))) (oC _ _ _ (by omega))).trans q3
   have hsn:=hs n (List.mem_of_getElem? hn)
   have hLk:(S.L++ns.take k).length=S.L.length+k:=by simp;omega
   have hLn:S.L++ns.take (k+1)=(S.L++ns.take k)++[n]:=by rw [List.take_add_one,hn];simp
   have hR:=Lib.hid (And.intro hr.only hr.own)
   obtain⟨S1,hS1⟩:∃S1:aW,{ S with L:=S.L++ns.take k }=S1:=⟨_,rfl⟩
   have hS2:{ S with L:=S.L++ns.take (k+1) } = { S1 with L:=S1.L++[n] }:=by rw [←hS1,hLn]
   have hl1:S1.L.length=S.L.length+k:=by rw [←hS1];exact hLk
   have hp1:=hr.pages
   rw [hS1] at hp1
   obtain⟨vK,XW,hin⟩:=hp1
   have Lg:=hin.beside Qg (fun j q e=>hgr (e▸q))
   have hown:∀j,bn (wr.setCell ⟨g,k * 4+1,none⟩ (.int .i64 ((S.L.length:Int)+2+(k:Int)))) b j↔bn wr b j:=aD (Qg.block b hin.lt (fun e=>hgr (.inl e.symm)))
   have hgW:=fun q=>hgr ((hown g).1 q)
   obtain⟨aK,cK,rfl⟩:=ownsRow_form Lg.iY
   have k0:=ay Lg.heap 0
   have y0:=aQ Lg.heap 0
   simp only [List.getElem?_toArray,List.getElem?_cons_zero] at k0
   have HB:=Lib.hid (And.intro Qg (And.intro P8 (And.intro hown hgW)))
   have HI:=Lib.hid Lg
   have HE:=Lib.hid (And.intro hS2 hl1)
   have gy:=HI.out.few
   have Wt:S1.L.length+1≤3998:=by omega
   clear hr ht Qg P8 hgr hLk hLn hin Lg hown hgW hS2 hS1 hl1
   go_wp2_with fail
   generalize (wr.setCell ⟨g,k * 4+1,none⟩ (.int .i64 ((S.L.length:Int)+2+(k:Int))))=W at *
   have hbW:b<W.heap.size:=HI.out.lt
   have BZ:=HI.out.MJ
   have own:=HI.out.iY
   clear q0 q1 q2 q3 z1 c0
   go_region_law (refine dF _ rfl _ _ 60 rfl 252 i0 _ 4 40 Tryz.underlying60 hi hz0 hz1 hz2 rfl (by decide) _ _ _ rfl (own.drew.alloc _) ⟨W.heap.size,0,none⟩ 1 1 [.int .i64 (eU n),.int .i64 ((S.L.length:Int)+2+(k:Int)),.int .i64 0,str (eX n)] rfl rfl (bH W.drew [.int .i64 (eU n),.int .i64 ((S.L.length:Int)+2+(k:Int)),.int .i64 0,str (eX n)] 252 _) (by simp [Value.oneCell',str]) (by unfold maxLen;omega) (by omega) ?_;intro a' c' wa hown2 hgr hmv;have hq:Only (fun k=>(Value.slice aK S1.L.length cK).ownBlock=some k) W wa:=(((Only.refl _ W).drew).alloc _).grown hgr (fun k _ h=>h);have e0:=(hq.cell (p:=⟨b,0,none⟩) hbW BZ).trans k0;have f0:=(hq.frozen (p:=⟨b,0,none⟩) hbW BZ).trans y0;clear hgr)
   all_goals
    have hin:=HI.out
    have OT:∀k,(Value.slice a' (S1.L.length+1) c').ownBlock=some k→(Value.slice aK S1.L.length cK).ownBlock=some k∨W.heap.size≤k:=fun k hk=>(hmv k hk).imp id fun q=>by simp at q;omega
    have hnb:(Value.slice a' (S1.L.length+1) c').ownBlock≠some b:=fun e=>(OT b e).elim BZ fun q=>by omega
    have hl2:(S1.L++[n]).length=S1.L.length+1:=by simp
    have Sm:(S.L.length:Int)+2+(k:Int)=((S1.L.length+2:Nat):Int):=by have:=HE.out.2;omega
    have hput:=hin.put (S':={ S1 with L:=S1.L++[n] }) (w1:=wa.setCell ⟨b,0,none⟩ (.slice a' (S1.L.length+1) c')) (GN:=.slice a' (S1.L.length+1) c') (GQ:=XW)
     (heap_setCell ((hq.block b hbW BZ).trans hin.heap) 0 _)
     (by
      have:=dB hown2 hnb 0 (.slice a' (S1.L.length+1) c')
      show World.ownsRow _ 0 _ 4 _ (S1.L++[n]).length (iI (S1.L++[n]))
      rw [qP,hl2]
      rw [Sm] at this
      exact this)
     (dB (aP hin.l8 hq (fun k hk e=>hin.apart k e hk)) hin.K5 0 _)
     ((hq.mono (fun k _ hk=>(hin.iQ k).2 (.inr (.inl hk)))).put b 0 (.inl rfl) _) OT (fun k hk=>.inl hk)
     (fun k hk e=>(OT k hk).elim (fun q=>hin.apart k q e) fun q=>by have:=(hin.l8.lt k e).2;omega)
     (fun m hm=>by
      rcases List.mem_append.1 hm with hm | hm
      ·exact hin.sound m hm
      ·rw [List.mem_singleton.1 hm];exact hsn)
     (by simp only [hl2];omega) rfl hin.stop hin.given
    have HX:=Lib.hid hput
    clear hput hq hown2 hmv hin OT Sm
    go_wp2_with fail
    go_roundg (ns.length-(k+1))
    case measure=>omega
    case rel=>
     obtain⟨Qg,P8,hown,hgW⟩:=HB.out
     refine⟨k+1,by omega,by go_num,⟨?_,?_,fun j q=>?_⟩,P8.keep HX.out.2.only hgW⟩
     ·rw [HE.out.1]
      exact⟨_,_,HX.out.1⟩
     ·refine Only.trans (Only.trans hR.out.1 Qg (fun j _ q=>.inr q)) HX.out.2.only fun j hj q=>?_
      rcases hR.out.2 j ((hown j).1 q) with q | q
      ·exact .inl q
      ·omega
     ·rcases HX.out.2.own j q with q | q
      ·exact hR.out.2 j ((hown j).1 q)
      ·have:=hR.out.1.size
       have:=Qg.size
       omega
  ·have hk2:k=ns.length:=by omega
   have hk1:¬(k:Int)<(ns.length:Int):=by omega
   subst hk2
   rw [List.take_length] at hr
   have HF:=Lib.hid hr
   clear hr ht
   go_wp2_with fail
   go_ret2
   exact⟨rfl,HF.out⟩
end
end Go.Proofs.YtbhiamcmiopnoaaGreatDoor
