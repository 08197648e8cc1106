/- Package tree over the law's pages: pages are kept. Conditions: one goroutine; the pages may be laid, there is room for them. -/
import Derived.Test.YtbhiamcmiopnoaaGreatDoorZTree1
import Derived.Test.YtbhiamcmiopnoaaGreatDoorZPlainB
set_option maxHeartbeats 4000000
set_option maxRecDepth 100000
namespace Go.Proofs.YtbhiamcmiopnoaaGreatDoor
open Go.RowKit
def newC (n:Node):List Value:=mI n 0
def qN (i:Int):List Value:=[.int .i64 i]
theorem iP (l:List Int):eT l=l.flatMap qN:=by
 induction l with
 | nil=>rfl
 | cons a l ih=>show _ :: eT l=_;rw [ih];rfl
theorem Nv {w:World} {a:Option Addr} {n c:Nat} {l:List Node} (h:bL newC 4 w (.slice a n c) l) {k:Nat} {x:Node} (hx:l[k]? = some x) :
 ∃g off,a=some ⟨g,off,none⟩∧w.cell? ⟨g,off+k * 4,none⟩=some (.int .i64 (eU x))∧w.cell? ⟨g,off+k * 4+1,none⟩=some (.int .i64 0)∧w.cell? ⟨g,off+k * 4+2,none⟩=some (.int .i64 0)∧w.cell? ⟨g,off+k * 4+3,none⟩=some (str (eX x)):=by
 cases h with
 | none=>simp at hx
 | some g off cap _ hc=>exact⟨g,off,rfl,hc k x 0 _ hx rfl,hc k x 1 _ hx rfl,hc k x 2 _ hx rfl,hc k x 3 _ hx rfl⟩
structure Ids (w0 w:World) (b:Nat) (ov:Value) (ids:List Int):Prop where
 own:w.ownsRow 0 3 1 ov ids.length (eT ids)
 far:∀j,ov.ownBlock=some j→w0.heap.size≤j∧¬bn w b j
theorem Ids.step {w0 w w1:World} {b:Nat} {ov:Value} {ids:List Int} (h:Ids w0 w b ov ids) (s:aB b w w1):Ids w0 w1 b ov ids:=
 ⟨aP h.own s.only fun j hj=>(h.far j hj).2,fun j hj=>⟨(h.far j hj).1,fun q=>(s.own j q).elim (h.far j hj).2 fun q=>by have:=(h.own.lt j hj).2;omega⟩⟩
theorem Ids.app {w0 w1 wx:World} {b:Nat} {ov EF:Value} {ids:List Int} {S:aW} {x:Int} (h:Ids w0 w1 b ov ids) (hP:aA w1 b S) (hs:aB b w0 w1) (hb0:b<w0.heap.size) (o:Obj) (hown:wx.ownsRow 0 3 1 EF (ids.length+1) (eT ids++[.int .i64 x]))
 (hg:(w1.alloc o).grownBy wx ov.ownBlock) (hm:Moved (w1.alloc o) ov EF):Ids w0 wx b EF (ids++[x])∧aA wx b S∧aB b w0 wx:=by
 have hbl:=hP.lt
 have hq:Only (fun k=>ov.ownBlock=some k) w1 wx:=((Only.refl _ w1).alloc o).grown hg fun k _ q=>q
 have hnb:ov.ownBlock≠some b:=fun e=>(h.far b e).2 (.inl rfl)
 have hh:=hq.block b hbl hnb
 have hs1:=hs.only.size
 obtain⟨vL,vG,hI⟩:=hP
 refine⟨⟨by simpa [eT] using hown,fun j hj=>?_⟩,⟨vL,vG,hI.beside hq fun k q e=>(h.far k e).2 q⟩,hs.fresh hb0 hq fun k e=>(h.far k e).1⟩
 have hws:(w1.alloc o).heap.size=w1.heap.size+1:=by simp
 rcases hm j hj with e | e
 ·exact⟨(h.far j e).1,fun q=>(h.far j e).2 ((aD hh j).1 q)⟩
 ·rw [hws] at e
  exact⟨by omega,fun q=>by have:=bM ⟨vL,vG,hI⟩ ((aD hh j).1 q);omega⟩
theorem DW (w:World) (b:Nat) (S S2:aW) (old:Int) (ns:List Node) (qc:List Int) (v:Value) (h:aA w b S) (hv:bL newC 4 w v ns) (hap:Apart w b v) (hns:∀n∈ns,mQ n) (hL:S.L.length+ns.length≤3998) (ho:0≤old∧old≤4000) (hg:S.given.length<1000000)
 (hk:lT S old ns=(.ok qc,S2)) :
 Calls Tryz.prog 195 #[aF b,.int .i64 old,v] w fun e w'=>∃V,e=.returned (.tuple #[V,.int .i64 0])∧gN qN 1 w' V qc∧Apart w' b V∧aA w' b S2∧aB b w w':=by
 obtain⟨i0,hi,hz0,hz1,hz2⟩:=info_parts nN
 have hm1:=fun n=>Qb n ⟨b,0,none⟩
 have hm2:=fun n=>RZ n ⟨b,0,none⟩
 have XI:=fun n=>R4 n ⟨b,0,none⟩
 have Xj:=fun n=>Br n ⟨b,0,none⟩
 have hform:∃a c,v=.slice a ns.length c:=by cases hv with
  | none=>exact⟨_,_,rfl⟩
  | some g off cap=>exact⟨_,_,rfl⟩
 obtain⟨a,c,rfl⟩:=hform
 have hpw:=h.lt
 have HV:=Lib.hid hv
 have TF:=Lib.hid hap
 have HP:=Lib.hid h
 have HK:=Lib.hid hk
 clear hv hk hap h
 unfold aF
 go_enter Tryz.func195,Tryz.ntmps195
 go_wp2_with fail
 go_loopg [1,8,16] ns.length (fun gh s1 ov ix wr=>∃(k:Nat) (S':aW) (ids:List Int) (o:Int),gh+k=ns.length∧ix=.int .i64 k∧s1=.int .i64 o∧KP S old ns k S' ids o∧wr.ownsRow 0 3 1 ov ids.length (eT ids)∧(∀j,ov.ownBlock=some j→w.heap.size≤j∧¬bn wr b j)∧aA wr b S'∧aB b w wr)
 case atStart=>exact⟨0,S,[],old,by omega,rfl,rfl,.zero,⟨rfl,.inl ⟨rfl,rfl⟩⟩,(fun j hj=>by simp [Value.ownBlock] at hj),HP.out,aB.refl b w⟩
 case round=>
  obtain⟨k,S',ids,o,hgh,rfl,rfl,hst,own,R5,hpg,hstep⟩:=hrel
  obtain⟨f1,f2,f3,f4,f5⟩:=hst.keeps
  have HST:=Lib.hid hst
  have Qc:=Lib.hid f5
  clear f5
  have BR:Hid (Ids w wr b u8 ids):=Lib.hid ⟨own,R5⟩
  have Cw:=Lib.hid hpg
  have ME:=Lib.hid hstep
  clear own R5 hpg hstep
  by_cases hk:k<ns.length
  ·have hk1:(k:Int)<(ns.length:Int):=by omega
   obtain⟨x,hx⟩:∃x,ns[k]? = some x:=⟨_,List.getElem?_eq_getElem hk⟩
   have hsx:mQ x:=hns x (List.mem_of_getElem? hx)
   have hrow:=(aU HV.out ME.out.only (fun j hj=>(TF.out j hj).1))
   obtain⟨g,off,rfl,e0,e1,e2,e3⟩:=Nv hrow hx
   have HX:=Lib.hid hx
   have hw1:IntKind.i64.wrap ((k:Int)+1)=(k:Int)+1:=by exact IntWalk.i64_in _ (by omega)
   have hN:∀W,aA W b S'→Calls Tryz.prog 257 #[.pointer (some ⟨b,0,none⟩),qO x 0] W fun e w'=>e=.returned (.tuple #[.int .i64 ((S'.L.length+2:Nat):Int),.int .i64 0])∧aA w' b { S' with L:=S'.L++[x] }∧aB b W w':=fun W hW=>by
    have:=Nw W b S' x hW hsx
    have e:newP S' x=(.ok ((S'.L.length+2:Nat):Int),{ S' with L:=S'.L++[x] }):=by unfold newP;rw [if_neg (by omega)]
    rw [e] at this
    exact this
   have HN:=Lib.hid hN
   have XJ:=Lib.hid hsx
   clear hrow hx hN hsx
   cases k with
   | zero=>
    have hinv:S'=S∧ids=[]∧o=old:=by cases hst;exact⟨rfl,rfl,rfl⟩
    clear hst
    obtain⟨rfl,rfl,rfl⟩:=hinv
    simp only [Nat.zero_mul,Nat.add_zero] at e0 e1 e2 e3
    have hk1:(0:Int)<(ns.length:Int):=by omega
    by_cases ho0:o=0
    ·subst ho0
     have KY:Hid ((0:Nat)=0→¬((0:Int)≠0∧eD S' 0=true)):=Lib.hid (fun _ q=>q.1 rfl)
     go_wp2_with fail
     have hW:=Cw.out.still ((Only.refl (fun _=>False) wr).alloc (.cells #[.int .i64 (eU x),.int .i64 0,.int .i64 0,str (eX x)] 252))
     have hSW:=aB.still Cw.out.lt ((Only.refl (fun _=>False) wr).alloc (.cells #[.int .i64 (eU x),.int .i64 0,.int .i64 0,str (eX x)] 252))
     refine(HN.out _ hW).mono ?_
     rintro e w1 ⟨rfl,hp1,st1⟩
     have kV:=Lib.hid (ME.out.trans (hSW.trans st1))
     have HI1:=Lib.hid (BR.out.step (hSW.trans st1))
     have jY:=Lib.hid hp1
     clear hW hSW hp1 st1
     have HOWN:=Lib.hid (aP HI1.out.own ((Only.refl (fun _=>False) w1).alloc (.cells #[.int .i64 ((S'.L.length+2:Nat):Int)] 3)) (fun _ _=>id))
     have HC:=Lib.hid (bH w1 [.int .i64 ((S'.L.length+2:Nat):Int)] 3 (0,0))
     have hil:([]:List Int).length≤3998:=by have:=Qc.out;omega
     go_wp2_with (at_builtin;refine aM _ rfl _ _ 57 rfl 3 i0 _ 1 8 Tryz.underlying57 hi hz0 hz1 hz2 rfl (by decide) _ _ _ rfl HOWN.out ⟨w1.heap.size,0,none⟩ 1 1 [.int .i64 ((S'.L.length+2:Nat):Int)] rfl rfl HC.out (by simp [Value.oneCell']) (by unfold maxLen;omega) (by omega) ?_;intro a' c' wx hown2 hgr hmv;have FB:=Lib.hid (HI1.out.app jY.out kV.out hpw _ hown2 hgr hmv);clear hown2 hgr hmv)
     go_roundg (gk-1)
     case measure=>omega
     case rel=>
      obtain⟨x1,x2,x3⟩:=FB.out
      have KZ:=x1.own
      rw [List.length_append] at KZ
      exact⟨1,_,_,0,by omega,by go_num,rfl,.new 0 S' [] 0 x HST.out HX.out (fun q=>KY.out (by first | exact trivial | exact q)),by simpa using KZ,x1.far,x2,x3⟩
    ·have TG:=Lib.hid (fun W hW=>K3 W b S' o hW (by omega))
     have U0:=Cw.out.still ((Only.refl (fun _=>False) wr).alloc (.cells #[.int .i64 (eU x),.int .i64 0,.int .i64 0,.string ⟨(eX x).toArray⟩] 252))
     cases Qd:eD S' o with
     | true=>
      have U1:=Lib.hid (fun W hW=>Ny W b S' x o hW XJ.out Qd)
      have U2:=Lib.hid Qd
      rw [Qd] at TG
      clear Qd
      go_wp2_with fail
      refine(TG.out _ U0).mono ?_
      rintro e w' ⟨rfl,rfl⟩
      go_wp2_with fail
      have oW:=(Only.refl (fun _=>False) wr).alloc (.cells #[.int .i64 (eU x),.int .i64 o,.int .i64 0,str (eX x)] 252)
      have hSW:=aB.still Cw.out.lt oW
      refine(U1.out _ (Cw.out.still oW)).mono ?_
      rintro e w1 ⟨rfl,hp1,st1⟩
      have kV:=Lib.hid (ME.out.trans (hSW.trans st1))
      have HI1:=Lib.hid (BR.out.step (hSW.trans st1))
      have jY:=Lib.hid hp1
      clear oW U0 hSW hp1 st1
      have HOWN:=Lib.hid (aP HI1.out.own ((Only.refl (fun _=>False) w1).alloc (.cells #[.int .i64 o] 3)) (fun _ _=>id))
      have HC:=Lib.hid (bH w1 [.int .i64 o] 3 (0,0))
      go_wp2_with (at_builtin;refine aM _ rfl _ _ 57 rfl 3 i0 _ 1 8 Tryz.underlying57 hi hz0 hz1 hz2 rfl (by decide) _ _ _ rfl HOWN.out ⟨w1.heap.size,0,none⟩ 1 1 [.int .i64 o] rfl rfl HC.out (by simp [Value.oneCell']) (by simp [maxLen]) (by simp) ?_;intro a' c' wx hown2 hgr hmv;have FB:=Lib.hid (HI1.out.app jY.out kV.out hpw _ hown2 hgr hmv);clear hown2 hgr hmv)
      go_roundg (gk-1)
      case measure=>omega
      case rel=>
       obtain⟨x1,x2,x3⟩:=FB.out
       have KZ:=x1.own
       rw [List.length_append] at KZ
       exact⟨1,_,_,0,by omega,by go_num,rfl,.set x HX.out ho0 U2.out,by simpa using KZ,x1.far,x2,x3⟩
     | false=>
      have KY:Hid ((0:Nat)=0→¬(o≠0∧eD S' o=true)):=Lib.hid (fun _ q=>by rw [Qd] at q;exact Bool.noConfusion q.2)
      rw [Qd] at TG
      clear Qd
      go_wp2_with fail
      refine(TG.out _ U0).mono ?_
      rintro e w' ⟨rfl,rfl⟩
      go_wp2_with fail
      have hW:=Cw.out.still ((Only.refl (fun _=>False) wr).alloc (.cells #[.int .i64 (eU x),.int .i64 0,.int .i64 0,str (eX x)] 252))
      have hSW:=aB.still Cw.out.lt ((Only.refl (fun _=>False) wr).alloc (.cells #[.int .i64 (eU x),.int .i64 0,.int .i64 0,str (eX x)] 252))
      refine(HN.out _ hW).mono ?_
      rintro e w1 ⟨rfl,hp1,st1⟩
      have kV:=Lib.hid (ME.out.trans (hSW.trans st1))
      have HI1:=Lib.hid (BR.out.step (hSW.trans st1))
      have jY:=Lib.hid hp1
      clear hW hSW hp1 st1
      have HOWN:=Lib.hid (aP HI1.out.own ((Only.refl (fun _=>False) w1).alloc (.cells #[.int .i64 ((S'.L.length+2:Nat):Int)] 3)) (fun _ _=>id))
      have HC:=Lib.hid (bH w1 [.int .i64 ((S'.L.length+2:Nat):Int)] 3 (0,0))
      have hil:([]:List Int).length≤3998:=by have:=Qc.out;omega
      go_wp2_with (at_builtin;refine aM _ rfl _ _ 57 rfl 3 i0 _ 1 8 Tryz.underlying57 hi hz0 hz1 hz2 rfl (by decide) _ _ _ rfl HOWN.out ⟨w1.heap.size,0,none⟩ 1 1 [.int .i64 ((S'.L.length+2:Nat):Int)] rfl rfl HC.out (by simp [Value.oneCell']) (by unfold maxLen;omega) (by omega) ?_;intro a' c' wx hown2 hgr hmv;have FB:=Lib.hid (HI1.out.app jY.out kV.out hpw _ hown2 hgr hmv);clear hown2 hgr hmv)
      go_roundg (gk-1)
      case measure=>omega
      case rel=>
       obtain⟨x1,x2,x3⟩:=FB.out
       have KZ:=x1.own
       rw [List.length_append] at KZ
       exact⟨1,_,_,o,by omega,by go_num,rfl,.new 0 S' [] o x HST.out HX.out (fun q=>KY.out (by first | exact trivial | exact q)),by simpa using KZ,x1.far,x2,x3⟩
   | succ k=>
    clear hst
    have KY:Hid (k+1=0→¬(old≠0∧eD S old=true)):=Lib.hid (fun q=>absurd q (Nat.succ_ne_zero k))
    go_wp2_with fail
    have hW:=Cw.out.still ((Only.refl (fun _=>False) wr).alloc (.cells #[.int .i64 (eU x),.int .i64 0,.int .i64 0,str (eX x)] 252))
    have hSW:=aB.still Cw.out.lt ((Only.refl (fun _=>False) wr).alloc (.cells #[.int .i64 (eU x),.int .i64 0,.int .i64 0,str (eX x)] 252))
    refine(HN.out _ hW).mono ?_
    rintro e w1 ⟨rfl,hp1,st1⟩
    have kV:=Lib.hid (ME.out.trans (hSW.trans st1))
    have HI1:=Lib.hid (BR.out.step (hSW.trans st1))
    have jY:=Lib.hid hp1
    clear hW hSW hp1 st1
    have HOWN:=Lib.hid (aP HI1.out.own ((Only.refl (fun _=>False) w1).alloc (.cells #[.int .i64 ((S'.L.length+2:Nat):Int)] 3)) (fun _ _=>id))
    have HC:=Lib.hid (bH w1 [.int .i64 ((S'.L.length+2:Nat):Int)] 3 (0,0))
    have hil:ids.length≤3998:=by have:=Qc.out;omega
    go_wp2_with (at_builtin;refine aM _ rfl _ _ 57 rfl 3 i0 _ 1 8 Tryz.underlying57 hi hz0 hz1 hz2 rfl (by decide) _ _ _ rfl HOWN.out ⟨w1.heap.size,0,none⟩ 1 1 [.int .i64 ((S'.L.length+2:Nat):Int)] rfl rfl HC.out (by simp [Value.oneCell']) (by unfold maxLen;omega) (by omega) ?_;intro a' c' wx hown2 hgr hmv;have FB:=Lib.hid (HI1.out.app jY.out kV.out hpw _ hown2 hgr hmv);clear hown2 hgr hmv)
    go_roundg (gk-1)
    case measure=>omega
    case rel=>
     obtain⟨x1,x2,x3⟩:=FB.out
     have KZ:=x1.own
     rw [List.length_append] at KZ
     exact⟨k+2,_,_,o,by omega,by go_num,rfl,.new (k+1) S' ids o x HST.out HX.out (fun q=>KY.out (by first | exact trivial | exact q)),by simpa using KZ,x1.far,x2,x3⟩
  ·obtain rfl:k=ns.length:=by omega
   have hk1:¬(ns.length:Int)<(ns.length:Int):=by omega
   have hdone:=hst.done hL
   rw [HK.out] at hdone
   clear hst
   by_cases ho0:o=0
   ·subst ho0
    rw [if_neg (fun q=>q rfl)] at hdone
    obtain⟨d1,d2⟩:=Prod.mk.inj hdone
    obtain rfl:=Except.ok.inj d1
    subst d2
    clear hdone d1
    go_wp2_with fail
    go_ret2
    have h2:=BR.out.own
    rw [iP] at h2
    exact⟨u8,rfl,⟨bS (enc:=qN) (k:=1) (fun _=>rfl) h2,dQ h2⟩,(fun j hj=>by rw [bg h2] at hj;exact⟨(BR.out.far j hj).2,(h2.lt j hj).2⟩),Cw.out,ME.out⟩
   ·rw [if_pos ho0] at hdone
    obtain⟨d1,d2⟩:=Prod.mk.inj hdone
    obtain rfl:=Except.ok.inj d1
    subst d2
    clear hdone d1
    have oW:=(Only.refl (fun _=>False) wr).alloc (.cells #[.int .i64 o] 3)
    have hSW:=aB.still Cw.out.lt oW
    have Gt:=Lib.hid hSW
    have hnw:¬bn (wr.alloc (.cells #[.int .i64 o] 3)) b wr.heap.size:=fun q=>by
     have:=bM Cw.out ((aD (oW.block b Cw.out.lt id) _).1 q);omega
    have hF:=uE (wr.alloc (.cells #[.int .i64 o] 3)) b S' o (.slice (some ⟨wr.heap.size,0,none⟩) 1 1) (Cw.out.still oW) (by rw [f3];exact hg) ⟨_,_,_,rfl,ay (heap_alloc_new _ _) 0,hnw⟩
    have HF:=Lib.hid hF
    clear hF oW hSW hnw
    go_wp2_with fail
    refine HF.out.mono ?_
    rintro e w1 ⟨rfl,hp1,st1⟩
    have HI1:=Lib.hid (BR.out.step (Gt.out.trans st1))
    have kV:=Lib.hid (ME.out.trans (Gt.out.trans st1))
    have jY:=Lib.hid hp1
    clear hp1 st1
    go_wp2_with fail
    go_ret2
    have h2:=HI1.out.own
    rw [iP] at h2
    exact⟨u8,rfl,⟨bS (enc:=qN) (k:=1) (fun _=>rfl) h2,dQ h2⟩,(fun j hj=>by rw [bg h2] at hj;exact⟨(HI1.out.far j hj).2,(h2.lt j hj).2⟩),jY.out,kV.out⟩
end Go.Proofs.YtbhiamcmiopnoaaGreatDoor
