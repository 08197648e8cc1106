/- Package twig: children in the place of one. Conditions: fewer than a million children. -/
import Derived.Test.YtbhiamcmiopnoaaGreatDoorZRep
set_option maxHeartbeats 2000000
set_option maxRecDepth 100000
namespace Go.Proofs.YtbhiamcmiopnoaaGreatDoor
open Go.RowKit
theorem yE (sv wv:Value) (l ws:List Kid) (i:Nat) (w:World) (hi:i<l.length) (hne:ws≠[]) (hap:∀b,sv.ownBlock=some b→wv.ownBlock≠some b)
 (hown:w.ownsRow 0 185 2 sv l.length (l.flatMap aR)) (hv:w.ownsRow 0 185 2 wv ws.length (ws.flatMap aR)) (hn:l.length≤1000000) (hwn:ws.length≤1000000) :
 Calls Tryz.prog 219 #[sv,.int .i64 i,.int .i64 ((i:Int)+1),wv] w fun e w'=>∃v',e=.returned v'∧w'.ownsRow 0 185 2 v' (fO l i ws).length ((fO l i ws).flatMap aR)∧Only (fun k=>sv.ownBlock=some k) w w'∧Moved w sv v':=by
 have hwl:=List.length_pos_iff.2 hne
 have hT:(fO l i ws).length=l.length-1+ws.length:=by unfold fO;simp only [List.length_append,List.length_take,List.length_drop];omega
 obtain⟨g,cap,rfl⟩:∃g cap,sv=.slice (some ⟨g,0,none⟩) l.length cap:=by
  rcases hown.2 with ⟨_,h0⟩ |⟨g,cap,cur,q,_⟩
  ·omega
  ·exact⟨g,cap,q⟩
 obtain⟨vb,vc,rfl⟩:∃g cap,wv=.slice (some ⟨g,0,none⟩) ws.length cap:=by
  rcases hv.2 with ⟨_,h0⟩ |⟨g,cap,cur,q,_⟩
  ·omega
  ·exact⟨g,cap,q⟩
 have P5:vb≠g:=fun e=>hap g rfl (by rw [e];rfl)
 rw [hT]
 by_cases he:i+1=l.length
 ·refine(Nq g cap l ws i vb vc w he hwl hown hv hn hwn).mono fun e w' ⟨v',e1,o,q,m⟩=>⟨v',e1,?_,q.mono fun k _ hk=>by rw [hk];rfl,m⟩
  have e2:fO l i ws=l.take i++ws:=by unfold fO;rw [he,List.drop_length,List.append_nil]
  rw [e2,show l.length-1+ws.length=i+ws.length by omega]
  exact o
 ·by_cases hr:l.length-1+ws.length≤cap
  ·by_cases h1:ws.length=1
   ·exact(Nr g cap ws.length (l.length-1+ws.length) l ws i vb vc w rfl rfl (by omega) h1 P5 hr hown hv hn).mono fun e w' ⟨e1,o,q⟩=>⟨_,e1,o,q.mono fun k _ hk=>by rw [hk];rfl,fun k hk=>.inl hk⟩
   ·exact(KH g cap ws.length (l.length-1+ws.length) l ws i vb vc w rfl rfl (by omega) (by omega) P5 hr hown hv hn hwn).mono fun e w' ⟨e1,o,q⟩=>⟨_,e1,o,q.mono fun k _ hk=>by rw [hk];rfl,fun k hk=>.inl hk⟩
  ·refine(KI g cap ws.length (l.length-1+ws.length) l ws i vb vc w rfl rfl (by omega) hwl (by omega) hown hv hn hwn).mono fun e w' ⟨gc,e1,o,q⟩=>⟨_,e1,o,q.mono fun k _ hk=>hk.elim,fun k hk=>.inr ?_⟩
   have:=Option.some.inj (show some w.heap.size=some k from hk)
   omega
theorem KJ (v wv:Value) (l ws:List Kid) (i:Nat) (w:World) (h:bL aR 2 w v l) (hi:i<l.length) (hne:ws≠[]) (hv:w.ownsRow 0 185 2 wv ws.length (ws.flatMap aR)) (hn:l.length≤1000000) (hwn:ws.length≤1000000) :
 Calls Tryz.prog 198 #[v,.int .i64 i,wv] w fun e w'=>∃v',e=.returned v'∧gN aR 2 w' v' (fO l i ws)∧Only (fun _=>False) w w'∧∀b,bI v'=some b→w.heap.size≤b:=by
 have HC:=Lib.hid (iE v l w h (by omega))
 have hform:∃a c,v=.slice a l.length c:=by cases h with
  | none=>exact⟨_,_,rfl⟩
  | some g off cap=>exact⟨_,_,rfl⟩
 obtain⟨a,c,rfl⟩:=hform
 have HV:=Lib.hid hv
 have hi0:(0:Int)≤(i:Int):=by omega
 have hi1:¬((l.length:Int)≤(i:Int)):=by omega
 have hi2:(i:Int)<(l.length:Int):=by omega
 have hw1:IntKind.i64.wrap ((i:Int)+1)=(i:Int)+1:=by exact IntWalk.i64_in _ (by omega)
 clear h hv
 go_enter Tryz.func198,Tryz.ntmps198
 go_wp2_with fail
 (with_reducible refine HC.out.mono ?_)
 rintro e w1 ⟨v1,rfl,lM,o1,new1⟩
 have HR:=Lib.hid (yE v1 wv l ws i w1 (by omega) hne (fun b hb e=>by have:=new1 b hb;have:=(HV.out.lt b e).2;omega) lM (aP HV.out o1 (fun _ _=>id)) hn hwn)
 have HO:=Lib.hid o1
 have HN:=Lib.hid new1
 clear lM o1 new1 HC
 go_wp2_with fail
 (with_reducible refine HR.out.mono ?_)
 rintro e w2 ⟨v2,rfl,kP,o2,m2⟩
 go_wp2_with fail
 go_ret
 refine⟨v2,rfl,⟨bS (enc:=aR) (k:=2) (fun _=>rfl) kP,dQ kP⟩,HO.out.trans o2 (fun k hk e=>by have:=HN.out k e;omega),fun b hb=>?_⟩
 rw [bg kP] at hb
 rcases m2 b hb with e | e
 ·exact HN.out b e
 ·have:=HO.out.size;omega
end Go.Proofs.YtbhiamcmiopnoaaGreatDoor
