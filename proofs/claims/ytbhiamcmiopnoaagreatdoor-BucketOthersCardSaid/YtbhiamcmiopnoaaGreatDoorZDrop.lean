/- The law's pages: several are given back. Conditions: one goroutine; the numbers lie in memory, apart from the pages. -/
import Derived.Test.YtbhiamcmiopnoaaGreatDoorZPages
import Derived.Test.YtbhiamcmiopnoaaGreatDoorZTreeB
set_option maxHeartbeats 4000000
set_option maxRecDepth 100000
namespace Go.Proofs.YtbhiamcmiopnoaaGreatDoor
open Go.RowKit
theorem uV (l:List Int) (S:aW):(l.foldl fV S).given=S.given++l:=by
 induction l generalizing S with
 | nil=>simp
 | cons a l ih=>rw [List.foldl_cons,ih];simp [fV]
theorem FR {l:List Int} {m:Nat} {id:Int} (h:l[m]? = some id) (S:aW):(l.take (m+1)).foldl fV S=fV ((l.take m).foldl fV S) id:=by
 rw [List.take_add_one,h,List.foldl_append]
 rfl
theorem Av (w:World) (b:Nat) (S0:aW) (l:List Int) (v:Value) (h:aA w b S0) (hg0:S0.given.length+l.length<1000000) (hv:bL qN 1 w v l) (ha:∀j,bI v=some j→¬bn w b j) :
 Calls Tryz.prog 254 #[.pointer (some ⟨b,0,none⟩),v] w fun e w'=>e=.returned (.tuple #[])∧aA w' b (l.foldl fV S0)∧aB b w w':=by
 obtain⟨i0,hi,hz0,hz1,hz2⟩:=info_parts nN
 obtain⟨av,cv,rfl⟩:∃a c,v=.slice a l.length c:=by cases hv with
  | none=>exact⟨_,_,rfl⟩
  | some g off cap=>exact⟨_,_,rfl⟩
 have HV:=Lib.hid (And.intro hv ha)
 have H0:=Lib.hid h
 clear hv ha h
 go_enter Tryz.func254,Tryz.ntmps254
 go_wp2_with fail
 go_loopg [4] l.length (fun gh iv wr=>∃m:Nat,gh+m=l.length∧iv=.int .i64 m∧aA wr b ((l.take m).foldl fV S0)∧aB b w wr)
 case atStart=>exact⟨0,by omega,rfl,H0.out,aB.refl b w⟩
 case round=>
  obtain⟨m,hgm,rfl,hp,hso⟩:=hrel
  have Wu:=Lib.hid hso
  by_cases hm:m<l.length
  ·have hm1:(m:Int)<(l.length:Int):=by omega
   have hm0:(0:Int)≤(m:Int):=by omega
   have YB:IntKind.i64.wrap ((m:Int)+1)=(m:Int)+1:=by exact IntWalk.i64_in _ (by omega)
   obtain⟨id,hid⟩:∃id,l[m]? = some id:=⟨_,List.getElem?_eq_getElem hm⟩
   have JA:=Lib.hid (FR hid S0)
   have hgl:=uV (l.take m) S0
   have hg:((l.take m).foldl fV S0).given.length<1000000:=by rw [hgl,List.length_append,List.length_take];omega
   obtain⟨gi,BS,rfl,hci⟩:=xL (aU HV.out.1 hso.only (fun j hj=>HV.out.2 j hj)) hid
   have hni:¬bn wr b gi:=fun q=>(hso.own gi q).elim (HV.out.2 gi rfl) fun q=>by
    have h5:=xL HV.out.1 hid
    obtain⟨g',o',e,c⟩:=h5
    cases e
    have:=lt_of_cell c
    omega
   generalize (l.take m).foldl fV S0=S at *
   obtain⟨vL,vG,h⟩:=hp
   obtain⟨aG,cG,rfl⟩:=ownsRow_form h.l8
   have HP:=Lib.hid h
   clear h hso hid hgl H0
   generalize wr=wo at *
   go_wp2_with fail
   go_loopg [5] S.given.length (fun gh i wr=>∃(k:Nat) (tw:Bool),gh+k=S.given.length∧i=.int .i64 k∧tw=(S.twice ||(S.given.take k).any (fun g=>g == id))∧eY wr b { S with twice:=tw } vL (.slice aG S.given.length cG)∧aB b wo wr∧wr.cell? ⟨gi,BS+m,none⟩=some (.int .i64 id))
   case atStart=>exact⟨0,S.twice,by omega,rfl,by simp,HP.out,aB.refl b wo,hci⟩
   case round=>
    obtain⟨k,tw,hgh,rfl,vB,hin,hst,hc⟩:=hrel
    have c4:=ay hin.heap 4
    have c2:=ay hin.heap 2
    have z4:=aQ hin.heap 4
    simp only [List.getElem?_toArray,List.getElem?_cons_zero,List.getElem?_cons_succ] at c4 c2
    have HI:=Lib.hid hin
    have HS:=Lib.hid hst
    have HT:=Lib.hid vB
    clear hin hst vB
    have R8:=hg
    by_cases hk:k<S.given.length
    ·have hk1:(k:Int)<(S.given.length:Int):=by omega
     obtain⟨x,hx⟩:∃x,S.given[k]? = some x:=⟨_,List.getElem?_eq_getElem hk⟩
     obtain⟨g,rfl⟩:∃g,aG=some ⟨g,0,none⟩:=by
      rcases HP.out.l8.2 with ⟨q,h0⟩ |⟨g,cap,cur,q,_⟩
      ·omega
      ·injection q with q1 q2 q3;exact⟨g,q1⟩
     have e0:=aZ HI.out.l8 k (.int .i64 x) (by unfold eT;rw [List.getElem?_map];simp only;rw [hx];rfl)
     have hw1:IntKind.i64.wrap ((k:Int)+1)=(k:Int)+1:=by exact IntWalk.i64_in _ (by omega)
     have hnx:(S.twice ||(S.given.take (k+1)).any (fun g=>g == id))=(tw ||(x == id)):=by
      rw [List.take_add_one,hx,List.any_append,←Bool.or_assoc,←HT.out]
      simp
     have HN:=Lib.hid hnx
     have HX:∀Ca:Bool,eY (wr.drew.setCell ⟨b,4,none⟩ (.bool Ca)) b { S with twice:=Ca } vL (.slice (some ⟨g,0,none⟩) S.given.length cG)∧aB b wr (wr.drew.setCell ⟨b,4,none⟩ (.bool Ca)):=fun Ca=>
      HI.out.put (S':={ S with twice:=Ca }) (heap_setCell (w:=wr.drew) HI.out.heap 4 (.bool Ca)) (dB HI.out.iY.drew HI.out.MJ 4 _) (dB HI.out.l8.drew HI.out.K5 4 _) ((Only.refl _ _).drew.put b 4 (.inl rfl) _) (fun _ q=>.inl q) (fun _ q=>.inl q) HI.out.apart HI.out.sound HI.out.few rfl HI.out.stop HI.out.given
     have IW:=Lib.hid HX
     have hcb:∀Ca:Bool,(wr.drew.setCell ⟨b,4,none⟩ (.bool Ca)).cell? ⟨gi,BS+m,none⟩=some (.int .i64 id):=fun Ca=>by
      rw [World.cell?_setCell_other wr.drew ⟨b,4,none⟩ ⟨gi,BS+m,none⟩ _ (mV _ _ (fun e=>hni (.inl e.symm)))]
      exact hc
     have R9:=Lib.hid hcb
     clear hnx HX hcb hx
     cases tw with
     | true=>
      go_wp2_with fail
      go_region
      all_goals
       go_wp2_with fail
       go_roundg (gk-1)
       case measure=>omega
       case rel=>
        refine⟨k+1,true,by omega,by go_num,?_,(IW.out true).1,HS.out.trans (IW.out true).2,R9.out true⟩
        rw [HN.out];rfl
     | false=>
      go_wp2_with fail
      go_region
      all_goals
       go_wp2_with fail
       go_roundg (gk-1)
       case measure=>omega
       case rel=>
        refine⟨k+1,x == id,by omega,by go_num,?_,(IW.out (x == id)).1,HS.out.trans (IW.out (x == id)).2,R9.out (x == id)⟩
        rw [HN.out];rfl
    ·obtain rfl:k=S.given.length:=by omega
     have hk1:¬(S.given.length:Int)<(S.given.length:Int):=by omega
     have z2:=aQ HI.out.heap 2
     have hbW:b<wr.heap.size:=HI.out.lt
     have Cb:=HI.out.K5
     have own:=HI.out.l8
     clear HP
     go_wp2_with fail
     go_region_law (refine dF _ rfl _ _ 57 rfl 3 i0 _ 1 8 Tryz.underlying57 hi hz0 hz1 hz2 rfl (by decide) _ _ _ rfl (own.drew.alloc _) ⟨wr.heap.size,0,none⟩ 1 1 [.int .i64 id] rfl rfl (bH wr.drew [.int .i64 id] 3 _) (by simp [Value.oneCell']) (by unfold maxLen;omega) (by omega) ?_;intro a' c' wa hown2 hgr hmv;have hq:Only (fun k=>(Value.slice aG S.given.length cG).ownBlock=some k) wr wa:=(((Only.refl _ wr).drew).alloc _).grown hgr (fun k _ h=>h);have e2:=(hq.cell (p:=⟨b,2,none⟩) hbW Cb).trans c2;have y2:=(hq.frozen (p:=⟨b,2,none⟩) hbW Cb).trans z2;clear hgr)
     all_goals
      have Qe:∀k,(Value.slice a' (S.given.length+1) c').ownBlock=some k→(Value.slice aG S.given.length cG).ownBlock=some k∨wr.heap.size≤k:=fun k hk=>(hmv k hk).imp (fun q=>q) fun q=>by simp at q;omega
      have hin:=HI.out
      have hnb:(Value.slice a' (S.given.length+1) c').ownBlock≠some b:=fun e=>(Qe b e).elim Cb fun q=>by omega
      have hl2:(S.given++[id]).length=S.given.length+1:=by simp
      have hput:=hin.put (S':=fV S id) (w1:=wa.setCell ⟨b,2,none⟩ (.slice a' (S.given.length+1) c')) (GN:=vL) (GQ:=.slice a' (S.given.length+1) c')
       (by
        have:=heap_setCell ((hq.block b hbW Cb).trans hin.heap) 2 (.slice a' (S.given.length+1) c')
        have e:tw=(fV S id).twice:=by rw [HT.out,List.take_length];rfl
        rw [←e]
        exact this)
       (dB (aP hin.iY hq (fun k hk e=>hin.apart k hk e)) hin.MJ 2 _)
       (by
        have:=dB hown2 hnb 2 (.slice a' (S.given.length+1) c')
        show World.ownsRow _ 0 _ 1 _ (S.given++[id]).length (eT (S.given++[id]))
        rw [hl2]
        simpa [eT] using this)
       ((hq.mono (fun k _ hk=>(hin.iQ k).2 (.inr (.inr hk)))).put b 2 (.inl rfl) _) (fun k hk=>.inl hk) Qe
       (fun k hk e=>(Qe k e).elim (fun q=>hin.apart k hk q) fun q=>by have:=(hin.iY.lt k hk).2;omega)
       hin.sound hin.few rfl hin.stop (by show (S.given++[id]).length≤1000000;rw [hl2];omega)
      have HX:=Lib.hid hput
      clear hput hq hown2 hmv hin
      go_wp2_with fail
      go_roundg (l.length-(m+1))
      case measure=>omega
      case rel=>
       refine⟨m+1,by omega,by go_num,?_,Wu.out.trans (HS.out.trans HX.out.2)⟩
       rw [JA.out]
       exact⟨_,_,HX.out.1⟩
  ·obtain rfl:m=l.length:=by omega
   have hm1:¬(l.length:Int)<(l.length:Int):=by omega
   rw [List.take_length] at hp
   have HF:=Lib.hid hp
   clear hp hso
   go_wp2_with fail
   go_end0
   exact⟨rfl,HF.out,Wu.out⟩
end Go.Proofs.YtbhiamcmiopnoaaGreatDoor
