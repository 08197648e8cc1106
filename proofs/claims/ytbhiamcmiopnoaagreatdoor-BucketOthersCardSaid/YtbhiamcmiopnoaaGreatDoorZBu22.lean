/- The law's act: in a bucket of a tree of them, and the way up. Conditions: one goroutine; the pages hold the buckets; there is room; the library's bound MaxLen is some number. (Printed by wip/gen/bu22.py.) -/
import Derived.Test.YtbhiamcmiopnoaaGreatDoorZBuH
import Derived.Test.YtbhiamcmiopnoaaGreatDoorZBu16
import Derived.Test.YtbhiamcmiopnoaaGreatDoorZTelA
set_option maxHeartbeats 16000000
set_option maxRecDepth 100000
namespace Go.Proofs.YtbhiamcmiopnoaaGreatDoor
open Go.RowKit Go.MuLone
def F6 (R:Path→Option Rec) (kind:Int) (path key val:Bytes):Int:=
 if bk.nY path≠0 then bk.nY path else if gU R [] (bk.gM path)≠0 then gU R [] (bk.gM path) else match R (bk.gM path) with | some r=>kS kind r.l key val | none=>0
structure AA (m:Nat) (S:aW) (R:Path→Option Rec) (kind:Int) (path key val:Bytes) (S':aW) (R':Path→Option Rec) (r':Rec):Prop where
 pe:bk.nY path=0
 ex:∃r S1 R1 r1,R (bk.gM path)=some r∧gU R [] (bk.gM path)=0∧kS kind r.l key val=0∧kC m S R (bk.gM path) r kind key val S1 R1 r1∧pV m S1 R1 [] (bk.gM path) S' R' r'
def Oa (w:World) (b m:Nat) (S:aW) (R:Path→Option Rec) (r0:Rec) (kind:Int) (path key val:Bytes):Ending→World→Prop:=fun e w'=>
 (∃er,er≠0∧er=F6 R kind path key val∧e=.returned (.tuple #[aY r0.root r0.seq,.int .i64 er])∧aA w' b S∧aB b w w')∨
 (∃S' R' r',F6 R kind path key val=0∧e=.returned (.tuple #[aY r'.root r'.seq,.int .i64 0])∧AA m S R kind path key val S' R' r'∧aA w' b S'∧aB b w w')
structure Et (w:World) (b:Nat) (r0:Rec) (kind:Int) (path key val:Bytes) (wx:World) (S:aW):Prop where
 pages:aA wx b S
 st:aB b w wx
 t4:bG wx b w.heap.size (.cells #[.int .i64 r0.root,.int .i64 r0.seq] 23 (0,0))
 t5:bG wx b (w.heap.size+1) (.cells #[.int .i64 kind,str path,str key,str val] 55 (0,0))
 t6:bG wx b (w.heap.size+1+1) (.cells #[.int .i64 0,.int .i64 0] 23 (0,0))
theorem Names.set {wx:World} {b B:Nat} {v:Value} {l:List Bytes} {w:World} {S:aW} {y0 y1:Value} {t:TypeId} (h:Names wx b v l) (hp:aA wx b S) (hB:bG wx b B (.cells #[y0,y1] t (0,0))) (Yb:bI v≠some B) (hlt:b<w.heap.size) (hst:aB b w wx) (hf:w.heap.size+1+1<B) (x0 x1:Int):Names ((wx.setCell ⟨B,0,none⟩ (.int .i64 x0)).setCell ⟨B,1,none⟩ (.int .i64 x1)) b v l:=by
 obtain⟨g1,g2,g3,g4,g5⟩:=oJ hp hst hB (by omega) hlt (.int .i64 x0) (.int .i64 x1)
 refine⟨aU h.row g4 fun j q e=>Yb (by rw [q,e]),fun j q=>⟨fun z=>(h.away j q).1 ((g5 j).1 z),?_⟩⟩
 have:=g4.size
 have:=(h.away j q).2
 omega
section
variable {w wx wy : World} {b : Nat} {r0 : Rec} {kind : Int} {path key val : Bytes} {S S' : aW}
theorem Et.still (h:Et w b r0 kind path key val wx S) (ho:Only (fun _=>False) wx wy):Et w b r0 kind path key val wy S:=
 ⟨h.pages.still ho,h.st.trans (aB.still h.pages.lt ho),h.t4.still h.pages ho,h.t5.still h.pages ho,h.t6.still h.pages ho⟩
theorem Et.step (h:Et w b r0 kind path key val wx S) (st:aB b wx wy) (hp:aA wy b S'):Et w b r0 kind path key val wy S':=
 ⟨hp,h.st.trans st,h.t4.step st,h.t5.step st,h.t6.step st⟩
theorem Et.set {B:Nat} {y0 y1:Value} (h:Et w b r0 kind path key val wx S) (hlt:b<w.heap.size) (hB:bG wx b B (.cells #[y0,y1] 23 (0,0))) (hf:w.heap.size+1+1<B) (x0 x1:Value) :
 Et w b r0 kind path key val ((wx.setCell ⟨B,0,none⟩ x0).setCell ⟨B,1,none⟩ x1) S∧bG ((wx.setCell ⟨B,0,none⟩ x0).setCell ⟨B,1,none⟩ x1) b B (.cells #[x0,x1] 23 (0,0)):=by
 obtain⟨g1,g2,g3,g4,g5⟩:=oJ h.pages h.st hB (by omega) hlt x0 x1
 exact⟨⟨g1,g2,h.t4.set g4 g5 (by omega),h.t5.set g4 g5 (by omega),h.t6.set g4 g5 (by omega)⟩,g3⟩
theorem Et.new (h:Et w b r0 kind path key val wx S) (o:Obj):Et w b r0 kind path key val (wx.alloc o) S∧bG (wx.alloc o) b wx.heap.size o∧w.heap.size+1+1<wx.heap.size:=
 ⟨h.still ((Only.refl _ wx).alloc o),bG.new h.pages o,jU h.t6.at_⟩
theorem Et.fin (h:Et w b r0 kind path key val wx S) (hlt:b<w.heap.size) (x0 x1:Value) :
 aA ((wx.setCell ⟨w.heap.size+1+1,0,none⟩ x0).setCell ⟨w.heap.size+1+1,1,none⟩ x1) b S∧aB b w ((wx.setCell ⟨w.heap.size+1+1,0,none⟩ x0).setCell ⟨w.heap.size+1+1,1,none⟩ x1)∧((wx.setCell ⟨w.heap.size+1+1,0,none⟩ x0).setCell ⟨w.heap.size+1+1,1,none⟩ x1).heap[w.heap.size+1+1]? = some (.cells #[x0,x1] 23 (0,0)):=
 eu h.pages h.st h.t6 (by omega) hlt x0 x1
theorem Et.cells (h:Et w b r0 kind path key val wx S):wx.cell? ⟨w.heap.size,0,none⟩=some (.int .i64 r0.root)∧wx.cell? ⟨w.heap.size,1,none⟩=some (.int .i64 r0.seq)∧wx.cell? ⟨w.heap.size+1,0,none⟩=some (.int .i64 kind)∧wx.cell? ⟨w.heap.size+1,1,none⟩=some (str path)∧wx.cell? ⟨w.heap.size+1,2,none⟩=some (str key)∧wx.cell? ⟨w.heap.size+1,3,none⟩=some (str val)∧
 wx.cell? ⟨w.heap.size+1+1,0,none⟩=some (.int .i64 0)∧wx.cell? ⟨w.heap.size+1+1,1,none⟩=some (.int .i64 0)∧wx.frozen? ⟨w.heap.size+1+1,0,none⟩=false∧wx.frozen? ⟨w.heap.size+1+1,1,none⟩=false:=
 ⟨aj h.t4.at_ 0,aj h.t4.at_ 1,aj h.t5.at_ 0,aj h.t5.at_ 1,aj h.t5.at_ 2,aj h.t5.at_ 3,aj h.t6.at_ 0,aj h.t6.at_ 1,aC h.t6.at_ 0,aC h.t6.at_ 1⟩
end
theorem Qh (w:World) (b m:Nat) (S:aW) (R:Path→Option Rec) (r0:Rec) (kind:Int) (path key val:Bytes) (hM:kT w) (h:aA w b S) (H:Held S R [] []) (hp0:R []=some r0) (hm:m≤11) (gy:∀p r,R p=some r→r.l.length+1<2 ^ m) (hseq:∀p r,R p=some r→r.seq+1≤1000000) (hpl:path.length<1000000) (hkl:key.length≤1000000)
 (hL:S.L.length+30+6 * (2+2 * m)≤3998) (hG:S.given.length≤900000) :
 Calls Tryz.prog 20 #[aF b,aY r0.root r0.seq,.agg #[.int .i64 kind,str path,str key,str val]] w (Oa w b m S R r0 kind path key val):=by
 have hnf:=bk.AB path
 have o1:=(Only.refl (fun _=>False) w).alloc (.cells #[.int .i64 r0.root,.int .i64 r0.seq] 23)
 have s1:(w.alloc (.cells #[.int .i64 r0.root,.int .i64 r0.seq] 23)).heap.size=w.heap.size+1:=Array.size_push _
 have A1:=bG.new h (.cells #[.int .i64 r0.root,.int .i64 r0.seq] 23)
 have h1:=h.still o1
 generalize hW1:w.alloc (.cells #[.int .i64 r0.root,.int .i64 r0.seq] 23)=W1 at *
 have o2:=(Only.refl (fun _=>False) W1).alloc (.cells #[.int .i64 kind,str path,str key,str val] 55)
 have A2:=bG.new h1 (.cells #[.int .i64 kind,str path,str key,str val] 55)
 have s2:(W1.alloc (.cells #[.int .i64 kind,str path,str key,str val] 55)).heap.size=W1.heap.size+1:=Array.size_push _
 have h2:=h1.still o2
 have SC:=A1.still h1 o2
 rw [s1] at A2 s2
 generalize hW2:W1.alloc (.cells #[.int .i64 kind,str path,str key,str val] 55)=W2 at *
 have A3:=bG.new h2 (.cells #[.int .i64 0,.int .i64 0] 23)
 rw [s2] at A3
 have o3:=(Only.refl (fun _=>False) W2).alloc (.cells #[.int .i64 0,.int .i64 0] 23)
 have M3:Et w b r0 kind path key val (W2.alloc (.cells #[.int .i64 0,.int .i64 0] 23)) S:=⟨h2.still o3,((aB.still h.lt o1).trans (aB.still h1.lt o2)).trans (aB.still h2.lt o3),SC.still h2 o3,A2.still h2 o3,A3⟩
 have hlt:=h.lt
 have hmx:=((hM.still o1).still o2).still o3
 have HP:=Lib.hid (bk.Mc _ path hpl hmx)
 unfold bk.AP at HP
 obtain⟨c0,c1,c2,c3,c4,c5,c6,c7,c8,c9⟩:=M3.cells
 have TK:=Lib.hid M3
 have HH:=Lib.hid (And.intro H (And.intro hp0 (And.intro gy (And.intro hseq (And.intro hL hG)))))
 have HE:Hid (F6 R kind path key val=if bk.nY path≠0 then bk.nY path else if gU R [] (bk.gM path)≠0 then gU R [] (bk.gM path) else match R (bk.gM path) with | some r=>kS kind r.l key val | none=>0):=Lib.hid rfl
 have WB:Hid (∀x∈bk.gM path,x.length≤1000000):=Lib.hid (fun x hx=>by
  unfold bk.gM at hx
  split at hx
  ·have:=lG path x hx
   omega
  ·cases hx)
 have BX:Hid (∀S' R' r',bk.nY path=0→(∃r S1 R1 r1,R (bk.gM path)=some r∧gU R [] (bk.gM path)=0∧kS kind r.l key val=0∧kC m S R (bk.gM path) r kind key val S1 R1 r1∧pV m S1 R1 [] (bk.gM path) S' R' r')→AA m S R kind path key val S' R' r'):=Lib.hid (fun S' R' r' a b=>⟨a,b⟩)
 clear o1 s1 A1 h1 o2 A2 s2 h2 SC A3 o3 M3 hmx hM h H hp0 gy hseq hL hG
 generalize bk.gM path=names at *
 generalize bk.nY path=pe at *
 subst hW2
 subst hW1
 unfold aF aY
 go_enter Tryz.func20,Tryz.ntmps20
 go_wp2_with fail
 generalize (((w.alloc (.cells #[.int .i64 r0.root,.int .i64 r0.seq] 23)).alloc (.cells #[.int .i64 kind,str path,str key,str val] 55)).alloc (.cells #[.int .i64 0,.int .i64 0] 23))=W3 at *
 (with_reducible refine HP.out.mono ?_)
 rintro e w4 ⟨v,rfl,hown,hnew,o4⟩
 obtain⟨aN,cN,rfl⟩:=ownsRow_form hown
 have M4:=TK.out.still o4
 have hcap:names.length≤cN:=by
  rcases hown.2 with ⟨q,hq⟩ |⟨g,cap,cur,q,_,_,q1,_⟩
  ·omega
  ·simp only [Value.slice.injEq] at q
   omega
 have hrb:bI (Value.slice aN names.length cN)=(Value.slice aN names.length cN).ownBlock:=bk.bg hown
 have HN:Names w4 b (.slice aN names.length cN) names:=⟨bk.bS (fun _=>rfl) hown,fun j q=>by
  rw [hrb] at q
  have h5:=hnew j q
  refine⟨fun z=>?_,(hown.lt j q).2⟩
  have:=bM TK.out.pages ((aD (o4.block b TK.out.pages.lt id) j).1 z)
  omega⟩
 have TL:=Lib.hid HN
 have HCAP:=Lib.hid hcap
 obtain⟨c0,c1,c2,c3,c4,c5,c6,c7,c8,c9⟩:=M4.cells
 have SE:=Lib.hid M4
 clear hown hnew o4 M4 hcap hrb HN HP TK
 by_cases hpe:pe=0
 ·have Yc:(pe != 0)=false:=by simp [hpe]
  have hh:=HH.out
  have J8:=Lib.hid (Eo w4 b S R [] r0 aN cN names SE.out.pages hh.1 hh.2.1 (by omega) (fun p r hq=>Nat.lt_of_lt_of_le (Nat.lt_of_succ_lt (hh.2.2.1 p r hq)) (Nat.pow_le_pow_right (by omega) hm)) TL.out (by omega) WB.out)
  unfold Es at J8
  unfold aF aY at J8
  rw [hpe]
  rw [hpe] at HE
  simp only [ne_eq,not_true_eq_false,if_false] at HE
  have K9:=Lib.hid hpe
  clear hh hpe
  go_wp2_with fail
  (with_reducible refine J8.out.mono ?_)
  rintro e w5 ⟨root,seq,er,rfl,her,hok,hbad,oh,sQ⟩
  have TM:=SE.out.step sQ oh
  have hnw:=TM.new (.cells #[.int .i64 root,.int .i64 seq] 23)
  obtain⟨c0,c1,c2,c3,c4,c5,c6,c7,c8,c9⟩:=hnw.1.cells
  have EC:=(TL.out.step sQ).step (aB.still oh.lt ((Only.refl _ w5).alloc (.cells #[.int .i64 root,.int .i64 seq] 23)))
  have f0:=aj hnw.2.1.at_ 0
  have f1:=aj hnw.2.1.at_ 1
  simp only [List.getElem?_toArray,List.getElem?_cons_zero,List.getElem?_cons_succ] at f0 f1
  have Ql:=Lib.hid EC
  have ML:=Lib.hid hnw
  rw [←her] at HE
  have G8:=Lib.hid (And.intro her (And.intro hok hbad))
  clear her hok hbad oh sQ TM hnw EC J8 SE TL
  by_cases hz:er=0
  ·subst hz
   obtain⟨r,hr,rfl,rfl⟩:=G8.out.2.1 rfl
   rw [List.nil_append] at hr
   rw [hr] at HE
   simp only [not_true_eq_false,if_false] at HE
   have HR:=Lib.hid hr
   clear hr
   go_upto_region 7 with fail
   generalize WC:w5.alloc (.cells #[.int .i64 r.root,.int .i64 r.seq] 23)=w6 at *
   generalize SF:w5.heap.size=g10 at *
   have M7:=ML.out.1.new (.cells #[.int .i64 0,.int .i64 0] 23)
   have TN:=ML.out.2.1.still ML.out.1.pages ((Only.refl _ w6).alloc (.cells #[.int .i64 0,.int .i64 0] 23))
   have WE:=Ql.out.step (aB.still ML.out.1.pages.lt ((Only.refl _ w6).alloc (.cells #[.int .i64 0,.int .i64 0] 23)))
   have WG:=jU ML.out.2.1.at_
   have wT:=Lib.hid (And.intro M7 (And.intro TN (And.intro WE (And.intro WG ML.out.2.2))))
   obtain⟨c0,c1,c2,c3,c4,c5,c6,c7,c8,c9⟩:=M7.1.cells
   have f0:=aj TN.at_ 0
   have f1:=aj TN.at_ 1
   have d0:=aj M7.2.1.at_ 0
   have d1:=aj M7.2.1.at_ 1
   have z0:=aC M7.2.1.at_ 0
   have z1:=aC M7.2.1.at_ 1
   simp only [List.getElem?_toArray,List.getElem?_cons_zero,List.getElem?_cons_succ] at f0 f1 d0 d1
   have hh:=HH.out
   have OX:Hid (y8 b m S R names r key):=Lib.hid ⟨hh.1,HR.out,fun p r hq=>Nat.lt_of_succ_lt (hh.2.2.1 p r hq),hm,hkl,by omega,by omega,hh.2.2.2.1 _ r HR.out⟩
   have yx:Hid (∀wx S1 R1 r1,kS kind r.l key val=0→kC m S R names r kind key val S1 R1 r1→aA wx b S1→Names wx b (.slice aN names.length cN) names→Calls Tryz.prog 89 #[aF b,aY r0.root r0.seq,aY r1.root r1.seq,.slice aN names.length cN] wx (mJ wx b m S1 R1 [] names)):=Lib.hid (fun wx S1 R1 r1 hact OP hpx hnx=>by
    have hlenO:=OP.len
    have WH:=OP.given
    have hcs:(if kind=1 then (dN val).length else 0)≤9:=by
     split
     ·exact zf (Md hact (by assumption))
     ·omega
    have hmul:names.length * (2+2 * m)≤4 * (2+2 * m):=Nat.mul_le_mul_right _ hnf
    obtain⟨rp,Vl⟩:∃rp,R1 []=some rp:=OP.held.dh.top
    refine Ob b m S1 R1 (by omega) hm ?_ names wx [] rp r1 r0.root r0.seq aN cN hpx (by rw [List.nil_append];exact OP.held) Vl (by rw [List.nil_append];exact OP.at_) ?_ (by rw [OP.find];exact G8.out.1.symm) hnx HCAP.out (by omega) WB.out (by omega) (by omega)
    ·exact OP.few HR.out hh.2.2.1
    ·intro hne
     have:R1 []=R []:=OP.out [] fun z=>hne (List.prefix_nil.1 z)
     rw [this,hh.2.1] at Vl
     cases Vl
     exact⟨rfl,rfl⟩)
   have hbv:bI (Value.slice aN names.length cN)≠some w6.heap.size:=fun q=>by
    have:=(Ql.out.away _ q).2
    omega
   clear M7 TN WE WG HH hh
   have hge:w.heap.size+1+1<w6.heap.size:=by have:=wT.out.2.2.2.1;have:=wT.out.2.2.2.2;omega
   by_cases hk1:kind=1
   ·subst hk1
    have HK:=Lib.hid (LA _ b m S R names r key val wT.out.1.1.pages OX.out)
    unfold q8 at HK
    unfold aF aY at HK
    go_wp2_with fail
    (with_reducible refine HK.out.mono ?_)
    rintro e w8 (⟨er,hne,hae,rfl,mZ,qz⟩ |⟨S1,R1,r1,hact,rfl,hop,mZ,qz⟩)
    ·have M8:=wT.out.1.1.step qz mZ
     have A8:=wT.out.1.2.1.step qz
     have d0:=aj A8.at_ 0
     have d1:=aj A8.at_ 1
     have z0:=aC A8.at_ 0
     have z1:=aC A8.at_ 1
     simp only [List.getElem?_toArray,List.getElem?_cons_zero,List.getElem?_cons_succ] at d0 d1
     have M9:=M8.set hlt A8 hge (.int .i64 0) (.int .i64 0)
     have hz1:(er != 0)=true:=by simpa using hne
     have ED:=Lib.hid (And.intro hne hae)
     clear M8 A8 mZ qz hne hae HK
     go_upto_region 18 with fail
     generalize (w8.setCell ⟨w6.heap.size,0,none⟩ (.int .i64 0)).setCell ⟨w6.heap.size,1,none⟩ (.int .i64 0)=w9 at *
     obtain⟨c0,c1,c2,c3,c4,c5,c6,c7,c8,c9⟩:=M9.1.cells
     have HF:=Lib.hid (M9.1.fin hlt (.int .i64 r0.root) (.int .i64 r0.seq))
     clear M9 d0 d1 z0 z1
     go_wp2_with fail
     obtain⟨g1,g2,g3⟩:=HF.out
     have x0:=aj g3 0
     have x1:=aj g3 1
     simp only [List.getElem?_toArray,List.getElem?_cons_zero,List.getElem?_cons_succ] at x0 x1
     exact bodyPost_ret (v:=.tuple #[.agg #[.int .i64 r0.root,.int .i64 r0.seq],.int .i64 er]) (by simp [results,Tryz.results20,go_sem,x0,x1]) rfl (.inl ⟨er,ED.out.1,by rw [HE.out];exact ED.out.2,rfl,g1,g2⟩)
    ·have M8:=wT.out.1.1.step qz mZ
     have A8:=wT.out.1.2.1.step qz
     have N8:=wT.out.2.2.1.step qz
     have d0:=aj A8.at_ 0
     have d1:=aj A8.at_ 1
     have z0:=aC A8.at_ 0
     have z1:=aC A8.at_ 1
     simp only [List.getElem?_toArray,List.getElem?_cons_zero,List.getElem?_cons_succ] at d0 d1
     have vX:=Lib.hid (And.intro hact hop)
     clear hact hop mZ HK
     have M9:=M8.set hlt A8 hge (.int .i64 r1.root) (.int .i64 r1.seq)
     have N9:=N8.set M8.pages A8 hbv hlt M8.st hge r1.root r1.seq
     clear M8 A8 N8
     go_upto_region 18 with fail
     generalize (w8.setCell ⟨w6.heap.size,0,none⟩ (.int .i64 r1.root)).setCell ⟨w6.heap.size,1,none⟩ (.int .i64 r1.seq)=w9 at *
     obtain⟨c0,c1,c2,c3,c4,c5,c6,c7,c8,c9⟩:=M9.1.cells
     have d0:=aj M9.2.at_ 0
     have d1:=aj M9.2.at_ 1
     simp only [List.getElem?_toArray,List.getElem?_cons_zero,List.getElem?_cons_succ] at d0 d1
     have HST:=Lib.hid (yx.out w9 S1 R1 r1 vX.out.1 vX.out.2 M9.1.pages N9)
     unfold mJ at HST
     unfold aF aY at HST
     have He:=Lib.hid M9.1
     clear M9 N9 z0 z1
     go_wp2_with fail
     (with_reducible refine HST.out.mono ?_)
     rintro e wA ⟨S',R',r',rfl,hset,AQ,stA⟩
     have MA:=He.out.step stA AQ
     obtain⟨c0,c1,c2,c3,c4,c5,c6,c7,c8,c9⟩:=MA.cells
     have HF:=Lib.hid (MA.fin hlt (.int .i64 r'.root) (.int .i64 r'.seq))
     have Oc:=Lib.hid hset
     clear MA hset AQ stA He HST d0 d1
     go_wp2_with fail
     obtain⟨g1,g2,g3⟩:=HF.out
     have x0:=aj g3 0
     have x1:=aj g3 1
     simp only [List.getElem?_toArray,List.getElem?_cons_zero,List.getElem?_cons_succ] at x0 x1
     exact bodyPost_ret (v:=.tuple #[.agg #[.int .i64 r'.root,.int .i64 r'.seq],.int .i64 0]) (by simp [results,Tryz.results20,go_sem,x0,x1]) rfl (.inr ⟨S',R',r',by rw [HE.out];exact vX.out.1,rfl,BX.out S' R' r' K9.out ⟨r,S1,R1,r1,HR.out,G8.out.1.symm,vX.out.1,vX.out.2,Oc.out⟩,g1,g2⟩)
   have Yd:(kind == 1)=false:=by simpa using hk1
   by_cases hk2:kind=2
   ·subst hk2
    have HK:=Lib.hid (Qm _ b m S R names r key val wT.out.1.1.pages OX.out)
    unfold q8 at HK
    unfold aF aY at HK
    go_wp2_with fail
    (with_reducible refine HK.out.mono ?_)
    rintro e w8 (⟨er,hne,hae,rfl,mZ,qz⟩ |⟨S1,R1,r1,hact,rfl,hop,mZ,qz⟩)
    ·have M8:=wT.out.1.1.step qz mZ
     have A8:=wT.out.1.2.1.step qz
     have d0:=aj A8.at_ 0
     have d1:=aj A8.at_ 1
     have z0:=aC A8.at_ 0
     have z1:=aC A8.at_ 1
     simp only [List.getElem?_toArray,List.getElem?_cons_zero,List.getElem?_cons_succ] at d0 d1
     have M9:=M8.set hlt A8 hge (.int .i64 0) (.int .i64 0)
     have hz1:(er != 0)=true:=by simpa using hne
     have ED:=Lib.hid (And.intro hne hae)
     clear M8 A8 mZ qz hne hae HK
     go_upto_region 18 with fail
     generalize (w8.setCell ⟨w6.heap.size,0,none⟩ (.int .i64 0)).setCell ⟨w6.heap.size,1,none⟩ (.int .i64 0)=w9 at *
     obtain⟨c0,c1,c2,c3,c4,c5,c6,c7,c8,c9⟩:=M9.1.cells
     have HF:=Lib.hid (M9.1.fin hlt (.int .i64 r0.root) (.int .i64 r0.seq))
     clear M9 d0 d1 z0 z1
     go_wp2_with fail
     obtain⟨g1,g2,g3⟩:=HF.out
     have x0:=aj g3 0
     have x1:=aj g3 1
     simp only [List.getElem?_toArray,List.getElem?_cons_zero,List.getElem?_cons_succ] at x0 x1
     exact bodyPost_ret (v:=.tuple #[.agg #[.int .i64 r0.root,.int .i64 r0.seq],.int .i64 er]) (by simp [results,Tryz.results20,go_sem,x0,x1]) rfl (.inl ⟨er,ED.out.1,by rw [HE.out];exact ED.out.2,rfl,g1,g2⟩)
    ·have M8:=wT.out.1.1.step qz mZ
     have A8:=wT.out.1.2.1.step qz
     have N8:=wT.out.2.2.1.step qz
     have d0:=aj A8.at_ 0
     have d1:=aj A8.at_ 1
     have z0:=aC A8.at_ 0
     have z1:=aC A8.at_ 1
     simp only [List.getElem?_toArray,List.getElem?_cons_zero,List.getElem?_cons_succ] at d0 d1
     have vX:=Lib.hid (And.intro hact hop)
     clear hact hop mZ HK
     have M9:=M8.set hlt A8 hge (.int .i64 r1.root) (.int .i64 r1.seq)
     have N9:=N8.set M8.pages A8 hbv hlt M8.st hge r1.root r1.seq
     clear M8 A8 N8
     go_upto_region 18 with fail
     generalize (w8.setCell ⟨w6.heap.size,0,none⟩ (.int .i64 r1.root)).setCell ⟨w6.heap.size,1,none⟩ (.int .i64 r1.seq)=w9 at *
     obtain⟨c0,c1,c2,c3,c4,c5,c6,c7,c8,c9⟩:=M9.1.cells
     have d0:=aj M9.2.at_ 0
     have d1:=aj M9.2.at_ 1
     simp only [List.getElem?_toArray,List.getElem?_cons_zero,List.getElem?_cons_succ] at d0 d1
     have HST:=Lib.hid (yx.out w9 S1 R1 r1 vX.out.1 vX.out.2 M9.1.pages N9)
     unfold mJ at HST
     unfold aF aY at HST
     have He:=Lib.hid M9.1
     clear M9 N9 z0 z1
     go_wp2_with fail
     (with_reducible refine HST.out.mono ?_)
     rintro e wA ⟨S',R',r',rfl,hset,AQ,stA⟩
     have MA:=He.out.step stA AQ
     obtain⟨c0,c1,c2,c3,c4,c5,c6,c7,c8,c9⟩:=MA.cells
     have HF:=Lib.hid (MA.fin hlt (.int .i64 r'.root) (.int .i64 r'.seq))
     have Oc:=Lib.hid hset
     clear MA hset AQ stA He HST d0 d1
     go_wp2_with fail
     obtain⟨g1,g2,g3⟩:=HF.out
     have x0:=aj g3 0
     have x1:=aj g3 1
     simp only [List.getElem?_toArray,List.getElem?_cons_zero,List.getElem?_cons_succ] at x0 x1
     exact bodyPost_ret (v:=.tuple #[.agg #[.int .i64 r'.root,.int .i64 r'.seq],.int .i64 0]) (by simp [results,Tryz.results20,go_sem,x0,x1]) rfl (.inr ⟨S',R',r',by rw [HE.out];exact vX.out.1,rfl,BX.out S' R' r' K9.out ⟨r,S1,R1,r1,HR.out,G8.out.1.symm,vX.out.1,vX.out.2,Oc.out⟩,g1,g2⟩)
   have hkb2:(kind == 2)=false:=by simpa using hk2
   by_cases hk3:kind=3
   ·subst hk3
    have hd3:names.length<5:=by omega
    have HK:=Lib.hid (xM _ b m S R names r key val wT.out.1.1.pages OX.out hd3)
    unfold q8 at HK
    unfold aF aY at HK
    go_wp2_with fail
    (with_reducible refine HK.out.mono ?_)
    rintro e w8 (⟨er,hne,hae,rfl,mZ,qz⟩ |⟨S1,R1,r1,hact,rfl,hop,mZ,qz⟩)
    ·have M8:=wT.out.1.1.step qz mZ
     have A8:=wT.out.1.2.1.step qz
     have d0:=aj A8.at_ 0
     have d1:=aj A8.at_ 1
     have z0:=aC A8.at_ 0
     have z1:=aC A8.at_ 1
     simp only [List.getElem?_toArray,List.getElem?_cons_zero,List.getElem?_cons_succ] at d0 d1
     have M9:=M8.set hlt A8 hge (.int .i64 0) (.int .i64 0)
     have hz1:(er != 0)=true:=by simpa using hne
     have ED:=Lib.hid (And.intro hne hae)
     clear M8 A8 mZ qz hne hae HK
     go_upto_region 18 with fail
     generalize (w8.setCell ⟨w6.heap.size,0,none⟩ (.int .i64 0)).setCell ⟨w6.heap.size,1,none⟩ (.int .i64 0)=w9 at *
     obtain⟨c0,c1,c2,c3,c4,c5,c6,c7,c8,c9⟩:=M9.1.cells
     have HF:=Lib.hid (M9.1.fin hlt (.int .i64 r0.root) (.int .i64 r0.seq))
     clear M9 d0 d1 z0 z1
     go_wp2_with fail
     obtain⟨g1,g2,g3⟩:=HF.out
     have x0:=aj g3 0
     have x1:=aj g3 1
     simp only [List.getElem?_toArray,List.getElem?_cons_zero,List.getElem?_cons_succ] at x0 x1
     exact bodyPost_ret (v:=.tuple #[.agg #[.int .i64 r0.root,.int .i64 r0.seq],.int .i64 er]) (by simp [results,Tryz.results20,go_sem,x0,x1]) rfl (.inl ⟨er,ED.out.1,by rw [HE.out];exact ED.out.2,rfl,g1,g2⟩)
    ·have M8:=wT.out.1.1.step qz mZ
     have A8:=wT.out.1.2.1.step qz
     have N8:=wT.out.2.2.1.step qz
     have d0:=aj A8.at_ 0
     have d1:=aj A8.at_ 1
     have z0:=aC A8.at_ 0
     have z1:=aC A8.at_ 1
     simp only [List.getElem?_toArray,List.getElem?_cons_zero,List.getElem?_cons_succ] at d0 d1
     have vX:=Lib.hid (And.intro hact hop)
     clear hact hop mZ HK
     have M9:=M8.set hlt A8 hge (.int .i64 r1.root) (.int .i64 r1.seq)
     have N9:=N8.set M8.pages A8 hbv hlt M8.st hge r1.root r1.seq
     clear M8 A8 N8
     go_upto_region 18 with fail
     generalize (w8.setCell ⟨w6.heap.size,0,none⟩ (.int .i64 r1.root)).setCell ⟨w6.heap.size,1,none⟩ (.int .i64 r1.seq)=w9 at *
     obtain⟨c0,c1,c2,c3,c4,c5,c6,c7,c8,c9⟩:=M9.1.cells
     have d0:=aj M9.2.at_ 0
     have d1:=aj M9.2.at_ 1
     simp only [List.getElem?_toArray,List.getElem?_cons_zero,List.getElem?_cons_succ] at d0 d1
     have HST:=Lib.hid (yx.out w9 S1 R1 r1 vX.out.1 vX.out.2 M9.1.pages N9)
     unfold mJ at HST
     unfold aF aY at HST
     have He:=Lib.hid M9.1
     clear M9 N9 z0 z1
     go_wp2_with fail
     (with_reducible refine HST.out.mono ?_)
     rintro e wA ⟨S',R',r',rfl,hset,AQ,stA⟩
     have MA:=He.out.step stA AQ
     obtain⟨c0,c1,c2,c3,c4,c5,c6,c7,c8,c9⟩:=MA.cells
     have HF:=Lib.hid (MA.fin hlt (.int .i64 r'.root) (.int .i64 r'.seq))
     have Oc:=Lib.hid hset
     clear MA hset AQ stA He HST d0 d1
     go_wp2_with fail
     obtain⟨g1,g2,g3⟩:=HF.out
     have x0:=aj g3 0
     have x1:=aj g3 1
     simp only [List.getElem?_toArray,List.getElem?_cons_zero,List.getElem?_cons_succ] at x0 x1
     exact bodyPost_ret (v:=.tuple #[.agg #[.int .i64 r'.root,.int .i64 r'.seq],.int .i64 0]) (by simp [results,Tryz.results20,go_sem,x0,x1]) rfl (.inr ⟨S',R',r',by rw [HE.out];exact vX.out.1,rfl,BX.out S' R' r' K9.out ⟨r,S1,R1,r1,HR.out,G8.out.1.symm,vX.out.1,vX.out.2,Oc.out⟩,g1,g2⟩)
   have Ye:(kind == 3)=false:=by simpa using hk3
   by_cases hk4:kind=4
   ·subst hk4
    have HK:=Lib.hid (Od _ b m S R names r key val wT.out.1.1.pages OX.out)
    unfold q8 at HK
    unfold aF aY at HK
    go_wp2_with fail
    (with_reducible refine HK.out.mono ?_)
    rintro e w8 (⟨er,hne,hae,rfl,mZ,qz⟩ |⟨S1,R1,r1,hact,rfl,hop,mZ,qz⟩)
    ·have M8:=wT.out.1.1.step qz mZ
     have A8:=wT.out.1.2.1.step qz
     have d0:=aj A8.at_ 0
     have d1:=aj A8.at_ 1
     have z0:=aC A8.at_ 0
     have z1:=aC A8.at_ 1
     simp only [List.getElem?_toArray,List.getElem?_cons_zero,List.getElem?_cons_succ] at d0 d1
     have M9:=M8.set hlt A8 hge (.int .i64 0) (.int .i64 0)
     have hz1:(er != 0)=true:=by simpa using hne
     have ED:=Lib.hid (And.intro hne hae)
     clear M8 A8 mZ qz hne hae HK
     go_upto_region 18 with fail
     generalize (w8.setCell ⟨w6.heap.size,0,none⟩ (.int .i64 0)).setCell ⟨w6.heap.size,1,none⟩ (.int .i64 0)=w9 at *
     obtain⟨c0,c1,c2,c3,c4,c5,c6,c7,c8,c9⟩:=M9.1.cells
     have HF:=Lib.hid (M9.1.fin hlt (.int .i64 r0.root) (.int .i64 r0.seq))
     clear M9 d0 d1 z0 z1
     go_wp2_with fail
     obtain⟨g1,g2,g3⟩:=HF.out
     have x0:=aj g3 0
     have x1:=aj g3 1
     simp only [List.getElem?_toArray,List.getElem?_cons_zero,List.getElem?_cons_succ] at x0 x1
     exact bodyPost_ret (v:=.tuple #[.agg #[.int .i64 r0.root,.int .i64 r0.seq],.int .i64 er]) (by simp [results,Tryz.results20,go_sem,x0,x1]) rfl (.inl ⟨er,ED.out.1,by rw [HE.out];exact ED.out.2,rfl,g1,g2⟩)
    ·have M8:=wT.out.1.1.step qz mZ
     have A8:=wT.out.1.2.1.step qz
     have N8:=wT.out.2.2.1.step qz
     have d0:=aj A8.at_ 0
     have d1:=aj A8.at_ 1
     have z0:=aC A8.at_ 0
     have z1:=aC A8.at_ 1
     simp only [List.getElem?_toArray,List.getElem?_cons_zero,List.getElem?_cons_succ] at d0 d1
     have vX:=Lib.hid (And.intro hact hop)
     clear hact hop mZ HK
     have M9:=M8.set hlt A8 hge (.int .i64 r1.root) (.int .i64 r1.seq)
     have N9:=N8.set M8.pages A8 hbv hlt M8.st hge r1.root r1.seq
     clear M8 A8 N8
     go_upto_region 18 with fail
     generalize (w8.setCell ⟨w6.heap.size,0,none⟩ (.int .i64 r1.root)).setCell ⟨w6.heap.size,1,none⟩ (.int .i64 r1.seq)=w9 at *
     obtain⟨c0,c1,c2,c3,c4,c5,c6,c7,c8,c9⟩:=M9.1.cells
     have d0:=aj M9.2.at_ 0
     have d1:=aj M9.2.at_ 1
     simp only [List.getElem?_toArray,List.getElem?_cons_zero,List.getElem?_cons_succ] at d0 d1
     have HST:=Lib.hid (yx.out w9 S1 R1 r1 vX.out.1 vX.out.2 M9.1.pages N9)
     unfold mJ at HST
     unfold aF aY at HST
     have He:=Lib.hid M9.1
     clear M9 N9 z0 z1
     go_wp2_with fail
     (with_reducible refine HST.out.mono ?_)
     rintro e wA ⟨S',R',r',rfl,hset,AQ,stA⟩
     have MA:=He.out.step stA AQ
     obtain⟨c0,c1,c2,c3,c4,c5,c6,c7,c8,c9⟩:=MA.cells
     have HF:=Lib.hid (MA.fin hlt (.int .i64 r'.root) (.int .i64 r'.seq))
     have Oc:=Lib.hid hset
     clear MA hset AQ stA He HST d0 d1
     go_wp2_with fail
     obtain⟨g1,g2,g3⟩:=HF.out
     have x0:=aj g3 0
     have x1:=aj g3 1
     simp only [List.getElem?_toArray,List.getElem?_cons_zero,List.getElem?_cons_succ] at x0 x1
     exact bodyPost_ret (v:=.tuple #[.agg #[.int .i64 r'.root,.int .i64 r'.seq],.int .i64 0]) (by simp [results,Tryz.results20,go_sem,x0,x1]) rfl (.inr ⟨S',R',r',by rw [HE.out];exact vX.out.1,rfl,BX.out S' R' r' K9.out ⟨r,S1,R1,r1,HR.out,G8.out.1.symm,vX.out.1,vX.out.2,Oc.out⟩,g1,g2⟩)
   have Yf:(kind == 4)=false:=by simpa using hk4
   have hact:kS kind r.l key val=0:=by
    unfold kS
    rw [if_neg hk1,if_neg hk2,if_neg hk3,if_neg hk4]
   have Yg:=OX.out.seq
   have Vm:=(OX.out.held.dh.tree _ r HR.out).2.2.1
   have hws:IntKind.i64.wrap (r.seq+1)=r.seq+1:=by exact IntWalk.i64_in _ (by omega)
   clear Yg Vm
   have hop:=Qn (k:=key) (v:=val) (m:=m) (kind:=kind) OX.out.held HR.out OX.out.seq ⟨hk1,hk2,hk3,hk4⟩
   have M9:=ML.out.1.new (.cells #[.int .i64 r.root,.int .i64 (r.seq+1)] 23)
   have N9:=Ql.out.step (aB.still ML.out.1.pages.lt ((Only.refl _ w6).alloc (.cells #[.int .i64 r.root,.int .i64 (r.seq+1)] 23)))
   have HST:=Lib.hid (yx.out _ S (upd R names ⟨r.root,r.seq+1,r.l,r.ids⟩) ⟨r.root,r.seq+1,r.l,r.ids⟩ hact hop M9.1.pages N9)
   unfold mJ at HST
   unfold aF aY at HST
   have He:=Lib.hid M9.1
   have vX:=Lib.hid (And.intro hact hop)
   obtain⟨b0,b1,b2,b3,b4,b5,b6,b7,b8,b9⟩:=M9.1.cells
   have t0:=aj M9.2.1.at_ 0
   have t1:=aj M9.2.1.at_ 1
   simp only [List.getElem?_toArray,List.getElem?_cons_zero,List.getElem?_cons_succ] at t0 t1
   clear M9 N9 hact hop
   go_upto_region 18 with fail
   generalize w6.alloc (.cells #[.int .i64 r.root,.int .i64 (r.seq+1)] 23)=w9 at *
   go_wp2_with fail
   (with_reducible refine HST.out.mono ?_)
   rintro e wA ⟨S',R',r',rfl,hset,AQ,stA⟩
   have MA:=He.out.step stA AQ
   obtain⟨c0,c1,c2,c3,c4,c5,c6,c7,c8,c9⟩:=MA.cells
   have HF:=Lib.hid (MA.fin hlt (.int .i64 r'.root) (.int .i64 r'.seq))
   have Oc:=Lib.hid hset
   clear MA hset AQ stA He HST
   go_wp2_with fail
   obtain⟨g1,g2,g3⟩:=HF.out
   have x0:=aj g3 0
   have x1:=aj g3 1
   simp only [List.getElem?_toArray,List.getElem?_cons_zero,List.getElem?_cons_succ] at x0 x1
   exact bodyPost_ret (v:=.tuple #[.agg #[.int .i64 r'.root,.int .i64 r'.seq],.int .i64 0]) (by simp [results,Tryz.results20,go_sem,x0,x1]) rfl (.inr ⟨S',R',r',by rw [HE.out];exact vX.out.1,rfl,BX.out S' R' r' K9.out ⟨r,S,_,_,HR.out,G8.out.1.symm,vX.out.1,vX.out.2,Oc.out⟩,g1,g2⟩)
  ·have hz1:(er != 0)=true:=by simpa using hz
   have HF:=Lib.hid (ML.out.1.fin hlt (.int .i64 r0.root) (.int .i64 r0.seq))
   have HZ:=Lib.hid hz
   clear hz Ql ML HH
   go_wp2_with fail
   obtain⟨g1,g2,g3⟩:=HF.out
   have x0:=aj g3 0
   have x1:=aj g3 1
   simp only [List.getElem?_toArray,List.getElem?_cons_zero,List.getElem?_cons_succ] at x0 x1
   exact bodyPost_ret (v:=.tuple #[.agg #[.int .i64 r0.root,.int .i64 r0.seq],.int .i64 er]) (by simp [results,Tryz.results20,go_sem,x0,x1]) rfl (.inl ⟨er,HZ.out,by rw [HE.out,if_pos HZ.out],rfl,g1,g2⟩)
 ·have hz1:(pe != 0)=true:=by simpa using hpe
  have HF:=Lib.hid (SE.out.fin hlt (.int .i64 r0.root) (.int .i64 r0.seq))
  have HZ:=Lib.hid hpe
  clear hpe TL SE HH
  go_wp2_with fail
  obtain⟨g1,g2,g3⟩:=HF.out
  have x0:=aj g3 0
  have x1:=aj g3 1
  simp only [List.getElem?_toArray,List.getElem?_cons_zero,List.getElem?_cons_succ] at x0 x1
  exact bodyPost_ret (v:=.tuple #[.agg #[.int .i64 r0.root,.int .i64 r0.seq],.int .i64 pe]) (by simp [results,Tryz.results20,go_sem,x0,x1]) rfl (.inl ⟨pe,HZ.out,by rw [HE.out,if_pos HZ.out],rfl,g1,g2⟩)
end Go.Proofs.YtbhiamcmiopnoaaGreatDoor
