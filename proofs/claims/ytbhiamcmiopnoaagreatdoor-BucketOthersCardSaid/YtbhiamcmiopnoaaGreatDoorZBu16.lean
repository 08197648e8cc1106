/- Package bucket over the law's pages: a bucket is set at a path, up to the root one. Conditions: one goroutine; the pages hold the buckets; there is room. -/
import Derived.Test.YtbhiamcmiopnoaaGreatDoorZBuG
import Derived.Deep.RegionLaw
import Derived.Deep.DeepCutAuto
set_option maxHeartbeats 16000000
set_option maxRecDepth 100000
namespace Go.Proofs.YtbhiamcmiopnoaaGreatDoor
open Go.RowKit Go.MuLone
theorem Names.tail {w:World} {b g off c:Nat} {k:Bytes} {ks:List Bytes} (h:Names w b (.slice (some ⟨g,off,none⟩) (k :: ks).length c) (k :: ks)):Names w b (.slice (some ⟨g,off+1,none⟩) ks.length (c-1)) ks:=by
 refine⟨bL.some g (off+1) (c-1) ks fun i x j u hx hu=>?_,fun j q=>h.away j q⟩
 obtain⟨g2,off2,he,hc⟩:=bk.vT h.row (i:=i+1) (x:=x) (by simpa using hx)
 cases he
 have:=hc j u hu
 rw [show off+((i+1) * 1+j)=off+1+(i * 1+j) by omega] at this
 exact this
theorem Names.SG {w:World} {b g off c:Nat} {k:Bytes} {ks:List Bytes} (h:Names w b (.slice (some ⟨g,off,none⟩) (k :: ks).length c) (k :: ks)) (hc:ks.length+1≤c):Names w b (.slice (if c=1 then some ⟨g,off,none⟩ else some ⟨g,off+1,none⟩) ks.length (c-1)) ks:=by
 split
 ·have hk:ks=[]:=List.eq_nil_of_length_eq_zero (by omega)
  subst hk
  exact⟨bL.some g off (c-1) [] fun i x j u hx hu=>by simp at hx,fun j q=>h.away j q⟩
 ·exact h.tail
structure Mid (w:World) (b:Nat) (rp rin:Rec) (wx:World) (S:aW):Prop where
 pages:aA wx b S
 st:aB b w wx
 t5:bG wx b w.heap.size (.cells #[.int .i64 rp.root,.int .i64 rp.seq] 23 (0,0))
 t6:bG wx b (w.heap.size+1) (.cells #[.int .i64 rin.root,.int .i64 rin.seq] 23 (0,0))
 t8:bG wx b (w.heap.size+1+1) (.cells #[.int .i64 0,.int .i64 0] 23 (0,0))
theorem Mid.still {w wx wy:World} {b:Nat} {rp rin:Rec} {S:aW} (h:Mid w b rp rin wx S) (ho:Only (fun _=>False) wx wy):Mid w b rp rin wy S:=
 ⟨h.pages.still ho,h.st.trans (aB.still h.pages.lt ho),h.t5.still h.pages ho,h.t6.still h.pages ho,h.t8.still h.pages ho⟩
theorem Mid.step {w wx wy:World} {b:Nat} {rp rin:Rec} {S S':aW} (h:Mid w b rp rin wx S) (st:aB b wx wy) (hp:aA wy b S'):Mid w b rp rin wy S':=
 ⟨hp,h.st.trans st,h.t5.step st,h.t6.step st,h.t8.step st⟩
theorem Mid.set {w wx:World} {b B:Nat} {rp rin:Rec} {S:aW} {y0 y1:Value} (h:Mid w b rp rin wx S) (hlt:b<w.heap.size) (hB:bG wx b B (.cells #[y0,y1] 23 (0,0))) (hf:w.heap.size+1+1<B) (x0 x1:Value) :
 Mid w b rp rin ((wx.setCell ⟨B,0,none⟩ x0).setCell ⟨B,1,none⟩ x1) S∧bG ((wx.setCell ⟨B,0,none⟩ x0).setCell ⟨B,1,none⟩ x1) b B (.cells #[x0,x1] 23 (0,0)):=by
 obtain⟨g1,g2,g3,g4,g5⟩:=oJ h.pages h.st hB (by omega) hlt x0 x1
 exact⟨⟨g1,g2,h.t5.set g4 g5 (by omega),h.t6.set g4 g5 (by omega),h.t8.set g4 g5 (by omega)⟩,g3⟩
theorem Mid.new {w wx:World} {b:Nat} {rp rin:Rec} {S:aW} (h:Mid w b rp rin wx S) (o:Obj):Mid w b rp rin (wx.alloc o) S∧bG (wx.alloc o) b wx.heap.size o∧w.heap.size+1+1<wx.heap.size:=
 ⟨h.still ((Only.refl _ wx).alloc o),bG.new h.pages o,jU h.t8.at_⟩
def mJ (w:World) (b m:Nat) (S:aW) (R:Path→Option Rec) (pre:Path) (suf:List Bytes):Ending→World→Prop:=fun e w'=>∃S' R' r',e=.returned (.tuple #[aY r'.root r'.seq,.int .i64 0])∧pV m S R pre suf S' R' r'∧aA w' b S'∧aB b w w'
theorem Ob (b m:Nat) (S:aW) (R:Path→Option Rec) (hL0:S.L.length≤3998) (hm2:m≤11) (gy:∀p r,R p=some r→r.l.length<2 ^ m):∀(suf:List Bytes) (w:World) (pre:Path) (rp rin:Rec) (rt sq:Int) (a:Option Addr) (c:Nat),aA w b S→Held S R (pre++suf) []→R pre=some rp→R (pre++suf)=some rin→(suf≠[]→rt=rp.root∧sq=rp.seq)→gU R pre suf=0→Names w b (.slice a suf.length c) suf→suf.length≤c→suf.length≤1000→(∀x∈suf,x.length≤1000000)→S.L.length+suf.length * (2+2 * m)+8+2 * m≤3998→S.given.length+suf.length * 33+100<1000000→
 Calls Tryz.prog 89 #[aF b,aY rt sq,aY rin.root rin.seq,.slice a suf.length c] w (mJ w b m S R pre suf):=by
 intro suf
 induction suf with
 | nil=>
  intro w pre rp rin rt sq a c h H hp hin _ _ _ _ _ _ _ _
  rw [List.append_nil] at H hin
  have o1:=(Only.refl (fun _=>False) w).alloc (.cells #[.int .i64 rt,.int .i64 sq] 23)
  have s1:(w.alloc (.cells #[.int .i64 rt,.int .i64 sq] 23)).heap.size=w.heap.size+1:=Array.size_push _
  generalize hW1:w.alloc (.cells #[.int .i64 rt,.int .i64 sq] 23)=W1 at *
  have o2:=o1.alloc (.cells #[.int .i64 rin.root,.int .i64 rin.seq] 23)
  have n2:=dw W1 (.cells #[.int .i64 rin.root,.int .i64 rin.seq] 23)
  have s2:(W1.alloc (.cells #[.int .i64 rin.root,.int .i64 rin.seq] 23)).heap.size=W1.heap.size+1:=Array.size_push _
  rw [s1] at n2 s2
  generalize hW2:W1.alloc (.cells #[.int .i64 rin.root,.int .i64 rin.seq] 23)=W2 at *
  have h2:=h.still o2
  have o3:=(Only.refl (fun _=>False) W2).alloc (.cells #[.int .i64 0,.int .i64 0] 23)
  have n3:=dR n2 o3 id
  have c0:=aj n3 0
  have c1:=aj n3 1
  have o4:=(Only.refl (fun _=>False) W2).alloc (.cells #[.int .i64 rin.root,.int .i64 rin.seq] 23)
  have n4:=dw W2 (.cells #[.int .i64 rin.root,.int .i64 rin.seq] 23)
  rw [s2] at n4
  have x0:=aj n4 0
  have x1:=aj n4 1
  simp only [List.getElem?_toArray,List.getElem?_cons_zero,List.getElem?_cons_succ] at c0 c1 x0 x1
  have HF:=Lib.hid (And.intro (h2.still o4) ((aB.still h.lt o2).trans (aB.still h2.lt o4)))
  have HS:=Lib.hid (pV.nil (m:=m) H hin)
  clear o1 s1 o2 n2 s2 h2 o3 n3 h H hp hin o4 n4
  subst hW2
  subst hW1
  unfold aF aY
  go_enter Tryz.func89,Tryz.ntmps89
  go_wp2_with fail
  exact bodyPost_ret (v:=.tuple #[.agg #[.int .i64 rin.root,.int .i64 rin.seq],.int .i64 0]) (by simp [results,Tryz.results89,go_sem]) rfl ⟨S,R,rin,rfl,HS.out,HF.out⟩
 | cons k suf ih=>
  intro w pre rp rin rt sq a c h H hp hin hrs hfe hN hcap hnl hlen hL hG
  obtain⟨rfl,rfl⟩:=hrs (by simp)
  obtain⟨Vn,SH⟩:=F3 hp hfe
  obtain⟨hkn,r',hr',_⟩:=H.within hp Vn
  have happ:pre++k :: suf=(pre++[k])++suf:=by simp
  rw [happ] at H hin
  obtain⟨g,off,ha,hcell⟩:=bk.vT hN.row (i:=0) (x:=k) rfl
  subst ha
  have hc0:=hcell 0 (str k) rfl
  simp only [Nat.zero_mul,Nat.add_zero] at hc0
  have hkl:=hlen k (by simp)
  have o1:=(Only.refl (fun _=>False) w).alloc (.cells #[.int .i64 rp.root,.int .i64 rp.seq] 23)
  have s1:(w.alloc (.cells #[.int .i64 rp.root,.int .i64 rp.seq] 23)).heap.size=w.heap.size+1:=Array.size_push _
  have A1:=bG.new h (.cells #[.int .i64 rp.root,.int .i64 rp.seq] 23)
  have h1:=h.still o1
  generalize hW1:w.alloc (.cells #[.int .i64 rp.root,.int .i64 rp.seq] 23)=W1 at *
  have o2:=(Only.refl (fun _=>False) W1).alloc (.cells #[.int .i64 rin.root,.int .i64 rin.seq] 23)
  have A2:=bG.new h1 (.cells #[.int .i64 rin.root,.int .i64 rin.seq] 23)
  have s2:(W1.alloc (.cells #[.int .i64 rin.root,.int .i64 rin.seq] 23)).heap.size=W1.heap.size+1:=Array.size_push _
  have h2:=h1.still o2
  have SC:=A1.still h1 o2
  rw [s1] at A2 s2
  generalize hW2:W1.alloc (.cells #[.int .i64 rin.root,.int .i64 rin.seq] 23)=W2 at *
  have A3:=bG.new h2 (.cells #[.int .i64 0,.int .i64 0] 23)
  rw [s2] at A3
  have o3:=(Only.refl (fun _=>False) W2).alloc (.cells #[.int .i64 0,.int .i64 0] 23)
  have h3:=h2.still o3
  have TP:=SC.still h2 o3
  have WJ:=A2.still h2 o3
  have jR:aB b w (W2.alloc (.cells #[.int .i64 0,.int .i64 0] 23)):=((aB.still h.lt o1).trans (aB.still h1.lt o2)).trans (aB.still h2.lt o3)
  have hlt:=h.lt
  have xK:=hN.step jR
  have HW:=Lib.hid (And.intro h3 (And.intro jR (And.intro TP (And.intro WJ (And.intro A3 xK)))))
  have c0:=aj TP.at_ 0
  have c1:=aj TP.at_ 1
  simp only [List.getElem?_toArray,List.getElem?_cons_zero,List.getElem?_cons_succ] at c0 c1
  have hgb:=hN.away g rfl
  have hk0:=(jR.only.cell (p:=⟨g,off,none⟩) (lt_of_cell hc0) hgb.1).trans hc0
  have hbt:=H.dh.tree pre rp hp
  have HO:Hid (∀W,aA W b S→Calls Tryz.prog 97 #[aF b,aY rp.root rp.seq,str k] W fun e w'=>∃root seq,e=.returned (.tuple #[aY root seq,.int .i64 0])∧(suf≠[]→root=r'.root∧seq=r'.seq)∧aA w' b S∧aB b W w'):=Lib.hid (fun W hW=>(Co W b S rp.root rp.seq rp.l rp.ids k hW hkl hbt.1 (by have:=H.stop;omega) (Nat.lt_of_lt_of_le (gy pre rp hp) (Nat.pow_le_pow_right (by omega) hm2)) (H.reads hp)).mono fun e w' q=>by
   obtain⟨root,seq,er,rfl,hone,hp2,st2⟩:=q
   have her:er=0:=hone.err.trans Vn
   subst her
   exact⟨root,seq,rfl,fun hne=>hone.held H hL0 hp hr' (fun z=>hne (by
    have:=congrArg List.length z
    simp at this
    exact this)),hp2,st2⟩)
  have HI:=Lib.hid (fun W rt sq a2 (hW:aA W b S) (hq:suf≠[]→rt=r'.root∧sq=r'.seq) (TM:Names W b (.slice a2 suf.length (c-1)) suf)=>ih W (pre++[k]) r' rin rt sq a2 (c-1) hW H hr' hin hq SH TM (by simp at hcap;omega) (by simp at hnl;omega) (fun x hx=>hlen x (by simp [hx])) (by rw [List.length_cons,Nat.succ_mul] at hL;omega) (by rw [List.length_cons,Nat.succ_mul] at hG;omega))
  have HH:=Lib.hid (And.intro H (And.intro hp Vn))
  have Yh:=Lib.hid (And.intro hL hG)
  have Tv:=Lib.hid hN
  have hcap2:suf.length+1≤c:=hcap
  have OJ:=Lib.hid hcap2
  clear hcap hcap2 hnl
  clear ih o1 s1 A1 h1 o2 A2 s2 h2 SC A3 o3 h3 TP WJ jR h H hp hin hrs hfe SH hN xK hlen hL hG hbt happ hcell hc0
  subst hW2
  subst hW1
  unfold aF aY at HO HI ⊢
  rw [List.length_cons]
  have hn1:(((suf.length+1:Nat):Int) == 0)=false:=by simp;omega
  have hn0:(0:Int)<((suf.length+1:Nat):Int):=by omega
  go_enter Tryz.func89,Tryz.ntmps89
  go_upto_region 3 with fail
  generalize (((w.alloc (.cells #[.int .i64 rp.root,.int .i64 rp.seq] 23)).alloc (.cells #[.int .i64 rin.root,.int .i64 rin.seq] 23)).alloc (.cells #[.int .i64 0,.int .i64 0] 23))=W3 at *
  obtain⟨q1,q2,q3,q4,q5,q6⟩:=HW.out
  have HM:=Lib.hid (Mid.mk (rp:=rp) (rin:=rin) q1 q2 q3 q4 q5)
  have WK:Hid (∀wx S',Mid w b rp rin wx S'→Names wx b (.slice (some ⟨g,off,none⟩) (k :: suf).length c) (k :: suf)):=Lib.hid (fun wx S' M=>Tv.out.step M.st)
  have Yi:Hid (∀wx S',Mid w b rp rin wx S'→wx.cell? ⟨g,off,none⟩=some (str k)):=Lib.hid (fun wx S' M=>by
   obtain⟨g2,off2,he,hc⟩:=bk.vT (WK.out wx S' M).row (i:=0) (x:=k) rfl
   cases he
   simpa using hc 0 (str k) rfl)
  clear q1 q2 q3 q4 q5 q6 HW
  have HA:=Lib.hid (HM.out.new (.cells #[.int .i64 0,.int .i64 0] 23))
  have oa:=(Only.refl (fun _=>False) W3).alloc (.cells #[.int .i64 0,.int .i64 0] 23)
  have ka:=(oa.cell (p:=⟨g,off,none⟩) (lt_of_cell hk0) id).trans hk0
  have Vo:=(oa.cell (p:=⟨w.heap.size,0,none⟩) (lt_of_cell c0) id).trans c0
  have Vp:=(oa.cell (p:=⟨w.heap.size,1,none⟩) (lt_of_cell c1) id).trans c1
  clear oa
  go_cut [10,11] (fun s10 s11 wx=>∃(g10:Nat) (root seq:Int),s10=.pointer (some ⟨g10,0,none⟩)∧s11=.int .i64 0∧(suf≠[]→root=r'.root∧seq=r'.seq)∧Mid w b rp rin wx S∧bG wx b g10 (.cells #[.int .i64 root,.int .i64 seq] 23 (0,0))∧w.heap.size+1+1<g10)
  case first=>
   go_region_law (first
    |(rw [if_pos (by simp [Region.wanted])];go_simp;(with_reducible refine(HO.out _ (by first | exact HA.out.1.pages.still (Only.refl _ _).drew)).mono ?_);rintro _ w4 ⟨root,seq,rfl,hrq,iD,fP⟩;have Jm:=(HA.out.2.1.still HA.out.1.pages (Only.refl _ _).drew).step fP;have d0:=aj Jm.at_ 0;have d1:=aj Jm.at_ 1;have z0:=aC Jm.at_ 0;have z1:=aC Jm.at_ 1;simp only [List.getElem?_toArray,List.getElem?_cons_zero,List.getElem?_cons_succ] at d0 d1;have HQ:=Lib.hid (And.intro hrq (((HA.out.1.still (Only.refl _ _).drew).step fP iD).set hlt Jm HA.out.2.2 (.int .i64 root) (.int .i64 seq)));clear hrq iD fP Jm)
    |(rw [if_pos (by simp [Region.wanted])];go_simp;(with_reducible refine(HO.out _ (by first | exact HM.out.pages.still (Only.refl _ _).drew)).mono ?_);rintro _ w4 ⟨root,seq,rfl,hrq,iD,fP⟩;have Oe:=Lib.hid (And.intro hrq (((HM.out.still (Only.refl _ _).drew).step fP iD).new (.cells #[.int .i64 root,.int .i64 seq] 23)));clear hrq iD fP))
   all_goals
    go_wp2_with fail
    go_meet
    case rel=>first | exact⟨_,_,_,rfl,rfl,HQ.out.1,HQ.out.2.1,HQ.out.2.2,HA.out.2.2⟩ | exact⟨_,_,_,rfl,rfl,Oe.out.1,Oe.out.2.1,Oe.out.2.2.1,Oe.out.2.2.2⟩
  case rest=>
   obtain⟨g10,root,seq,rfl,rfl,hrq,hM,Og,SF⟩:=hcut
   clear c0 c1 hk0 ka Vo Vp HA HM
   have HM:=Lib.hid hM
   have HT:=Lib.hid (And.intro Og SF)
   have e0:=aj Og.at_ 0
   have e1:=aj Og.at_ 1
   have i0:=aj hM.t6.at_ 0
   have i1:=aj hM.t6.at_ 1
   simp only [List.getElem?_toArray,List.getElem?_cons_zero,List.getElem?_cons_succ] at e0 e1 i0 i1
   have Vq:=Lib.hid hrq
   clear hM Og hrq
   go_upto_region 6 with fail
   have HA:=Lib.hid (HM.out.new (.cells #[.int .i64 0,.int .i64 0] 23))
   have oa:=(Only.refl (fun _=>False) wc).alloc (.cells #[.int .i64 0,.int .i64 0] 23)
   have Vo:=(oa.cell (p:=⟨g10,0,none⟩) (lt_of_cell e0) id).trans e0
   have Vp:=(oa.cell (p:=⟨g10,1,none⟩) (lt_of_cell e1) id).trans e1
   have Yj:=(oa.cell (p:=⟨w.heap.size+1,0,none⟩) (lt_of_cell i0) id).trans i0
   have Yk:=(oa.cell (p:=⟨w.heap.size+1,1,none⟩) (lt_of_cell i1) id).trans i1
   clear oa
   have hsl:(1:Int)≤(suf.length:Int)+1:=by omega
   obtain⟨ta,WL⟩:∃ta:Option Addr,(if c=1 then some ⟨g,off,none⟩ else some ⟨g,off+1,none⟩)=ta:=⟨_,rfl⟩
   have Vr:Hid (∀wx S',Mid w b rp rin wx S'→Names wx b (.slice ta suf.length (c-1)) suf):=Lib.hid (fun wx S' M=>by
    rw [←WL]
    exact(WK.out wx S' M).SG OJ.out)
   unfold mJ aY at HI
   go_cut [11,12] (fun s11 s12 wx=>∃(g12:Nat) (S':aW) (R':Path→Option Rec) (r1:Rec),s12=.pointer (some ⟨g12,0,none⟩)∧s11=.int .i64 0∧pV m S R (pre++[k]) suf S' R' r1∧Mid w b rp rin wx S'∧bG wx b g12 (.cells #[.int .i64 r1.root,.int .i64 r1.seq] 23 (0,0))∧w.heap.size+1+1<g12)
   case first=>
    go_region_law (first
     |(rw [if_pos (by simp [Region.wanted])];go_simp;(with_reducible refine(HI.out _ _ _ _ (by first | exact HA.out.1.pages.still (Only.refl _ _).drew) Vq.out (Vr.out _ _ (HA.out.1.still (Only.refl _ _).drew))).mono ?_);rintro _ w4 ⟨S',R',r1,rfl,hst,iD,fP⟩;have Jm:=(HA.out.2.1.still HA.out.1.pages (Only.refl _ _).drew).step fP;have d0:=aj Jm.at_ 0;have d1:=aj Jm.at_ 1;have z0:=aC Jm.at_ 0;have z1:=aC Jm.at_ 1;simp only [List.getElem?_toArray,List.getElem?_cons_zero,List.getElem?_cons_succ] at d0 d1;have HQ:=Lib.hid (And.intro hst (((HA.out.1.still (Only.refl _ _).drew).step fP iD).set hlt Jm HA.out.2.2 (.int .i64 r1.root) (.int .i64 r1.seq)));clear hst iD fP Jm)
     |(rw [if_pos (by simp [Region.wanted])];go_simp;(with_reducible refine(HI.out _ _ _ _ (by first | exact HM.out.pages.still (Only.refl _ _).drew) Vq.out (Vr.out _ _ (HM.out.still (Only.refl _ _).drew))).mono ?_);rintro _ w4 ⟨S',R',r1,rfl,hst,iD,fP⟩;have Oe:=Lib.hid (And.intro hst (((HM.out.still (Only.refl _ _).drew).step fP iD).new (.cells #[.int .i64 r1.root,.int .i64 r1.seq] 23)));clear hst iD fP))
    all_goals
     go_wp2_with fail
     go_meet
     case rel=>first | exact⟨_,_,_,_,rfl,rfl,HQ.out.1,HQ.out.2.1,HQ.out.2.2,HA.out.2.2⟩ | exact⟨_,_,_,_,rfl,rfl,Oe.out.1,Oe.out.2.1,Oe.out.2.2.1,Oe.out.2.2.2⟩
   case rest=>
    obtain⟨g12,S',R',r1,rfl,rfl,hset,hM2,Qo,Vs⟩:=hcut
    clear e0 e1 i0 i1 Vo Vp Yj Yk HA WL Vr HT
    have hh:=HH.out
    have SI:=Yh.out
    obtain⟨root',S2,bE,hput,hto,hok,hrt⟩:=pV.cons hh.1 hset hh.2.1 hh.2.2 (gy pre rp hh.2.1) hm2 (by have:=hset.len;have:=SI.1;rw [List.length_cons,Nat.succ_mul] at this;omega)
    have hrn:=hset.held.G7 hset.at_ (by have:=hset.len;have:=SI.1;rw [List.length_cons,Nat.succ_mul] at this;omega)
    have HL:Hid (∀W,Calls Tryz.prog 14 #[.agg #[.int .i64 r1.root,.int .i64 r1.seq]] W fun e w'=>e=.returned (str (gB r1.root.toNat r1.seq))∧Only (fun _=>False) W w'):=Lib.hid (fun W=>by
     have:=Ci W r1.root.toNat (by omega) r1.seq
     rwa [hrn.1] at this)
    have TJ:Hid (∀W,aA W b S'→Calls Tryz.prog 96 #[aF b,aY rp.root rp.seq,.agg #[str k,str (gB r1.root.toNat r1.seq),.int .i64 2],.agg #[str [],str [],.int .i64 0]] W fun e w'=>e=.returned (.tuple #[aY root' rp.seq,.int .i64 0])∧aA w' b S2∧aB b W w'):=Lib.hid (fun W hW=>vv W b S' S2 rp.root root' rp.seq rp.l rp.ids (gT k r1) ⟨[],[],0⟩ m hW hok hrt (by have:=hset.held.stop;omega) (gy pre rp hh.2.1) hm2 (by have:=hset.len;have:=SI.1;rw [List.length_cons,Nat.succ_mul] at this;omega) (by have:=hset.given;have:=SI.2;rw [List.length_cons,Nat.succ_mul] at this;omega) hput (.inr ⟨[],.plain [] [] (by decide)⟩))
    unfold aF aY at TJ
    have Yl:=Lib.hid hto
    have Pf:=Lib.hid hM2
    have c0:=aj hM2.t5.at_ 0
    have c1:=aj hM2.t5.at_ 1
    have e0:=aj Qo.at_ 0
    have e1:=aj Qo.at_ 1
    simp only [List.getElem?_toArray,List.getElem?_cons_zero,List.getElem?_cons_succ] at c0 c1 e0 e1
    have hk0:=Yi.out _ _ hM2
    clear hh SI hput hto hok hrt hrn hM2 Qo hset HI HO Vq HM Vs
    go_upto_region 9 with fail
    go_region_law (first
     |(rw [if_pos (by simp [Region.wanted])];go_simp;(with_reducible refine(HL.out _).mono ?_);rintro _ w5 ⟨rfl,o5⟩;have L9:Only (fun _=>False) wc w5:=(by first | exact o5 | exact((Only.refl _ _).drew).trans o5 (fun _ _ q=>q));have k0:=(L9.cell (p:=⟨w.heap.size,0,none⟩) (lt_of_cell c0) id).trans c0;have k1:=(L9.cell (p:=⟨w.heap.size,1,none⟩) (lt_of_cell c1) id).trans c1;have k2:=(L9.cell (p:=⟨g,off,none⟩) (lt_of_cell hk0) id).trans hk0)
     |(rw [if_pos (by simp [Region.wanted])];go_simp;(with_reducible refine(TJ.out _ (Pf.out.pages.still L9)).mono ?_);rintro _ w6 ⟨rfl,mM,xA⟩;have M6:=(Pf.out.still L9).step xA mM;have d0:=aj M6.t8.at_ 0;have d1:=aj M6.t8.at_ 1;have z0:=aC M6.t8.at_ 0;have z1:=aC M6.t8.at_ 1;simp only [List.getElem?_toArray,List.getElem?_cons_zero,List.getElem?_cons_succ] at d0 d1;have HF:=Lib.hid (eu M6.pages M6.st M6.t8 (by omega) hlt (.int .i64 root') (.int .i64 rp.seq));clear M6 mM xA))
    all_goals
     go_wp2_with fail
     obtain⟨g1,g2,g3⟩:=HF.out
     have x0:=aj g3 0
     have x1:=aj g3 1
     simp only [List.getElem?_toArray,List.getElem?_cons_zero,List.getElem?_cons_succ] at x0 x1
     exact bodyPost_ret (v:=.tuple #[.agg #[.int .i64 root',.int .i64 rp.seq],.int .i64 0]) (by simp [results,Tryz.results89,go_sem,x0,x1]) rfl ⟨S2,_,_,rfl,Yl.out,g1,g2⟩
end Go.Proofs.YtbhiamcmiopnoaaGreatDoor
