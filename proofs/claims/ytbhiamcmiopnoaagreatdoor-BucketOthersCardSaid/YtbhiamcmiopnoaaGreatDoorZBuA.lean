/- A block that stays. For any program. -/
import Derived.Test.YtbhiamcmiopnoaaGreatDoorZHeap1
import Derived.Test.YtbhiamcmiopnoaaGreatDoorZBase
import Derived.Test.YtbhiamcmiopnoaaGreatDoorZPathX
import Derived.Test.YtbhiamcmiopnoaaGreatDoorZNumLow
import Derived.Test.YtbhiamcmiopnoaaGreatDoorZBuPs
import Derived.Test.YtbhiamcmiopnoaaGreatDoorZPutG
import Derived.Deep.RegionHeld3
set_option maxHeartbeats 8000000
set_option maxRecDepth 100000
namespace Go.Proofs.YtbhiamcmiopnoaaGreatDoor
section
open Go.RowKit
theorem dR {w w':World} {b:Nat} {o:Obj} (h:w.heap[b]? = some o) {F:Nat→Prop} (ho:Only F w w') (hF:¬F b):w'.heap[b]? = some o:=(ho.block b (jU h) hF).trans h
end
section
open Go.RowKit
theorem Lh (v c n:Nat) (m:Nat) (h:m≤n):bO (v+c * 256 ^ n) m=bO v m:=by
 induction m with
 | zero=>rfl
 | succ m ih=>
  rw [bO,bO,ih (by omega)]
  congr 2
  obtain⟨d,rfl⟩:∃d,n=m+1+d:=⟨n-(m+1),by omega⟩
  have e:c * 256 ^ (m+1+d)=256 ^ m * (256 * (c * 256 ^ d)):=by rw [Nat.pow_add,Nat.pow_succ];simp only [Nat.mul_comm,Nat.mul_assoc,Nat.mul_left_comm]
  rw [e,Nat.add_mul_div_left _ _ (Nat.pow_pos (by omega))]
  apply UInt8.toNat_inj.1
  simp only [UInt8.toNat_ofNat']
  omega
theorem Aw (t:Bytes):bO (gu t) t.length=t:=by
 induction h:t.length generalizing t with
 | zero=>simp [List.length_eq_zero_iff.1 h,bO]
 | succ n ih=>
  have hne:t≠[]:=fun q=>by simp [q] at h
  obtain⟨l,c,rfl⟩:∃l c,t=l++[c]:=⟨t.dropLast,t.getLast hne,(List.dropLast_concat_getLast hne).symm⟩
  have hl:l.length=n:=by simpa using h
  rw [qm,hl,bO,Lh _ _ _ _ (Nat.le_refl _),ih l hl]
  congr 2
  have hlt:=ug l
  rw [hl] at hlt
  rw [Nat.add_mul_div_right _ _ (Nat.pow_pos (by omega)),Nat.div_eq_of_lt hlt,Nat.zero_add]
  apply UInt8.toNat_inj.1
  simp only [UInt8.toNat_ofNat']
  have:=c.toNat_lt
  omega
end
section
open Go.RowKit Go.MuLone
theorem qU (root:Nat) (seq:Int):(gB root seq).length=10:=by simp [gB,bf]
theorem Ci (w:World) (root:Nat) (hr:root<65536) (seq:Int):Calls Tryz.prog 14 #[.agg #[.int .i64 root,.int .i64 seq]] w fun e w'=>e=.returned (str (gB root seq))∧Only (fun _=>False) w w':=by
 have o1:=(Only.refl (fun _=>False) w).alloc (.cells #[.int .i64 root,.int .i64 seq] 23)
 have b1:=dw w (.cells #[.int .i64 root,.int .i64 seq] 23)
 have s1:(w.alloc (.cells #[.int .i64 root,.int .i64 seq] 23)).heap.size=w.heap.size+1:=Array.size_push _
 have e1:eB ⟨[],0⟩ (root:Int) 2=⟨bO root 2,0⟩:=by unfold eB;rw [if_neg (by simp),if_neg (by omega)];simp
 have e2:NK ⟨bO root 2,0⟩ seq=⟨gB root seq,0⟩:=by unfold NK;rw [if_neg (by simp)];rfl
 go_enter Tryz.func14,Tryz.ntmps14
 go_wp2_with fail
 generalize hW1:w.alloc (.cells #[.int .i64 root,.int .i64 seq] 23)=W1 at *
 have HO:=Lib.hid o1
 have HS:Hid (∀W,Only (fun _=>False) W1 W→W.cell? ⟨w.heap.size,0,none⟩=some (.int .i64 root)∧W.cell? ⟨w.heap.size,1,none⟩=some (.int .i64 seq)):=Lib.hid (fun W hW=>by
  have y:=dR b1 hW id
  exact⟨aj y 0,aj y 1⟩)
 have HH:Hid (∀W,bN (fun _=>False) W1 W W1.heap.size ⟨[],0⟩→Calls Tryz.prog 48 #[.pointer (some ⟨W1.heap.size,0,none⟩),.int .i64 root] W fun e w'=>e=.returned (.pointer (some ⟨W1.heap.size,0,none⟩))∧bN (fun _=>False) W1 w' W1.heap.size ⟨bO root 2,0⟩):=Lib.hid (fun W h=>by
  have:=ql _ W1 W _ _ (root:Int) (by omega) h (by simp)
  rwa [e1] at this)
 have HI:Hid (∀W,bN (fun _=>False) W1 W W1.heap.size ⟨bO root 2,0⟩→Calls Tryz.prog 49 #[.pointer (some ⟨W1.heap.size,0,none⟩),.int .i64 seq] W fun e w'=>e=.returned (.pointer (some ⟨W1.heap.size,0,none⟩))∧bN (fun _=>False) W1 w' W1.heap.size ⟨gB root seq,0⟩):=Lib.hid (fun W h=>by
  have:=NM _ W1 W _ _ seq h (by simp [bf])
  rwa [e2] at this)
 have HE:Hid (∀W,bN (fun _=>False) W1 W W1.heap.size ⟨gB root seq,0⟩→Calls Tryz.prog 50 #[.pointer (some ⟨W1.heap.size,0,none⟩)] W fun e w'=>e=.returned (.tuple #[str (gB root seq),.int .i64 0])∧Only (fun _=>False) W w'):=Lib.hid (fun W h=>xw _ W1 W _ _ h)
 have p0:bN (fun _=>False) W1 (W1.alloc (.cells #[.slice none 0 0,.int .i64 0] 102)) W1.heap.size ⟨[],0⟩:=rT W1 102
 have p1:bN (fun _=>False) W1 (W1.alloc (.cells #[.slice none 0 0,.int .i64 0] 102)).drew W1.heap.size ⟨[],0⟩:=by
  obtain⟨sv,q⟩:=p0
  exact⟨sv,q.drew⟩
 have k0:Only (fun _=>False) W1 W1:=Only.refl _ _
 have k1:Only (fun _=>False) W1 W1.drew:=(Only.refl _ _).drew
 have k2:=p0.choose_spec.since
 have k3:=p1.choose_spec.since
 obtain⟨c0,c1⟩:=HS.out W1 k0
 clear b1 o1 e1 e2 hW1 s1
 go_region_held3 (fun w'=>w'.cell? ⟨w.heap.size,0,none⟩=some (.int .i64 root)∧w'.cell? ⟨w.heap.size,1,none⟩=some (.int .i64 seq)) (first | exact HS.out _ (by assumption)) (first |((with_reducible refine(HH.out _ ?hh).mono ?_);(case hh=>assumption);rintro _ w3 ⟨rfl,p3⟩;have k4:=p3.choose_spec.since) |((with_reducible refine(HI.out _ ?hh).mono ?_);(case hh=>assumption);rintro _ w4 ⟨rfl,p4⟩;have k5:=p4.choose_spec.since) |((with_reducible refine(HE.out _ ?hh).mono ?_);(case hh=>assumption);rintro _ w5 ⟨rfl,o5⟩;have k6:=Only.trans k5 o5 (fun _ _ q=>q)))
 have HF:=Lib.hid (HO.out.trans k6 (fun _ _ q=>q))
 clear k0 k1 k2 k3 k4 k5 k6 o5 HS HH HI HE p0 p1 p3 p4 c0 c1
 go_wp2_with fail
 go_ret
 exact⟨rfl,HF.out⟩
def wP (s:Bytes):Option (Nat×Int):=if s.length=10∧0≤wrap64 (gu (s.drop 2):Int)∧(gu (s.take 2)=0∨2≤gu (s.take 2)∧gu (s.take 2)<4000) then some (gu (s.take 2),wrap64 (gu (s.drop 2):Int)) else none
theorem I7 {m:Nat} (h:m<18446744073709551616):qV (wrap64 (m:Int))=m:=by
 unfold qV wrap64
 omega
theorem Li {s:Bytes} (h:s.length=10):(iy ⟨s,0⟩ 2).1=gu (s.take 2)∧(FT (iy ⟨s,0⟩ 2).2).1=wrap64 (gu (s.drop 2):Int)∧gB (gu (s.take 2)) (wrap64 (gu (s.drop 2):Int))=s:=by
 have e1:iw ⟨s,0⟩ (2:Nat)=(s.take 2,⟨s.drop 2,0⟩):=by
  unfold iw
  rw [if_neg (fun q=>q rfl),if_neg (by omega),if_neg (by simp only;omega)]
  rfl
 have e2:iw ⟨s.drop 2,0⟩ (8:Nat)=(s.drop 2,⟨[],0⟩):=by
  unfold iw
  rw [if_neg (fun q=>q rfl),if_neg (by omega),if_neg (by simp only [List.length_drop];omega)]
  have h2:(s.drop 2).length=8:=by rw [List.length_drop];omega
  show ((s.drop 2).take 8,(⟨(s.drop 2).drop 8,0⟩:jm))=_
  have a1:(s.drop 2).take 8=s.drop 2:=List.take_of_length_le (by omega)
  have a2:(s.drop 2).drop 8=[]:=List.drop_of_length_le (by omega)
  rw [a1,a2]
 have h2:(s.drop 2).length=8:=by rw [List.length_drop];omega
 have h3:(s.take 2).length=2:=by rw [List.length_take];omega
 have l1:=ug (s.drop 2)
 rw [h2] at l1
 refine⟨?_,?_,?_⟩
 ·unfold iy
  rw [e1]
 ·unfold FT iy
  rw [e1]
  dsimp only
  rw [e2]
 ·have b1:=Aw (s.take 2)
  have b2:=Aw (s.drop 2)
  rw [h3] at b1
  rw [h2] at b2
  unfold gB
  rw [I7 (by omega),b1,b2,List.take_append_drop]
def jF (w:World) (s:Bytes):Ending→World→Prop:=fun e w'=>e=.returned (.tuple #[.agg #[.int .i64 (((wP s).getD (0,0)).1:Nat),.int .i64 ((wP s).getD (0,0)).2],.int .i64 (if (wP s).isSome then 0 else 6)])∧Only (fun _=>False) w w'
theorem Lj (w:World) (s:Bytes) (hs:s.length≤1073741824):Calls Tryz.prog 12 #[str s] w (jF w s):=by
 have o1:=(Only.refl (fun _=>False) w).alloc (.cells #[.int .i64 0,.int .i64 0] 23)
 have t1:=dw w (.cells #[.int .i64 0,.int .i64 0] 23)
 have HF:=Lib.hid (uh s (w.alloc (.cells #[.int .i64 0,.int .i64 0] 23)))
 have hn:=Bj ⟨s,0⟩ 2
 have KU:(s.length=10→(iy ⟨s,0⟩ 2).1=gu (s.take 2)∧(FT (iy ⟨s,0⟩ 2).2).1=wrap64 (gu (s.drop 2):Int)∧gB (gu (s.take 2)) (wrap64 (gu (s.drop 2):Int))=s):=Li
 have hl2:(iy ⟨s,0⟩ 2).2.rest.length≤1073741824:=Nat.le_trans (wm ⟨s,0⟩ 2) hs
 generalize hx1:iy ⟨s,0⟩ 2=x1 at *
 obtain⟨n,g1⟩:=x1
 dsimp only at *
 generalize hx2:FT g1=x2 at *
 obtain⟨q,g2⟩:=x2
 dsimp only at *
 go_enter Tryz.func12,Tryz.ntmps12
 go_wp2_with fail
 generalize hW1:w.alloc (.cells #[.int .i64 0,.int .i64 0] 23)=W1 at *
 generalize hT:w.heap.size=t at *
 (with_reducible refine HF.out.mono ?_)
 rintro e w2 ⟨rfl,hg2,o2⟩
 have HH:=Lib.hid (qo _ _ w2 hg2 (by show s.length≤_;omega))
 rw [hx1] at HH
 have ht2:=dR t1 o2 id
 have O2:=o1.trans o2 (fun _ _ q=>q)
 have hgl:=lt_of_cell hg2.c0
 have htl:=jU t1
 have HT2:=Lib.hid (And.intro ht2 (And.intro O2 (And.intro hgl htl)))
 clear hg2 ht2 O2 HF o1 t1 o2
 go_wp2_with fail
 (with_reducible refine HH.out.mono ?_)
 rintro e w3 ⟨rfl,hg3⟩
 have oA:=(Only.refl (fun _=>False) w3).alloc (.cells #[.int .i64 n,.int .i64 0] 23)
 have bA:=dw w3 (.cells #[.int .i64 n,.int .i64 0] 23)
 have ht3:=dR HT2.out.1 hg3.2 (by have:=HT2.out.2.2.2;omega)
 have O3:Only (fun _=>False) w w3:=(Only.trans (HT2.out.2.1.mono (T:=fun k=>k=W1.heap.size) (fun _ _ (q:False)=>q.elim)) hg3.2 (fun _ _ q=>q)).mono (fun k hk q=>by have q:k=W1.heap.size:=q;have:=HT2.out.2.2.2;omega)
 have hs3:=hg3.2.size
 have HI:=Lib.hid (NP _ _ _ (hg3.1.only oA id) (by show g1.rest.length≤_;omega))
 rw [hx2] at HI
 have Wv:=dR ht3 oA id
 have H4:=Lib.hid (And.intro Wv (And.intro (O3.trans oA (fun _ _ q=>q)) (And.intro bA (And.intro HT2.out.2.2.1 (And.intro HT2.out.2.2.2 hs3)))))
 clear hg3 oA bA ht3 O3 hs3 Wv HH HT2
 go_wp2_with fail
 generalize w3.alloc (.cells #[.int .i64 n,.int .i64 0] 23)=W3 at *
 generalize w3.heap.size=r at *
 generalize hP:W1.heap.size=p at *
 (with_reducible refine HI.out.mono ?_)
 rintro e w4 ⟨rfl,hg4⟩
 obtain⟨h1,h2,h3,h4,h5,h6⟩:=H4.out
 have y1:=dR h1 hg4.2 (by omega)
 have y3:=dR h3 hg4.2 (by omega)
 have O4:Only (fun _=>False) w w4:=(Only.trans (h2.mono (T:=fun k=>k=p) (fun _ _ (q:False)=>q.elim)) hg4.2 (fun _ _ q=>q)).mono (fun k hk q=>by have q:k=p:=q;omega)
 have f1:=aC y3 1
 have c1:=aj y3 1
 simp only [List.getElem?_toArray,List.getElem?_cons_zero,List.getElem?_cons_succ] at c1
 have z3:=ou y3 1 (.int .i64 q)
 have oS:Only (fun k=>k=r) w4 (w4.setCell ⟨r,1,none⟩ (.int .i64 q)):=(Only.refl (fun k=>k=r) w4).put r 1 rfl _
 have z1:=dR y1 oS (by omega)
 have O5:Only (fun _=>False) w (w4.setCell ⟨r,1,none⟩ (.int .i64 q)):=(Only.trans (O4.mono (T:=fun k=>k=r) (fun _ _ (q:False)=>q.elim)) oS (fun _ _ q=>q)).mono (fun k hk z=>by have z:k=r:=z;omega)
 have HL:=Lib.hid (Ci (w4.setCell ⟨r,1,none⟩ (.int .i64 q)) n (by omega) q)
 have H5:=Lib.hid (And.intro z1 (And.intro O5 z3))
 have d0:=aj z3 0
 have d1:=aj z3 1
 simp only [List.setIfInBounds_toArray,List.set_cons_succ,List.set_cons_zero,List.getElem?_toArray,List.getElem?_cons_zero,List.getElem?_cons_succ] at d0 d1
 clear hg4 h1 h2 h3 y1 y3 O4 z3 oS z1 O5 HI H4
 go_wp2_with fail
 generalize w4.setCell ⟨r,1,none⟩ (.int .i64 q)=W4 at *
 (with_reducible refine HL.out.mono ?_)
 rintro e w5 ⟨rfl,o5⟩
 obtain⟨z1,O5,z3⟩:=H5.out
 have x1:=dR z1 o5 id
 have x3:=dR z3 o5 id
 have HO:=Lib.hid (O5.trans o5 (fun _ _ q=>q))
 have k0:=aj x1 0
 have k1:=aj x1 1
 have j0:=aC x1 0
 have j1:=aC x1 1
 have l0:=aj x3 0
 have l1:=aj x3 1
 simp only [List.setIfInBounds_toArray,List.set_cons_succ,List.set_cons_zero,List.getElem?_toArray,List.getElem?_cons_zero,List.getElem?_cons_succ] at k0 k1 l0 l1
 have fin:∀a b:Int,∀W,W=((w5.setCell ⟨t,0,none⟩ (.int .i64 a)).setCell ⟨t,1,none⟩ (.int .i64 b))→W.heap[t]? = some (.cells #[.int .i64 a,.int .i64 b] 23 (0,0))∧Only (fun _=>False) w W:=fun a b W hW=>by
  subst hW
  have bt:=ou (ou x1 0 (.int .i64 a)) 1 (.int .i64 b)
  have ot:Only (fun k=>k=t) w5 ((w5.setCell ⟨t,0,none⟩ (.int .i64 a)).setCell ⟨t,1,none⟩ (.int .i64 b)):=((Only.refl (fun k=>k=t) w5).put t 0 rfl _).put t 1 rfl _
  exact⟨bt,(Only.trans (HO.out.mono (T:=fun k=>k=t) (fun _ _ (q:False)=>q.elim)) ot (fun _ _ q=>q)).mono (fun i hi q=>by have q:i=t:=q;omega)⟩
 have pW:=Lib.hid fin
 clear fin x1 x3 z1 O5 z3 o5 HL H5 d0 d1 f1 c1
 have key:(wP s=some (n,q)∧gB n q=s∧0≤q∧(n=0∨2≤n∧n<4000))∨(wP s=none∧(gB n q≠s∨q<0∨(n≠0∧(n<2∨4000≤n)))):=by
  by_cases h10:s.length=10
  ·obtain⟨e1,e2,e3⟩:=KU h10
   unfold wP
   rw [←e1,←e2] at *
   by_cases hc:0≤q∧(n=0∨2≤n∧n<4000)
   ·exact .inl ⟨if_pos ⟨h10,hc.1,hc.2⟩,e3,hc⟩
   ·refine .inr ⟨if_neg (fun z=>hc z.2),.inr ?_⟩
    omega
  ·refine .inr ⟨if_neg (fun z=>h10 z.1),.inl fun z=>h10 ?_⟩
   rw [←z]
   exact qU n q
 have HKEY:=Lib.hid key
 clear key KU hx1 hx2
 rcases HKEY.out with ⟨hr,he,hq,hn0⟩ |⟨hr,hc⟩
 ·have HR:=Lib.hid hr
  have e1:(gB n q == s)=true:=by simp [he]
  have e2:(gB n q != s)=false:=by simp [he]
  have e3:decide (q<0)=false:=decide_eq_false (by omega)
  clear hr he
  rcases hn0 with rfl |⟨n1,n2⟩
  ·go_wp2_with fail
   obtain⟨bt,ot⟩:=pW.out 0 q _ rfl
   have g0:=aj bt 0
   have g1:=aj bt 1
   refine bodyPost_ret (v:=.tuple #[.agg #[.int .i64 0,.int .i64 q],.int .i64 0]) (by simp [results,Tryz.results12,go_sem,g0,g1]) rfl ?_
   unfold jF
   rw [HR.out]
   exact⟨rfl,ot⟩
  ·have e4:((n:Int) == 0)=false:=by simp;omega
   have e5:((n:Int) != 0)=true:=by simp;omega
   have e6:decide ((n:Int)<2)=false:=decide_eq_false (by omega)
   have e7:decide ((n:Int)≥4000)=false:=decide_eq_false (by omega)
   have e8:decide (4000≤(n:Int))=false:=decide_eq_false (by omega)
   go_wp2_with fail
   obtain⟨bt,ot⟩:=pW.out (n:Int) q _ rfl
   have g0:=aj bt 0
   have g1:=aj bt 1
   refine bodyPost_ret (v:=.tuple #[.agg #[.int .i64 n,.int .i64 q],.int .i64 0]) (by simp [results,Tryz.results12,go_sem,g0,g1]) rfl ?_
   unfold jF
   rw [HR.out]
   exact⟨rfl,ot⟩
 ·have HR:=Lib.hid hr
  clear hr
  by_cases he:gB n q=s
  ·have e1:(gB n q == s)=true:=by simp [he]
   have e2:(gB n q != s)=false:=by simp [he]
   by_cases hq:q<0
   ·have e3:decide (q<0)=true:=decide_eq_true hq
    clear he hc
    go_wp2_with fail
    obtain⟨bt,ot⟩:=pW.out 0 0 _ rfl
    have g0:=aj bt 0
    have g1:=aj bt 1
    refine bodyPost_ret (v:=.tuple #[.agg #[.int .i64 0,.int .i64 0],.int .i64 6]) (by simp [results,Tryz.results12,go_sem,g0,g1]) rfl ?_
    unfold jF
    rw [HR.out]
    exact⟨rfl,ot⟩
   ·have e3:decide (q<0)=false:=decide_eq_false hq
    have hcc:n≠0∧(n<2∨4000≤n):=(hc.resolve_left (fun z=>z he)).resolve_left hq
    have e4:((n:Int) == 0)=false:=by simp;omega
    have e5:((n:Int) != 0)=true:=by simp;omega
    clear he hc
    by_cases h2:n<2
    ·have e6:decide ((n:Int)<2)=true:=decide_eq_true (by omega)
     clear hcc h2
     go_wp2_with fail
     obtain⟨bt,ot⟩:=pW.out 0 0 _ rfl
     have g0:=aj bt 0
     have g1:=aj bt 1
     refine bodyPost_ret (v:=.tuple #[.agg #[.int .i64 0,.int .i64 0],.int .i64 6]) (by simp [results,Tryz.results12,go_sem,g0,g1]) rfl ?_
     unfold jF
     rw [HR.out]
     exact⟨rfl,ot⟩
    ·have e6:decide ((n:Int)<2)=false:=decide_eq_false (by omega)
     have e7:decide ((n:Int)≥4000)=true:=decide_eq_true (by omega)
     have e8:decide (4000≤(n:Int))=true:=decide_eq_true (by omega)
     clear hcc h2
     go_wp2_with fail
     obtain⟨bt,ot⟩:=pW.out 0 0 _ rfl
     have g0:=aj bt 0
     have g1:=aj bt 1
     refine bodyPost_ret (v:=.tuple #[.agg #[.int .i64 0,.int .i64 0],.int .i64 6]) (by simp [results,Tryz.results12,go_sem,g0,g1]) rfl ?_
     unfold jF
     rw [HR.out]
     exact⟨rfl,ot⟩
  ·have e1:(gB n q == s)=false:=by simpa using he
   have e2:(gB n q != s)=true:=by simpa using he
   clear he hc
   go_wp2_with fail
   obtain⟨bt,ot⟩:=pW.out 0 0 _ rfl
   have g0:=aj bt 0
   have g1:=aj bt 1
   refine bodyPost_ret (v:=.tuple #[.agg #[.int .i64 0,.int .i64 0],.int .i64 6]) (by simp [results,Tryz.results12,go_sem,g0,g1]) rfl ?_
   unfold jF
   rw [HR.out]
   exact⟨rfl,ot⟩
end
section
open Go.RowKit Go.MuLone
theorem vo (w:World) (n:Nat) (hn:n≤100000):Calls Tryz.prog 160 #[.int .i64 n] w fun e w'=>e=.returned (.int .i64 (bW n:Nat))∧w=w':=by
 have h0:decide ((n:Int)<0)=false:=decide_eq_false (by omega)
 unfold bW
 by_cases hz:n=0
 ·subst hz
  rw [if_pos rfl]
  go_enter Tryz.func160,Tryz.ntmps160
  go_wp2_with fail
  go_ret
  exact⟨rfl,rfl⟩
 ·rw [if_neg hz]
  have h1:((n:Int) == 0)=false:=by simp;omega
  have hw1:IntKind.i64.wrap ((n:Int)-1)=(n:Int)-1:=by exact IntWalk.i64_in _ (by omega)
  have hq:Int.tdiv ((n:Int)-1) 232=(((n-1) / 232:Nat):Int):=by
   have:(n:Int)-1=((n-1:Nat):Int):=by omega
   rw [this]
   rfl
  have hw2:IntKind.i64.wrap (((n-1) / 232:Nat):Int)=(((n-1) / 232:Nat):Int):=by exact IntWalk.i64_in _ (by omega)
  have hw3:IntKind.i64.wrap ((((n-1) / 232:Nat):Int)+1)=(((n-1) / 232:Nat):Int)+1:=by exact IntWalk.i64_in _ (by omega)
  go_enter Tryz.func160,Tryz.ntmps160
  go_wp2_with fail
  go_ret
  exact⟨rfl,rfl⟩
theorem wQ (first n:Nat):(gD first n).length=4:=by simp [gD,bf]
theorem Ed (w:World) (first n:Nat) (hf:2≤first∧first<4000) (hn:n≤2000):Calls Tryz.prog 149 #[.int .i64 first,.int .i64 n] w fun e w'=>e=.returned (.tuple #[str (gD first n),.int .i64 0])∧Only (fun _=>False) w w':=by
 have e1:eB ⟨[],0⟩ (first:Int) 2=⟨bO first 2,0⟩:=by unfold eB;rw [if_neg (by simp),if_neg (by omega)];simp
 have e2:eB ⟨bO first 2,0⟩ (n:Int) 2=⟨gD first n,0⟩:=by unfold eB;rw [if_neg (by simp),if_neg (by omega)];simp [gD]
 have q1:decide ((first:Int)<2)=false:=decide_eq_false (by omega)
 have q2:decide ((first:Int)≥4000)=false:=decide_eq_false (by omega)
 have q2':decide (4000≤(first:Int))=false:=decide_eq_false (by omega)
 have q3:decide ((n:Int)<0)=false:=decide_eq_false (by omega)
 have q4:decide ((n:Int) > 2000)=false:=decide_eq_false (by omega)
 have YC:decide (2000<(n:Int))=false:=decide_eq_false (by omega)
 have HH:Hid (∀W,bN (fun _=>False) w W w.heap.size ⟨[],0⟩→Calls Tryz.prog 48 #[.pointer (some ⟨w.heap.size,0,none⟩),.int .i64 first] W fun e w'=>e=.returned (.pointer (some ⟨w.heap.size,0,none⟩))∧bN (fun _=>False) w w' w.heap.size ⟨bO first 2,0⟩):=Lib.hid (fun W h=>by
  have:=ql _ w W _ _ (first:Int) (by omega) h (by simp)
  rwa [e1] at this)
 have HI:Hid (∀W,bN (fun _=>False) w W w.heap.size ⟨bO first 2,0⟩→Calls Tryz.prog 48 #[.pointer (some ⟨w.heap.size,0,none⟩),.int .i64 n] W fun e w'=>e=.returned (.pointer (some ⟨w.heap.size,0,none⟩))∧bN (fun _=>False) w w' w.heap.size ⟨gD first n,0⟩):=Lib.hid (fun W h=>by
  have:=ql _ w W _ _ (n:Int) (by omega) h (by simp [bf])
  rwa [e2] at this)
 have HE:Hid (∀W,bN (fun _=>False) w W w.heap.size ⟨gD first n,0⟩→Calls Tryz.prog 50 #[.pointer (some ⟨w.heap.size,0,none⟩)] W fun e w'=>e=.returned (.tuple #[str (gD first n),.int .i64 0])∧Only (fun _=>False) W w'):=Lib.hid (fun W h=>xw _ w W _ _ h)
 have p0:bN (fun _=>False) w (w.alloc (.cells #[.slice none 0 0,.int .i64 0] 102)) w.heap.size ⟨[],0⟩:=rT w 102
 have HP:=Lib.hid p0
 clear e1 e2 p0
 go_enter Tryz.func149,Tryz.ntmps149
 go_wp2_with fail
 have p0:=HP.out
 generalize (w.alloc (.cells #[.slice none 0 0,.int .i64 0] 102))=W0 at *
 (with_reducible refine(HH.out W0 p0).mono ?_)
 rintro _ w3 ⟨rfl,p3⟩
 go_wp2_with fail
 (with_reducible refine(HI.out w3 p3).mono ?_)
 rintro _ w4 ⟨rfl,p4⟩
 have k4:=p4.choose_spec.since
 go_wp2_with fail
 (with_reducible refine(HE.out w4 p4).mono ?_)
 rintro _ w5 ⟨rfl,o5⟩
 go_wp2_with fail
 go_ret2
 exact⟨rfl,Only.trans k4 o5 (fun _ _ q=>q)⟩
theorem Ll {first n:Nat} (hf:first<65536) (hn:n<65536):(iy ⟨gD first n,0⟩ 2)=(first,⟨bO n 2,0⟩)∧(iy ⟨bO n 2,0⟩ 2)=(n,⟨[],0⟩):=by
 have e1:iw ⟨gD first n,0⟩ (2:Nat)=(bO first 2,⟨bO n 2,0⟩):=by
  unfold iw
  have hl:=wQ first n
  rw [if_neg (fun q=>q rfl),if_neg (by omega),if_neg (by simp only;omega)]
  show ((gD first n).take 2,(⟨(gD first n).drop 2,0⟩:jm))=_
  unfold gD
  rw [List.take_left' (bf _ _),List.drop_left' (bf _ _)]
 have e2:iw ⟨bO n 2,0⟩ (2:Nat)=(bO n 2,⟨[],0⟩):=by
  unfold iw
  have hl:=bf n 2
  rw [if_neg (fun q=>q rfl),if_neg (by omega),if_neg (by simp only;omega)]
  show ((bO n 2).take 2,(⟨(bO n 2).drop 2,0⟩:jm))=_
  rw [List.take_of_length_le (by omega),List.drop_of_length_le (by omega)]
 constructor
 ·unfold iy
  rw [e1,jc hf]
 ·unfold iy
  rw [e2,jc hn]
theorem yh (w:World) (first n:Nat) (hf:2≤first∧first<4000) (hn:n≤2000):Calls Tryz.prog 159 #[str (gD first n)] w fun e w'=>e=.returned (.tuple #[.int .i64 first,.int .i64 n,.int .i64 0])∧Only (fun _=>False) w w':=by
 obtain⟨x1,x2⟩:=Ll (first:=first) (n:=n) (by omega) (by omega)
 have HF:=Lib.hid (uh (gD first n) w)
 have HR:=Lib.hid (fun W=>Ed W first n hf hn)
 have HH:=Lib.hid (fun g W q=>qo g ⟨gD first n,0⟩ W q (by show (gD first n).length≤_;rw [wQ];omega))
 have HI:=Lib.hid (fun g W q=>qo g ⟨bO n 2,0⟩ W q (by show (bO n 2).length≤_;rw [bf];omega))
 rw [x1] at HH
 rw [x2] at HI
 clear x1 x2
 go_enter Tryz.func159,Tryz.ntmps159
 go_wp2_with fail
 (with_reducible refine HF.out.mono ?_)
 rintro e w2 ⟨rfl,hg2,o2⟩
 go_wp2_with fail
 (with_reducible refine(HH.out _ _ hg2).mono ?_)
 rintro e w3 ⟨rfl,hg3,o3⟩
 go_wp2_with fail
 (with_reducible refine(HI.out _ _ hg3).mono ?_)
 rintro e w4 ⟨rfl,hg4,o4⟩
 go_wp2_with fail
 (with_reducible refine(HR.out w4).mono ?_)
 rintro e w5 ⟨rfl,o5⟩
 go_wp2_with fail
 go_ret3
 have O3:=Only.trans (o2.mono (T:=fun k=>k=w.heap.size) (fun _ _ (q:False)=>q.elim)) o3 (fun _ _ q=>q)
 have O4:=Only.trans O3 o4 (fun _ _ q=>q)
 exact⟨rfl,Only.trans (O4.mono (T:=fun _=>False) (fun k hk q=>by have q:k=w.heap.size:=q;omega)) o5 (fun _ _ q=>q)⟩
end
end Go.Proofs.YtbhiamcmiopnoaaGreatDoor
