/- Package bucket over the law's pages: a key is deleted from a bucket, its value's pages are given back. Conditions: one goroutine; the pages hold the tree; there is room. -/
import Derived.Test.YtbhiamcmiopnoaaGreatDoorZBuD
set_option maxHeartbeats 4000000
set_option maxRecDepth 100000
namespace Go.Proofs.YtbhiamcmiopnoaaGreatDoor
section
open Go.RowKit Go.MuLone
theorem MW (w:World) (b:Nat) (S S2:aW) (root r seq:Int) (l:List Item) (ids:List Int) (key:Bytes) (wX:Bool) (m:Nat) (x:Item) (h:aA w b S) (hkl:key.length≤1000000) (hwd:cu key=true) (R:bq S.L root l ids) (hs:S.stop<0) (hm:l.length<2 ^ m) (hm2:m≤11) (hL:S.L.length+4+2 * m≤3998) (hg:S.given.length+100<1000000)
 (hx:aS l key=some x) (hok:sD S.L x) (hk2:x.kind≠2) (gP:(aX x).length≤9) (hk:jk (fq S (aX x)) root key=(.ok (r,wX),S2)) :
 Calls Tryz.prog 88 #[aF b,aY root seq,str key] w fun e w'=>e=.returned (.tuple #[aY r seq,.int .i64 0])∧aA w' b S2∧aB b w w':=by
 obtain⟨g1,g2,g3,g4,g5⟩:=iL S (aX x)
 have qw:l.length<2 ^ 11:=Nat.lt_of_lt_of_le hm (Nat.pow_le_pow_right (by omega) hm2)
 have o1:=(Only.refl (fun _=>False) w).alloc (.cells #[.int .i64 root,.int .i64 seq] 23)
 have h1:=h.still o1
 have A1:=bG.new h (.cells #[.int .i64 root,.int .i64 seq] 23)
 have hs1:(w.alloc (.cells #[.int .i64 root,.int .i64 seq] 23)).heap.size=w.heap.size+1:=Array.size_push _
 generalize hW1:w.alloc (.cells #[.int .i64 root,.int .i64 seq] 23)=W1 at *
 have o2:=(Only.refl (fun _=>False) W1).alloc (.cells #[.int .i64 0,.int .i64 0] 23)
 have h2:=h1.still o2
 have A2:=bG.new h1 (.cells #[.int .i64 0,.int .i64 0] 23)
 rw [hs1] at A2
 have B1:=A1.still h1 o2
 have st2:=aB.still h.lt (Only.trans o1 o2 (fun _ _ q=>q))
 have HI:=Lib.hid (ji _ b S root seq l ids key h2 R hs qw hkl hwd)
 unfold gH at HI
 rw [hx] at HI
 have HD:=Lib.hid (fun W hp=>CX W b S x hp hok (by omega))
 have HC:=Lib.hid (fun W hp=>Gn W b (fq S (aX x)) S2 root r seq l ids key wX m hp (by rw [g2];exact R) (by rw [g5];exact hs) hm hm2 (by rw [g2];exact hL) (by rw [g1,List.length_append];omega) hk)
 have HS:=Lib.hid (And.intro B1 (And.intro A2 st2))
 have hlt:=h.lt
 have a0:=aj B1.at_ 0
 have a1:=aj B1.at_ 1
 simp only [List.getElem?_toArray,List.getElem?_cons_zero,List.getElem?_cons_succ] at a0 a1
 clear o1 o2 h1 h2 A1 A2 B1 st2 h R hk hok g1 g2 g3 g4 g5 hx
 subst hW1
 clear hs1
 unfold iG iA aJ at HI
 unfold aF at HI HD HC ⊢
 unfold aY at HI HC ⊢
 go_enter Tryz.func88,Tryz.ntmps88
 go_wp2_with fail
 generalize ((w.alloc (.cells #[.int .i64 root,.int .i64 seq] 23)).alloc (.cells #[.int .i64 0,.int .i64 0] 23))=W at *
 (with_reducible refine HI.out.mono ?_)
 rintro e w2 ⟨rfl,hp2,st2⟩
 obtain⟨B1,B2,st0⟩:=HS.out
 have A3:=bG.new hp2 (.cells #[str x.key,str x.val,.int .i64 x.kind] 131)
 have o3:=(Only.refl (fun _=>False) w2).alloc (.cells #[str x.key,str x.val,.int .i64 x.kind] 131)
 have C1:=(B1.step st2).still hp2 o3
 have C2:=(B2.step st2).still hp2 o3
 have HT:=Lib.hid (And.intro C1 (And.intro C2 (And.intro ((st0.trans st2).trans (aB.still hp2.lt o3)) (hp2.still o3))))
 have c0:=aj A3.at_ 0
 have c1:=aj A3.at_ 1
 have c2:=aj A3.at_ 2
 simp only [List.getElem?_toArray,List.getElem?_cons_zero,List.getElem?_cons_succ] at c0 c1 c2
 have hk3:(x.kind == 2)=false:=by simpa using hk2
 clear B1 B2 st0 A3 o3 C1 C2 hp2 st2 HS HI a0 a1
 go_wp2_with fail
 generalize (w2.alloc (.cells #[str x.key,str x.val,.int .i64 x.kind] 131))=W3 at *
 (with_reducible refine(HD.out W3 HT.out.2.2.2).mono ?_)
 rintro e w4 ⟨rfl,iD,fP⟩
 obtain⟨B1,B2,st0,_⟩:=HT.out
 have C1:=B1.step fP
 have C2:=B2.step fP
 have d0:=aj C1.at_ 0
 have d1:=aj C1.at_ 1
 simp only [List.getElem?_toArray,List.getElem?_cons_zero,List.getElem?_cons_succ] at d0 d1
 have HU:=Lib.hid (And.intro C2 (And.intro (st0.trans fP) iD))
 clear B1 B2 st0 C1 C2 iD fP HT HD c0 c1 c2
 go_wp2_with fail
 (with_reducible refine(HC.out w4 HU.out.2.2).mono ?_)
 rintro e w6 ⟨rfl,mM,xA⟩
 obtain⟨C2,sQ,_⟩:=HU.out
 have D2:=C2.step xA
 have x0:=aj D2.at_ 0
 have x1:=aj D2.at_ 1
 have y0:=aC D2.at_ 0
 have y1:=aC D2.at_ 1
 simp only [List.getElem?_toArray,List.getElem?_cons_zero,List.getElem?_cons_succ] at x0 x1
 have HF:=Lib.hid (eu mM (sQ.trans xA) D2 (by omega) hlt (.int .i64 r) (.int .i64 seq))
 clear C2 sQ D2 mM xA HU HC d0 d1
 go_wp2_with fail
 obtain⟨g1,g2,g3⟩:=HF.out
 have x0:=aj g3 0
 have x1:=aj g3 1
 simp only [List.getElem?_toArray,List.getElem?_cons_zero,List.getElem?_cons_succ] at x0 x1
 exact bodyPost_ret (v:=.tuple #[.agg #[.int .i64 r,.int .i64 seq],.int .i64 0]) (by simp [results,Tryz.results88,go_sem,x0,x1]) rfl ⟨rfl,g1,g2⟩
end
section
open Go.RowKit Go.MuLone
theorem J6 (w:World) (b:Nat) (S:aW) (root seq:Int) (key v:Bytes) (h:aA w b S) (hkl:key.length≤1000000) (hb:cu key=false∨2000<v.length) :
 Calls Tryz.prog 26 #[aF b,aY root seq,str key,str v] w fun e w'=>e=.returned (.tuple #[aY 0 0,.int .i64 (if cu key=false then 1 else 2)])∧aA w' b S∧aB b w w':=by
 have hnil:=jX b
 have hml:maxLen=9223372036854775807:=by decide
 have HW:=Lib.hid (fun W=>oq W key (by omega))
 have oF:=(Only.trans ((Only.refl (fun _=>False) w).alloc (.cells #[.int .i64 root,.int .i64 seq] 23)) ((Only.refl (fun _=>False) _).alloc (.cells #[.int .i64 0,.int .i64 0] 23)) (fun _ _ q=>q))
 have h1:=h.still ((Only.refl (fun _=>False) w).alloc (.cells #[.int .i64 root,.int .i64 seq] 23))
 have hs1:(w.alloc (.cells #[.int .i64 root,.int .i64 seq] 23)).heap.size=w.heap.size+1:=Array.size_push _
 have A2:=bG.new h1 (.cells #[.int .i64 0,.int .i64 0] 23)
 rw [hs1] at A2
 have HF:=Lib.hid (eu (h.still oF) (aB.still h.lt oF) A2 (by omega) h.lt (.int .i64 0) (.int .i64 0))
 have c0:=aj A2.at_ 0
 have c1:=aj A2.at_ 1
 have y0:=aC A2.at_ 0
 have y1:=aC A2.at_ 1
 simp only [List.getElem?_toArray,List.getElem?_cons_zero,List.getElem?_cons_succ] at c0 c1
 clear oF h1 A2 h hml hs1
 unfold aF at hnil ⊢
 unfold aY
 cases hw:cu key with
 | false=>
  rw [hw] at HW
  rw [if_pos rfl]
  clear hb
  go_enter Tryz.func26,Tryz.ntmps26
  go_wp2_with fail
  generalize ((w.alloc (.cells #[.int .i64 root,.int .i64 seq] 23)).alloc (.cells #[.int .i64 0,.int .i64 0] 23))=W at *
  (with_reducible refine(HW.out W).mono ?_)
  rintro e _ ⟨rfl,rfl⟩
  go_wp2_with fail
  obtain⟨g1,g2,g3⟩:=HF.out
  have x0:=aj g3 0
  have x1:=aj g3 1
  simp only [List.getElem?_toArray,List.getElem?_cons_zero,List.getElem?_cons_succ] at x0 x1
  exact bodyPost_ret (v:=.tuple #[.agg #[.int .i64 0,.int .i64 0],.int .i64 1]) (by simp [results,Tryz.results26,go_sem,x0,x1]) rfl ⟨rfl,g1,g2⟩
 | true=>
  rw [hw] at HW hb
  rw [if_neg (by simp)]
  have hv:2000<v.length:=hb.resolve_left (by simp)
  have q1:decide ((v.length:Int) > 2000)=true:=decide_eq_true (by omega)
  clear hb
  go_enter Tryz.func26,Tryz.ntmps26
  go_wp2_with fail
  generalize ((w.alloc (.cells #[.int .i64 root,.int .i64 seq] 23)).alloc (.cells #[.int .i64 0,.int .i64 0] 23))=W at *
  (with_reducible refine(HW.out W).mono ?_)
  rintro e _ ⟨rfl,rfl⟩
  go_wp2_with fail
  obtain⟨g1,g2,g3⟩:=HF.out
  have x0:=aj g3 0
  have x1:=aj g3 1
  simp only [List.getElem?_toArray,List.getElem?_cons_zero,List.getElem?_cons_succ] at x0 x1
  exact bodyPost_ret (v:=.tuple #[.agg #[.int .i64 0,.int .i64 0],.int .i64 2]) (by simp [results,Tryz.results26,go_sem,x0,x1]) rfl ⟨rfl,g1,g2⟩
theorem Ii (w:World) (b:Nat) (S:aW) (root seq:Int) (l:List Item) (ids:List Int) (key v:Bytes) (x:Item) (h:aA w b S) (hkl:key.length≤1000000) (hwd:cu key=true) (hv:v.length≤2000) (R:bq S.L root l ids) (hs:S.stop<0) (qw:l.length<2 ^ 11) (hx:aS l key=some x) (hx2:x.kind=2) :
 Calls Tryz.prog 26 #[aF b,aY root seq,str key,str v] w fun e w'=>e=.returned (.tuple #[aY 0 0,.int .i64 21])∧aA w' b S∧aB b w w':=by
 obtain⟨xk,xv,xd⟩:=x
 have hx2:xd=2:=hx2
 subst hx2
 have hnil:=jX b
 have hml:maxLen=9223372036854775807:=by decide
 have q1:decide ((v.length:Int) > 2000)=false:=decide_eq_false (by omega)
 have HW:=Lib.hid (fun W=>oq W key (by omega))
 rw [hwd] at HW
 have o1:=(Only.refl (fun _=>False) w).alloc (.cells #[.int .i64 root,.int .i64 seq] 23)
 have h1:=h.still o1
 have A1:=bG.new h (.cells #[.int .i64 root,.int .i64 seq] 23)
 have hs1:(w.alloc (.cells #[.int .i64 root,.int .i64 seq] 23)).heap.size=w.heap.size+1:=Array.size_push _
 generalize hW1:w.alloc (.cells #[.int .i64 root,.int .i64 seq] 23)=W1 at *
 have o2:=(Only.refl (fun _=>False) W1).alloc (.cells #[.int .i64 0,.int .i64 0] 23)
 have h2:=h1.still o2
 have A2:=bG.new h1 (.cells #[.int .i64 0,.int .i64 0] 23)
 rw [hs1] at A2
 have B1:=A1.still h1 o2
 have st2:=aB.still h.lt (Only.trans o1 o2 (fun _ _ q=>q))
 have HI:=Lib.hid (Bo _ b S root l ids key h2 R hs qw)
 unfold gH at HI
 rw [hx] at HI
 have HS:=Lib.hid (And.intro A2 st2)
 have hlt:=h.lt
 have a0:=aj B1.at_ 0
 simp only [List.getElem?_toArray,List.getElem?_cons_zero] at a0
 clear o1 o2 h1 h2 A1 A2 B1 st2 h R hx
 subst hW1
 clear hs1 hml
 unfold iG iA aJ at HI
 unfold aF at HI hnil ⊢
 unfold aY
 go_enter Tryz.func26,Tryz.ntmps26
 go_wp2_with fail
 generalize ((w.alloc (.cells #[.int .i64 root,.int .i64 seq] 23)).alloc (.cells #[.int .i64 0,.int .i64 0] 23))=W at *
 (with_reducible refine(HW.out W).mono ?_)
 rintro e _ ⟨rfl,rfl⟩
 go_wp2_with fail
 (with_reducible refine HI.out.mono ?_)
 rintro e w2 ⟨rfl,hp2,st2⟩
 obtain⟨B2,st0⟩:=HS.out
 have A3:=bG.new hp2 (.cells #[str xk,str xv,.int .i64 2] 131)
 have o3:=(Only.refl (fun _=>False) w2).alloc (.cells #[str xk,str xv,.int .i64 2] 131)
 have C2:=(B2.step st2).still hp2 o3
 have HF:=Lib.hid (eu (hp2.still o3) ((st0.trans st2).trans (aB.still hp2.lt o3)) C2 (by omega) hlt (.int .i64 0) (.int .i64 0))
 have c2:=aj A3.at_ 2
 have x0:=aj C2.at_ 0
 have x1:=aj C2.at_ 1
 have y0:=aC C2.at_ 0
 have y1:=aC C2.at_ 1
 simp only [List.getElem?_toArray,List.getElem?_cons_zero,List.getElem?_cons_succ] at c2 x0 x1
 clear B2 st0 A3 o3 C2 hp2 st2 HS HI HW a0
 go_wp2_with fail
 obtain⟨g1,g2,g3⟩:=HF.out
 have x0:=aj g3 0
 have x1:=aj g3 1
 simp only [List.getElem?_toArray,List.getElem?_cons_zero,List.getElem?_cons_succ] at x0 x1
 exact bodyPost_ret (v:=.tuple #[.agg #[.int .i64 0,.int .i64 0],.int .i64 21]) (by simp [results,Tryz.results26,go_sem,x0,x1]) rfl ⟨rfl,g1,g2⟩
end
section
open Go.RowKit Go.MuLone
theorem Ij (w:World) (b:Nat) (S:aW) (root seq:Int) (l:List Item) (ids:List Int) (key:Bytes) (h:aA w b S) (hkl:key.length≤1000000) (hwd:cu key=true) (R:bq S.L root l ids) (hs:S.stop<0) (qw:l.length<2 ^ 11) (hx:aS l key=none) :
 Calls Tryz.prog 88 #[aF b,aY root seq,str key] w fun e w'=>e=.returned (.tuple #[aY 0 0,.int .i64 8])∧aA w' b S∧aB b w w':=by
 have o1:=(Only.refl (fun _=>False) w).alloc (.cells #[.int .i64 root,.int .i64 seq] 23)
 have h1:=h.still o1
 have A1:=bG.new h (.cells #[.int .i64 root,.int .i64 seq] 23)
 have hs1:(w.alloc (.cells #[.int .i64 root,.int .i64 seq] 23)).heap.size=w.heap.size+1:=Array.size_push _
 generalize hW1:w.alloc (.cells #[.int .i64 root,.int .i64 seq] 23)=W1 at *
 have o2:=(Only.refl (fun _=>False) W1).alloc (.cells #[.int .i64 0,.int .i64 0] 23)
 have h2:=h1.still o2
 have A2:=bG.new h1 (.cells #[.int .i64 0,.int .i64 0] 23)
 rw [hs1] at A2
 have B1:=A1.still h1 o2
 have st2:=aB.still h.lt (Only.trans o1 o2 (fun _ _ q=>q))
 have HI:=Lib.hid (ji _ b S root seq l ids key h2 R hs qw hkl hwd)
 unfold gH at HI
 rw [hx] at HI
 have HS:=Lib.hid (And.intro A2 st2)
 have hlt:=h.lt
 have a0:=aj B1.at_ 0
 have a1:=aj B1.at_ 1
 simp only [List.getElem?_toArray,List.getElem?_cons_zero,List.getElem?_cons_succ] at a0 a1
 clear o1 o2 h1 h2 A1 A2 B1 st2 h R hx
 subst hW1
 clear hs1
 unfold iG at HI
 unfold aF at HI ⊢
 unfold aY at HI ⊢
 go_enter Tryz.func88,Tryz.ntmps88
 go_wp2_with fail
 generalize ((w.alloc (.cells #[.int .i64 root,.int .i64 seq] 23)).alloc (.cells #[.int .i64 0,.int .i64 0] 23))=W at *
 (with_reducible refine HI.out.mono ?_)
 rintro e w2 ⟨rfl,hp2,st2⟩
 obtain⟨B2,st0⟩:=HS.out
 have A3:=bG.new hp2 (.cells #[str [],str [],.int .i64 0] 131)
 have o3:=(Only.refl (fun _=>False) w2).alloc (.cells #[str [],str [],.int .i64 0] 131)
 have C2:=(B2.step st2).still hp2 o3
 have HF:=Lib.hid (eu (hp2.still o3) ((st0.trans st2).trans (aB.still hp2.lt o3)) C2 (by omega) hlt (.int .i64 0) (.int .i64 0))
 have c2:=aj A3.at_ 2
 have x0:=aj C2.at_ 0
 have x1:=aj C2.at_ 1
 have y0:=aC C2.at_ 0
 have y1:=aC C2.at_ 1
 simp only [List.getElem?_toArray,List.getElem?_cons_zero,List.getElem?_cons_succ] at c2 x0 x1
 clear B2 st0 A3 o3 C2 hp2 st2 HS HI a0 a1
 go_wp2_with fail
 obtain⟨g1,g2,g3⟩:=HF.out
 have x0:=aj g3 0
 have x1:=aj g3 1
 simp only [List.getElem?_toArray,List.getElem?_cons_zero,List.getElem?_cons_succ] at x0 x1
 exact bodyPost_ret (v:=.tuple #[.agg #[.int .i64 0,.int .i64 0],.int .i64 8]) (by simp [results,Tryz.results88,go_sem,x0,x1]) rfl ⟨rfl,g1,g2⟩
theorem Ik (w:World) (b:Nat) (S:aW) (root seq:Int) (l:List Item) (ids:List Int) (key:Bytes) (x:Item) (h:aA w b S) (hkl:key.length≤1000000) (hwd:cu key=true) (R:bq S.L root l ids) (hs:S.stop<0) (qw:l.length<2 ^ 11) (hx:aS l key=some x) (hx2:x.kind=2) :
 Calls Tryz.prog 88 #[aF b,aY root seq,str key] w fun e w'=>e=.returned (.tuple #[aY 0 0,.int .i64 21])∧aA w' b S∧aB b w w':=by
 obtain⟨xk,xv,xd⟩:=x
 have hx2:xd=2:=hx2
 subst hx2
 have o1:=(Only.refl (fun _=>False) w).alloc (.cells #[.int .i64 root,.int .i64 seq] 23)
 have h1:=h.still o1
 have A1:=bG.new h (.cells #[.int .i64 root,.int .i64 seq] 23)
 have hs1:(w.alloc (.cells #[.int .i64 root,.int .i64 seq] 23)).heap.size=w.heap.size+1:=Array.size_push _
 generalize hW1:w.alloc (.cells #[.int .i64 root,.int .i64 seq] 23)=W1 at *
 have o2:=(Only.refl (fun _=>False) W1).alloc (.cells #[.int .i64 0,.int .i64 0] 23)
 have h2:=h1.still o2
 have A2:=bG.new h1 (.cells #[.int .i64 0,.int .i64 0] 23)
 rw [hs1] at A2
 have B1:=A1.still h1 o2
 have st2:=aB.still h.lt (Only.trans o1 o2 (fun _ _ q=>q))
 have HI:=Lib.hid (ji _ b S root seq l ids key h2 R hs qw hkl hwd)
 unfold gH at HI
 rw [hx] at HI
 have HS:=Lib.hid (And.intro A2 st2)
 have hlt:=h.lt
 have a0:=aj B1.at_ 0
 have a1:=aj B1.at_ 1
 simp only [List.getElem?_toArray,List.getElem?_cons_zero,List.getElem?_cons_succ] at a0 a1
 clear o1 o2 h1 h2 A1 A2 B1 st2 h R hx
 subst hW1
 clear hs1
 unfold iG iA aJ at HI
 unfold aF at HI ⊢
 unfold aY at HI ⊢
 go_enter Tryz.func88,Tryz.ntmps88
 go_wp2_with fail
 generalize ((w.alloc (.cells #[.int .i64 root,.int .i64 seq] 23)).alloc (.cells #[.int .i64 0,.int .i64 0] 23))=W at *
 (with_reducible refine HI.out.mono ?_)
 rintro e w2 ⟨rfl,hp2,st2⟩
 obtain⟨B2,st0⟩:=HS.out
 have A3:=bG.new hp2 (.cells #[str xk,str xv,.int .i64 2] 131)
 have o3:=(Only.refl (fun _=>False) w2).alloc (.cells #[str xk,str xv,.int .i64 2] 131)
 have C2:=(B2.step st2).still hp2 o3
 have HF:=Lib.hid (eu (hp2.still o3) ((st0.trans st2).trans (aB.still hp2.lt o3)) C2 (by omega) hlt (.int .i64 0) (.int .i64 0))
 have c2:=aj A3.at_ 2
 have x0:=aj C2.at_ 0
 have x1:=aj C2.at_ 1
 have y0:=aC C2.at_ 0
 have y1:=aC C2.at_ 1
 simp only [List.getElem?_toArray,List.getElem?_cons_zero,List.getElem?_cons_succ] at c2 x0 x1
 clear B2 st0 A3 o3 C2 hp2 st2 HS HI a0 a1
 go_wp2_with fail
 obtain⟨g1,g2,g3⟩:=HF.out
 have x0:=aj g3 0
 have x1:=aj g3 1
 simp only [List.getElem?_toArray,List.getElem?_cons_zero,List.getElem?_cons_succ] at x0 x1
 exact bodyPost_ret (v:=.tuple #[.agg #[.int .i64 0,.int .i64 0],.int .i64 21]) (by simp [results,Tryz.results88,go_sem,x0,x1]) rfl ⟨rfl,g1,g2⟩
end
section
open Go.RowKit Go.MuLone
theorem CW (w:World) (b:Nat) (S:aW) (root seq:Int) (key:Bytes) (h:aA w b S) (hk:key.length≤1000000) (hw:cu key=false) :
 Calls Tryz.prog 95 #[aF b,aY root seq,str key] w fun e w'=>e=.returned (.tuple #[.agg #[str [],str [],.int .i64 0],.bool false,.int .i64 1])∧aA w' b S∧aB b w w':=by
 have hnil:=jX b
 have hml:maxLen=9223372036854775807:=by decide
 have HW:=Lib.hid (fun W=>oq W key (by omega))
 rw [hw] at HW
 have o1:=(Only.refl (fun _=>False) w).alloc (.cells #[.int .i64 root,.int .i64 seq] 23)
 have h1:=h.still o1
 have A2:=bG.new h1 (.cells #[str [],str [],.int .i64 0] 131)
 have hs1:(w.alloc (.cells #[.int .i64 root,.int .i64 seq] 23)).heap.size=w.heap.size+1:=Array.size_push _
 rw [hs1] at A2
 have o2:=Only.trans o1 ((Only.refl (fun _=>False) _).alloc (.cells #[str [],str [],.int .i64 0] 131)) (fun _ _ q=>q)
 have HF:=Lib.hid (zY (h.still o2) (aB.still h.lt o2) A2.at_ (by omega) A2.not h.lt (str []) (str []) (.int .i64 0))
 have c0:=aj A2.at_ 0
 have c1:=aj A2.at_ 1
 have c2:=aj A2.at_ 2
 have z0:=aC A2.at_ 0
 have z1:=aC A2.at_ 1
 have z2:=aC A2.at_ 2
 simp only [List.getElem?_toArray,List.getElem?_cons_zero,List.getElem?_cons_succ] at c0 c1 c2
 clear o1 o2 h1 A2 h hml hs1
 unfold aF at hnil ⊢
 unfold aY
 go_enter Tryz.func95,Tryz.ntmps95
 go_wp2_with fail
 generalize (w.alloc (.cells #[.int .i64 root,.int .i64 seq] 23)).alloc (.cells #[str [],str [],.int .i64 0] 131)=W at *
 (with_reducible refine(HW.out W).mono ?_)
 rintro e _ ⟨rfl,rfl⟩
 go_wp2_with fail
 obtain⟨f1,f2,f3⟩:=HF.out
 unfold three at f1 f2 f3
 have q0:=aj f3 0
 have q1:=aj f3 1
 have q2:=aj f3 2
 simp only [List.getElem?_toArray,List.getElem?_cons_zero,List.getElem?_cons_succ] at q0 q1 q2
 exact bodyPost_ret (v:=.tuple #[.agg #[str [],str [],.int .i64 0],.bool false,.int .i64 1]) (by simp [results,Tryz.results95,go_sem,q0,q1,q2]) rfl ⟨rfl,f1,f2⟩
end
end Go.Proofs.YtbhiamcmiopnoaaGreatDoor
