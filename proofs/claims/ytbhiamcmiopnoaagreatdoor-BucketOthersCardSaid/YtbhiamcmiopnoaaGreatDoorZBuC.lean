/- Package bucket over the law's pages: the item of a key. Conditions: one goroutine; the pages hold the tree. -/
import Derived.Test.YtbhiamcmiopnoaaGreatDoorZBuA
import Derived.Test.YtbhiamcmiopnoaaGreatDoorZTreeE
import Derived.Test.YtbhiamcmiopnoaaGreatDoorZBuPs
import Derived.Test.YtbhiamcmiopnoaaGreatDoorZBuB
set_option maxHeartbeats 4000000
set_option maxRecDepth 100000
namespace Go.Proofs.YtbhiamcmiopnoaaGreatDoor
section
open Go.RowKit
def aY (root seq:Int):Value:=.agg #[.int .i64 root,.int .i64 seq]
theorem jX (b:Nat) (w:World):(binOp .eql 125 (aF b) .nilIface).run Tryz.prog w=.ok (.bool false) w:=by kernel_rfl
theorem ji (w:World) (b:Nat) (S:aW) (root seq:Int) (l:List Item) (ids:List Int) (key:Bytes) (h:aA w b S) (R:bq S.L root l ids) (hs:S.stop<0) (hl:l.length<2 ^ 11) (hk:key.length≤1000000) (hw:cu key=true) :
 Calls Tryz.prog 95 #[aF b,aY root seq,str key] w (gH w b S l key):=by
 have hnil:=jX b
 have o1:=(Only.refl (fun _=>False) w).alloc (.cells #[.int .i64 root,.int .i64 seq] 23)
 have h1:=h.still o1
 have o2:=o1.alloc (.cells #[str [],str [],.int .i64 0] 131)
 have HB:=yj.new h1 #[str [],str [],.int .i64 0] 131
 have s1:(w.alloc (.cells #[.int .i64 root,.int .i64 seq] 23)).heap.size=w.heap.size+1:=Array.size_push _
 rw [s1] at HB
 have hb0:=dR (dw w (.cells #[.int .i64 root,.int .i64 seq] 23)) ((Only.refl (fun _=>False) _).alloc (.cells #[str [],str [],.int .i64 0] 131)) id
 have h2:=h.still o2
 have hst:=aB.still h.lt o2
 have hml:maxLen=9223372036854775807:=by decide
 have HW:=Lib.hid (fun W=>oq W key (by omega))
 rw [hw] at HW
 have Va:=aj hb0 0
 simp only [List.getElem?_toArray,List.getElem?_cons_zero] at Va
 have HG:=Lib.hid (Bo _ b S root l ids key h2 R hs hl)
 have HH:=Lib.hid (And.intro HB (And.intro hst h.lt))
 clear HB hst h1 o1 h2 o2 s1 hml hb0 h R hs hl hw
 unfold aY
 unfold aF gH at *
 go_enter Tryz.func95,Tryz.ntmps95
 go_wp2_with fail
 generalize (w.alloc (.cells #[.int .i64 root,.int .i64 seq] 23)).alloc (.cells #[str [],str [],.int .i64 0] 131)=W at *
 (with_reducible refine(HW.out W).mono ?_)
 rintro e _ ⟨rfl,rfl⟩
 go_wp2_with fail
 (with_reducible refine HG.out.mono ?_)
 rintro e w2 ⟨rfl,hp2,st2⟩
 obtain⟨hB,hst,hlt⟩:=HH.out
 have hb2:=hB.step st2
 have NA:=hst.trans st2
 have hw2:w.heap.size≤w.heap.size+1:=by omega
 have fin:∀(x0 x1 x2:Value),aA (three w2 (w.heap.size+1) x0 x1 x2) b S∧aB b w (three w2 (w.heap.size+1) x0 x1 x2)∧(three w2 (w.heap.size+1) x0 x1 x2).heap[w.heap.size+1]? = some (.cells #[x0,x1,x2] 131 (0,0)):=fun x0 x1 x2=>by
  have ho:=oL w2 (w.heap.size+1) x0 x1 x2
  obtain⟨vL,vG,hI⟩:=hp2
  exact⟨⟨vL,vG,hI.beside ho (fun j q e=>hb2.2 (e▸q))⟩,NA.fresh hlt ho (fun j e=>by have e2:j=w.heap.size+1:=e;omega),oM hb2.1 _ _ _⟩
 have pW:=Lib.hid fin
 have c0:=aj hb2.1 0
 have c1:=aj hb2.1 1
 have c2:=aj hb2.1 2
 have z0:=aC hb2.1 0
 have z1:=aC hb2.1 1
 have z2:=aC hb2.1 2
 simp only [List.getElem?_toArray,List.getElem?_cons_zero,List.getElem?_cons_succ] at c0 c1 c2
 clear fin hB hst hb2 NA hp2 st2 HG HH HW
 cases hfi:aS l key with
 | some x=>
  have HF:=Lib.hid hfi
  clear hfi
  unfold iG iA aJ
  go_wp2_with fail
  obtain⟨f1,f2,f3⟩:=pW.out (str x.key) (str x.val) (.int .i64 x.kind)
  unfold three at f1 f2 f3
  have q0:=aj f3 0
  have q1:=aj f3 1
  have q2:=aj f3 2
  simp only [List.getElem?_toArray,List.getElem?_cons_zero,List.getElem?_cons_succ] at q0 q1 q2
  exact bodyPost_ret (v:=.tuple #[.agg #[str x.key,str x.val,.int .i64 x.kind],.bool true,.int .i64 0]) (by simp [results,Tryz.results95,go_sem,q0,q1,q2]) rfl ⟨by first | rfl |(rw [HF.out];rfl),f1,f2⟩
 | none=>
  have HF:=Lib.hid hfi
  clear hfi
  unfold iG
  go_wp2_with fail
  obtain⟨f1,f2,f3⟩:=pW.out (str []) (str []) (.int .i64 0)
  unfold three at f1 f2 f3
  have q0:=aj f3 0
  have q1:=aj f3 1
  have q2:=aj f3 2
  simp only [List.getElem?_toArray,List.getElem?_cons_zero,List.getElem?_cons_succ] at q0 q1 q2
  exact bodyPost_ret (v:=.tuple #[.agg #[str [],str [],.int .i64 0],.bool false,.int .i64 0]) (by simp [results,Tryz.results95,go_sem,q0,q1,q2]) rfl ⟨by first | rfl |(rw [HF.out];rfl),f1,f2⟩
end
section
open Go.RowKit Go.MuLone
theorem Sj (n : Nat) (a : Addr) (w : World) : (method (n + 1) 52 (.pointer (some a)) "Run").run Tryz.prog w = .ok (258, .pointer (some a)) w := by kernel_rfl
def sD (L:List Node) (x:Item):Prop:=x.kind=2∨∃v,Sem L x v
theorem CX (w:World) (b:Nat) (S:aW) (x:Item) (h:aA w b S) (hx:sD S.L x) (hg:S.given.length+20<1000000) :
 Calls Tryz.prog 136 #[aF b,.agg #[str x.key,str x.val,.int .i64 x.kind]] w fun e w'=>e=.returned (.int .i64 0)∧aA w' b (fq S (aX x))∧aB b w w':=by
 have o1:=(Only.refl (fun _=>False) w).alloc (.cells #[str x.key,str x.val,.int .i64 x.kind] 131)
 have h1:=h.still o1
 have st1:=aB.still h.lt o1
 by_cases hk:x.kind=1
 ·obtain⟨k,v,first,hv,hf,rfl⟩:∃(k v:Bytes) (first:Nat),(96<v.length∧v.length≤2000)∧(2≤first∧first+bW v.length≤4000)∧x=⟨k,gD first v.length,1⟩:=by
   rcases hx with hx |⟨v,hx⟩
   ·omega
   ·cases hx with
    | plain k v h=>cases hk
    | far k v first a1 a2 a3=>exact⟨k,v,first,a1,a2,rfl⟩
  have Sk:1≤bW v.length:=by unfold bW;split<;>omega
  have gP:=rZ (k:=k) (first:=first) (n:=v.length) (by omega) (by omega)
  rw [gP]
  have XU:=jf hv.2
  have HI:=Lib.hid (Eb (w.alloc (.cells #[str k,str (gD first v.length),.int .i64 1] 131)) first v.length (by omega) hv.2)
  have hm:=fun n=>Br n ⟨b,0,none⟩
  have HH:=Lib.hid (And.intro h1 st1)
  clear h h1 st1 o1 hx gP
  unfold aF
  go_enter Tryz.func136,Tryz.ntmps136
  go_wp2_with fail
  generalize (w.alloc (.cells #[str k,str (gD first v.length),.int .i64 1] 131))=W at *
  (with_reducible refine HI.out.mono ?_)
  rintro e w2 ⟨V,rfl,hV,o2,hfr⟩
  obtain⟨h1,st1⟩:=HH.out
  have h2:=h1.still o2
  have hst:=st1.trans (aB.still h1.lt o2)
  have HF:=Lib.hid (Av w2 b S (kr first v.length) V h2 (by simp [kr];omega) hV (fun j hj q=>by have:=hfr j hj;have:=bM h1 ((aD (o2.block b h1.lt id) j).1 q);omega))
  have HS:=Lib.hid hst
  clear hV o2 hfr h1 st1 h2 hst HI HH
  go_wp2_with fail
  (with_reducible refine HF.out.mono ?_)
  rintro e w3 ⟨rfl,h3,jR⟩
  have HE:=Lib.hid (And.intro h3 (HS.out.trans jR))
  clear h3 jR HS HF
  go_wp2_with fail
  go_ret
  exact⟨rfl,HE.out⟩
 ·have gP:aX x=[]:=by unfold aX;rw [if_neg hk]
  rw [gP]
  have hk2:(x.kind != 1)=true:=by simpa using hk
  have HH:=Lib.hid (And.intro h1 st1)
  clear h h1 st1 o1 hx gP
  unfold aF
  go_enter Tryz.func136,Tryz.ntmps136
  go_wp2_with fail
  go_ret
  exact⟨rfl,HH.out⟩
end
section
open Go.RowKit Go.MuLone
def parts (v:Bytes):List Bytes:=(List.range (bW v.length)).map (fJ v)
theorem FP (v:Bytes):(parts v).map Node.over=qR v (bW v.length):=by simp [parts,qR]
def dN (v:Bytes):List Bytes:=if v.length≤96 then [] else parts v
def dG (S:aW) (key v:Bytes):Item:=if v.length≤96 then ⟨key,v,0⟩ else ⟨key,gD (S.L.length+2) v.length,1⟩
def EO (x:Item):Value:=.agg #[str x.key,str x.val,.int .i64 x.kind]
theorem zY {w w2:World} {b B:Nat} {S:aW} {y0 y1 y2:Value} {t:TypeId} (hp:aA w2 b S) (st:aB b w w2) (hB:w2.heap[B]? = some (.cells #[y0,y1,y2] t (0,0))) (hf:w.heap.size≤B) (hn:¬bn w2 b B) (hlt:b<w.heap.size) (x0 x1 x2:Value) :
 aA (three w2 B x0 x1 x2) b S∧aB b w (three w2 B x0 x1 x2)∧(three w2 B x0 x1 x2).heap[B]? = some (.cells #[x0,x1,x2] t (0,0)):=by
 have ho:=oL w2 B x0 x1 x2
 obtain⟨vL,vG,hI⟩:=hp
 exact⟨⟨vL,vG,hI.beside ho (fun j q e=>hn (e▸q))⟩,st.fresh hlt ho (fun j e=>by have e2:j=B:=e;omega),oM hB _ _ _⟩
theorem Ec.step {b:Nat} {S:aW} {g:Nat} {w w2 w3:World} {ns:List Node} (h:Ec b S g w2 w3 ns) (st:aB b w w2) (hg:w.heap.size≤g):aB b w w3:=
 ⟨Only.trans st.only h.only (fun i hi q=>q.elim (fun q=>(st.own i q).elim id (fun q=>by omega)) (fun q=>by omega)),fun k q=>(h.own k q).elim (st.own k) (fun q=>.inr (Nat.le_trans st.only.size q))⟩
theorem Ld (S:aW):lI S []=S:=by simp [lI]
theorem J7 (w:World) (b:Nat) (S:aW) (key v:Bytes) (h:aA w b S) (hv:v.length≤2000) (hL:S.L.length+9≤3998) :
 Calls Tryz.prog 100 #[aF b,str key,str v] w fun e w'=>e=.returned (.tuple #[EO (dG S key v),.int .i64 0])∧aA w' b (lI S (dN v))∧aB b w w':=by
 have o2:=(Only.refl (fun _=>False) w).alloc (.cells #[str [],str [],.int .i64 0] 131)
 have h2:=h.still o2
 have hst:=aB.still h.lt o2
 have hlt:=h.lt
 have hb0:=dw w (.cells #[str [],str [],.int .i64 0] 131)
 have hsz:(w.alloc (.cells #[str [],str [],.int .i64 0] 131)).heap.size=w.heap.size+1:=Array.size_push _
 have hfp:¬bn (w.alloc (.cells #[str [],str [],.int .i64 0] 131)) b w.heap.size:=fun q=>by
  have:=bM h ((aD (o2.block b h.lt id) _).1 q)
  omega
 have hp:=jf hv
 by_cases NH:v.length≤96
 ·have e1:dG S key v=⟨key,v,0⟩:=if_pos NH
  have e2:dN v=[]:=if_pos NH
  have q1:decide ((v.length:Int)≤96)=true:=decide_eq_true (by omega)
  rw [e1,e2,Ld]
  have oF:=(Only.refl (fun _=>False) w).alloc (.cells #[str key,str v,.int .i64 0] 131)
  have HF:=Lib.hid (And.intro (h.still oF) (aB.still h.lt oF))
  have c0:=aj hb0 0
  have c1:=aj hb0 1
  have c2:=aj hb0 2
  have z0:=aC hb0 0
  have z1:=aC hb0 1
  have z2:=aC hb0 2
  simp only [List.getElem?_toArray,List.getElem?_cons_zero,List.getElem?_cons_succ] at c0 c1 c2
  clear oF h o2 h2 hst hb0 hsz hfp e1 e2
  unfold aF EO
  go_enter Tryz.func100,Tryz.ntmps100
  go_wp2_with fail
  exact bodyPost_ret (v:=.tuple #[.agg #[str key,str v,.int .i64 0],.int .i64 0]) (by simp [results,Tryz.results100,go_sem,str]) rfl ⟨rfl,HF.out.1,HF.out.2⟩
 ·have e1:dG S key v=⟨key,gD (S.L.length+2) v.length,1⟩:=if_neg NH
  have e2:dN v=parts v:=if_neg NH
  have q1:decide ((v.length:Int)≤96)=false:=decide_eq_false (by omega)
  have hne:1≤bW v.length:=by unfold bW;split<;>omega
  have hm:=fun n=>Sj n ⟨b,0,none⟩
  have XV:((S.L.length+2:Nat):Int)=(S.L.length:Int)+2:=by omega
  have HR:=Lib.hid (fun W=>Ed W (S.L.length+2) v.length (by omega) hv)
  rw [XV] at HR
  rw [e1,e2]
  have HL:=Lib.hid (Le (w.alloc (.cells #[str [],str [],.int .i64 0] 131)) v hv)
  have HB:=Lib.hid (And.intro hb0 (And.intro h2 (And.intro hst (And.intro hfp hsz))))
  clear h o2 h2 hst hb0 hsz hfp e1 e2
  unfold aF EO
  go_enter Tryz.func100,Tryz.ntmps100
  go_wp2_with fail
  generalize (w.alloc (.cells #[str [],str [],.int .i64 0] 131))=W at *
  (with_reducible refine HL.out.mono ?_)
  rintro e w2 ⟨a,c,rfl,hown,o2,hfr⟩
  obtain⟨hb0,h2,hst,hfp,hsz⟩:=HB.out
  obtain⟨g,rfl,hb,hgf⟩:∃g,a=some ⟨g,0,none⟩∧(∃cur t,w2.heap[g]? = some (.cells cur t (0,0)))∧W.heap.size≤g:=by
   rcases hown.2 with ⟨q,h0⟩ |⟨g,cap,cur,hv,hbase,hb,h1,h2,h3,h4⟩
   ·omega
   ·injection hv with hv1 hv2 hv3
    exact⟨g,hv1,⟨_,_,hb⟩,hfr g (by rw [hv1];rfl)⟩
  obtain⟨cur,tc,hb⟩:=hb
  have hov:=uU v (bW v.length)
  have hT:Tail w2 g (qR v (bW v.length)) 0:=fun m n _ hn j u hu=>⟨aZ hown (m * 4+j) u (gY hn hu),aQ hb _⟩
  have h3:=h2.still o2
  have hb2:=dR hb0 o2 id
  have Ws:¬bn w2 b g:=fun q=>by
   have:=bM h2 ((aD (o2.block b h2.lt id) g).1 q)
   omega
  have I5:¬bn w2 b w.heap.size:=fun q=>hfp ((aD (o2.block b h2.lt id) _).1 q)
  have HN:=Lib.hid (NI w2 b S (qR v (bW v.length)) g c h3 (fun n hn=>by
   obtain⟨i,_,rfl⟩:=List.mem_map.1 hn
   exact kW v i) (by omega) hT (jU hb) Ws)
  rw [hov] at HN
  have HC:=Lib.hid (And.intro hb2 (And.intro (hst.trans (aB.still h2.lt o2)) (And.intro I5 (And.intro hgf hsz))))
  clear hown o2 hfr hb0 h2 hst hfp hb hT h3 hb2 Ws I5 HL HB hgf hsz
  go_wp2_with fail
  (with_reducible refine HN.out.mono ?_)
  rintro e w3 ⟨rfl,hrun⟩
  obtain⟨hb2,st2,I5,hgf,hsz⟩:=HC.out
  have hb3:=dR hb2 hrun.only (fun q=>q.elim I5 (fun q=>by omega))
  have jR:=hrun.step st2 (by omega)
  have Lf:¬bn w3 b w.heap.size:=fun q=>(hrun.own _ q).elim I5 (fun q=>by have:=jU hb2;omega)
  have HD:=Lib.hid (And.intro hb3 (And.intro hrun.pages (And.intro jR Lf)))
  clear hb2 st2 I5 hgf hsz hb3 jR Lf hrun HC HN
  go_wp2_with fail
  (with_reducible refine(HR.out w3).mono ?_)
  rintro e w4 ⟨rfl,o4⟩
  obtain⟨hb3,h3,jR,Lf⟩:=HD.out
  have hb4:=dR hb3 o4 id
  have h4:=h3.still o4
  have fP:=jR.trans (aB.still h3.lt o4)
  have Sl:¬bn w4 b w.heap.size:=fun q=>Lf ((aD (o4.block b h3.lt id) _).1 q)
  have c0:=aj hb4 0
  have c1:=aj hb4 1
  have c2:=aj hb4 2
  have z0:=aC hb4 0
  have z1:=aC hb4 1
  have z2:=aC hb4 2
  simp only [List.getElem?_toArray,List.getElem?_cons_zero,List.getElem?_cons_succ] at c0 c1 c2
  have HE:=Lib.hid (And.intro hb4 (And.intro h4 (And.intro fP Sl)))
  clear hb3 h3 jR Lf hb4 h4 fP Sl o4 HD HR
  go_wp2_with fail
  obtain⟨d0,d1,d2,d3⟩:=HE.out
  obtain⟨f1,f2,f3⟩:=zY d1 d2 d0 (Nat.le_refl _) d3 hlt (str key) (str (gD (S.L.length+2) v.length)) (.int .i64 1)
  unfold three at f1 f2 f3
  have x0:=aj f3 0
  have x1:=aj f3 1
  have x2:=aj f3 2
  simp only [List.getElem?_toArray,List.getElem?_cons_zero,List.getElem?_cons_succ] at x0 x1 x2
  exact bodyPost_ret (v:=.tuple #[.agg #[str key,str (gD (S.L.length+2) v.length),.int .i64 1],.int .i64 0]) (by simp [results,Tryz.results100,go_sem,x0,x1,x2]) rfl ⟨rfl,by unfold lI;rw [FP];exact f1,f2⟩
end
end Go.Proofs.YtbhiamcmiopnoaaGreatDoor
