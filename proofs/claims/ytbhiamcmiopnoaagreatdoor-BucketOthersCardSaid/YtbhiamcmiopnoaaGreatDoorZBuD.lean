/- Package bucket over the law's pages: an item is put into a bucket, and what it was is given back. Conditions: one goroutine; the pages hold the tree; there is room. -/
import Derived.Test.YtbhiamcmiopnoaaGreatDoorZBuC
import Derived.Test.YtbhiamcmiopnoaaGreatDoorZTreeC
import Derived.Test.YtbhiamcmiopnoaaGreatDoorZTreeE
set_option maxHeartbeats 4000000
set_option maxRecDepth 100000
namespace Go.Proofs.YtbhiamcmiopnoaaGreatDoor
section
open Go.RowKit Go.MuLone
structure bG (w:World) (b B:Nat) (o:Obj):Prop where
 at_:w.heap[B]? = some o
 not:¬bn w b B
theorem bG.new {w:World} {b:Nat} {S:aW} (h:aA w b S) (o:Obj):bG (w.alloc o) b w.heap.size o:=
 ⟨dw w o,fun q=>by
  have:=bM h ((aD (((Only.refl (fun _=>False) w).alloc o).block b h.lt id) _).1 q)
  omega⟩
theorem bG.still {w w':World} {b B:Nat} {o:Obj} {S:aW} (h:bG w b B o) (hp:aA w b S) (ho:Only (fun _=>False) w w'):bG w' b B o:=
 ⟨dR h.at_ ho id,fun q=>h.not ((aD (ho.block b hp.lt id) _).1 q)⟩
theorem bG.step {w w':World} {b B:Nat} {o:Obj} (h:bG w b B o) (st:aB b w w'):bG w' b B o:=
 ⟨dR h.at_ st.only h.not,fun q=>(st.own B q).elim h.not (fun q=>by have:=jU h.at_;omega)⟩
theorem eu {w w2:World} {b B:Nat} {S:aW} {y0 y1:Value} {t:TypeId} (hp:aA w2 b S) (st:aB b w w2) (hB:bG w2 b B (.cells #[y0,y1] t (0,0))) (hf:w.heap.size≤B) (hlt:b<w.heap.size) (x0 x1:Value) :
 aA ((w2.setCell ⟨B,0,none⟩ x0).setCell ⟨B,1,none⟩ x1) b S∧aB b w ((w2.setCell ⟨B,0,none⟩ x0).setCell ⟨B,1,none⟩ x1)∧((w2.setCell ⟨B,0,none⟩ x0).setCell ⟨B,1,none⟩ x1).heap[B]? = some (.cells #[x0,x1] t (0,0)):=by
 have ho:Only (fun k=>k=B) w2 ((w2.setCell ⟨B,0,none⟩ x0).setCell ⟨B,1,none⟩ x1):=((Only.refl (fun k=>k=B) w2).put B 0 rfl _).put B 1 rfl _
 obtain⟨vL,vG,hI⟩:=hp
 exact⟨⟨vL,vG,hI.beside ho (fun j q e=>hB.not (e▸q))⟩,st.fresh hlt ho (fun j e=>by have e2:j=B:=e;omega),ou (ou hB.at_ 0 x0) 1 x1⟩
theorem vv (w:World) (b:Nat) (S S2:aW) (root r seq:Int) (l:List Item) (ids:List Int) (x was:Item) (m:Nat) (h:aA w b S) (hi:dK x=true) (R:bq S.L root l ids) (hs:S.stop<0) (hm:l.length<2 ^ m) (hm2:m≤11) (hL:S.L.length+4+2 * m≤3998) (hg:S.given.length+60<1000000)
 (hk:gV S root x=(.ok r,S2)) (hw:sD S2.L was) :
 Calls Tryz.prog 96 #[aF b,aY root seq,EO x,EO was] w fun e w'=>e=.returned (.tuple #[aY r seq,.int .i64 0])∧aA w' b (fq S2 (aX was))∧aB b w w':=by
 have hgv:=kE S root x
 rw [hk] at hgv
 have o1:=(Only.refl (fun _=>False) w).alloc (.cells #[.int .i64 root,.int .i64 seq] 23)
 have h1:=h.still o1
 have A1:=bG.new h (.cells #[.int .i64 root,.int .i64 seq] 23)
 have hs1:(w.alloc (.cells #[.int .i64 root,.int .i64 seq] 23)).heap.size=w.heap.size+1:=Array.size_push _
 generalize hW1:w.alloc (.cells #[.int .i64 root,.int .i64 seq] 23)=W1 at *
 have o2:=(Only.refl (fun _=>False) W1).alloc (.cells #[str x.key,str x.val,.int .i64 x.kind] 131)
 have h2:=h1.still o2
 have A2:=bG.new h1 (.cells #[str x.key,str x.val,.int .i64 x.kind] 131)
 have hs2:(W1.alloc (.cells #[str x.key,str x.val,.int .i64 x.kind] 131)).heap.size=W1.heap.size+1:=Array.size_push _
 rw [hs1] at A2 hs2
 generalize hW2:W1.alloc (.cells #[str x.key,str x.val,.int .i64 x.kind] 131)=W2 at *
 have o3:=(Only.refl (fun _=>False) W2).alloc (.cells #[str was.key,str was.val,.int .i64 was.kind] 131)
 have h3:=h2.still o3
 have A3:=bG.new h2 (.cells #[str was.key,str was.val,.int .i64 was.kind] 131)
 have hs3:(W2.alloc (.cells #[str was.key,str was.val,.int .i64 was.kind] 131)).heap.size=W2.heap.size+1:=Array.size_push _
 rw [hs2] at A3 hs3
 generalize hW3:W2.alloc (.cells #[str was.key,str was.val,.int .i64 was.kind] 131)=W3 at *
 have o4:=(Only.refl (fun _=>False) W3).alloc (.cells #[.int .i64 0,.int .i64 0] 23)
 have h4:=h3.still o4
 have A4:=bG.new h3 (.cells #[.int .i64 0,.int .i64 0] 23)
 rw [hs3] at A4
 have B1:=((A1.still h1 o2).still h2 o3).still h3 o4
 have B2:=(A2.still h2 o3).still h3 o4
 have B3:=A3.still h3 o4
 have fP:=aB.still h.lt (Only.trans (Only.trans (Only.trans o1 o2 (fun _ _ q=>q)) o3 (fun _ _ q=>q)) o4 (fun _ _ q=>q))
 have HP:=Lib.hid (MX _ b S S2 root r l ids x m h4 hi R hs hm hm2 hL (by omega) hk)
 have HS:=Lib.hid (And.intro B1 (And.intro B3 (And.intro A4 fP)))
 have a0:=aj B1.at_ 0
 have b0:=aj B2.at_ 0
 have b1:=aj B2.at_ 1
 have b2:=aj B2.at_ 2
 simp only [List.getElem?_toArray,List.getElem?_cons_zero,List.getElem?_cons_succ] at a0 b0 b1 b2
 have hlt:=h.lt
 clear o1 o2 o3 o4 h1 h2 h3 h4 A1 A2 A3 A4 B1 B2 B3 fP h R hk
 have HZ:=Lib.hid (And.intro hs1 (And.intro hs2 hs3))
 subst hW1 hW2 hW3
 clear hs1 hs2 hs3
 unfold aF at HP ⊢
 unfold aY EO
 unfold iA aJ at HP
 go_enter Tryz.func96,Tryz.ntmps96
 go_wp2_with fail
 generalize ((((w.alloc (.cells #[.int .i64 root,.int .i64 seq] 23)).alloc (.cells #[str x.key,str x.val,.int .i64 x.kind] 131)).alloc (.cells #[str was.key,str was.val,.int .i64 was.kind] 131)).alloc (.cells #[.int .i64 0,.int .i64 0] 23))=W at *
 (with_reducible refine HP.out.mono ?_)
 rintro e w2 ⟨rfl,hp2,st2⟩
 obtain⟨B1,B3,B4,fP⟩:=HS.out
 have C1:=B1.step st2
 have C3:=B3.step st2
 have C4:=B4.step st2
 have c0:=aj C3.at_ 0
 have c1:=aj C3.at_ 1
 have c2:=aj C3.at_ 2
 simp only [List.getElem?_toArray,List.getElem?_cons_zero,List.getElem?_cons_succ] at c0 c1 c2
 have HD:=Lib.hid (CX w2 b S2 was hp2 hw (by have:S2.given.length≤S.given.length+33:=hgv;omega))
 have HT:=Lib.hid (And.intro C1 (And.intro C4 (fP.trans st2)))
 clear B1 B3 B4 fP C1 C3 C4 hp2 st2 HS HP a0 b0 b1 b2 HZ
 unfold aF at HD
 go_wp2_with fail
 (with_reducible refine HD.out.mono ?_)
 rintro e w3 ⟨rfl,hp3,jR⟩
 obtain⟨B1,B4,fP⟩:=HT.out
 have C1:=B1.step jR
 have C4:=B4.step jR
 have d1:=aj C1.at_ 1
 have e0:=aj C4.at_ 0
 have e1:=aj C4.at_ 1
 have y0:=aC C4.at_ 0
 have y1:=aC C4.at_ 1
 simp only [List.getElem?_toArray,List.getElem?_cons_zero,List.getElem?_cons_succ] at d1 e0 e1
 have HF:=Lib.hid (eu hp3 (fP.trans jR) C4 (by omega) hlt (.int .i64 r) (.int .i64 seq))
 clear B1 B4 fP C1 C4 hp3 jR HT HD c0 c1 c2
 go_wp2_with fail
 obtain⟨f1,f2,f3⟩:=HF.out
 have x0:=aj f3 0
 have x1:=aj f3 1
 simp only [List.getElem?_toArray,List.getElem?_cons_zero,List.getElem?_cons_succ] at x0 x1
 exact bodyPost_ret (v:=.tuple #[.agg #[.int .i64 r,.int .i64 seq],.int .i64 0]) (by simp [results,Tryz.results96,go_sem,x0,x1]) rfl ⟨rfl,f1,f2⟩
end
section
open Go.RowKit Go.MuLone
def je (l:List Item) (key:Bytes):Item:=(aS l key).getD ⟨[],[],0⟩
theorem EP (l:List Item) (key:Bytes):iG (aS l key)=EO (je l key):=by
 unfold iG je
 cases aS l key<;>rfl
theorem Gl (w:World) (b:Nat) (S S2:aW) (root r seq:Int) (l:List Item) (ids:List Int) (key v:Bytes) (m:Nat) (h:aA w b S) (hkl:key.length≤1000000) (hwd:cu key=true) (hv:v.length≤2000) (hi:dK (dG S key v)=true) (R:bq S.L root l ids) (R2:bq (lI S (dN v)).L root l ids) (hs:S.stop<0) (hm:l.length<2 ^ m) (hm2:m≤11) (hL:S.L.length+13+2 * m≤3998) (hg:S.given.length+60<1000000)
 (hk:gV (lI S (dN v)) root (dG S key v)=(.ok r,S2)) (hw:sD S2.L (je l key)) (hw2:(je l key).kind≠2) :
 Calls Tryz.prog 26 #[aF b,aY root seq,str key,str v] w fun e w'=>e=.returned (.tuple #[aY r seq,.int .i64 0])∧aA w' b (fq S2 (aX (je l key)))∧aB b w w':=by
 have hnil:=jX b
 have hml:maxLen=9223372036854775807:=by decide
 have qw:l.length<2 ^ 11:=Nat.lt_of_lt_of_le hm (Nat.pow_le_pow_right (by omega) hm2)
 have hcs:(dN v).length≤9:=by
  have:=jf hv
  unfold dN parts
  split<;>simp
  omega
 have hll:=qx S (dN v)
 have q1:decide ((v.length:Int) > 2000)=false:=decide_eq_false (by omega)
 have HW:=Lib.hid (fun W=>oq W key (by omega))
 rw [hwd] at HW
 have o1:=(Only.refl (fun _=>False) w).alloc (.cells #[.int .i64 root,.int .i64 seq] 23)
 have h1:=h.still o1
 have A1:=bG.new h (.cells #[.int .i64 root,.int .i64 seq] 23)
 have hs1:(w.alloc (.cells #[.int .i64 root,.int .i64 seq] 23)).heap.size=w.heap.size+1:=Array.size_push _
 generalize hW1:w.alloc (.cells #[.int .i64 root,.int .i64 seq] 23)=W1 at *
 have o2:=(Only.refl (fun _=>False) W1).alloc (.cells #[.int .i64 0,.int .i64 0] 23)
 have h2:=h1.still o2
 have A2:=bG.new h1 (.cells #[.int .i64 0,.int .i64 0] 23)
 rw [hs1] at A2
 have B1:=A1.still h1 o2
 have st2:=aB.still h.lt (Only.trans o1 o2 (fun _ _ q=>q))
 have HI:=Lib.hid (Bo _ b S root l ids key h2 R hs qw)
 unfold gH at HI
 rw [EP] at HI
 have HG:=Lib.hid (fun W hp=>J7 W b S key v hp hv (by omega))
 have HP:=Lib.hid (fun W hp=>vv W b (lI S (dN v)) S2 root r seq l ids (dG S key v) (je l key) m hp hi R2 hs hm hm2 (by omega) hg hk hw)
 have HS:=Lib.hid (And.intro B1 (And.intro A2 (And.intro st2 h2)))
 have hlt:=h.lt
 have a0:=aj B1.at_ 0
 simp only [List.getElem?_toArray,List.getElem?_cons_zero] at a0
 clear o1 o2 h1 h2 A1 A2 B1 st2 h R R2 hk hw
 subst hW1
 clear hs1 hml
 unfold aF at HI HP HG hnil ⊢
 unfold aY at HP ⊢
 unfold EO at HG HP HI
 go_enter Tryz.func26,Tryz.ntmps26
 go_wp2_with fail
 generalize ((w.alloc (.cells #[.int .i64 root,.int .i64 seq] 23)).alloc (.cells #[.int .i64 0,.int .i64 0] 23))=W at *
 (with_reducible refine(HW.out W).mono ?_)
 rintro e _ ⟨rfl,rfl⟩
 go_wp2_with fail
 (with_reducible refine HI.out.mono ?_)
 rintro e w2 ⟨rfl,hp2,st2⟩
 obtain⟨B1,B2,st0,h0⟩:=HS.out
 have A3:=bG.new hp2 (.cells #[str (je l key).key,str (je l key).val,.int .i64 (je l key).kind] 131)
 have o3:=(Only.refl (fun _=>False) w2).alloc (.cells #[str (je l key).key,str (je l key).val,.int .i64 (je l key).kind] 131)
 have HT:=Lib.hid (And.intro ((B1.step st2).still hp2 o3) (And.intro ((B2.step st2).still hp2 o3) (And.intro A3 (And.intro ((st0.trans st2).trans (aB.still hp2.lt o3)) (hp2.still o3)))))
 have c2:=aj A3.at_ 2
 simp only [List.getElem?_toArray,List.getElem?_cons_zero,List.getElem?_cons_succ] at c2
 have hk3:((je l key).kind == 2)=false:=by simpa using hw2
 clear B1 B2 st0 h0 A3 o3 hp2 st2 HS HI HW
 have fin:Hid (∀wX:Bool,(aS l key).isSome=wX→True):=Lib.hid (fun _ _=>trivial)
 clear fin
 generalize (aS l key).isSome=wX
 cases wX
 all_goals
  go_wp2_with fail
  generalize (w2.alloc (.cells #[str (je l key).key,str (je l key).val,.int .i64 (je l key).kind] 131))=W3 at *
  (with_reducible refine(HG.out W3 HT.out.2.2.2.2).mono ?_)
  rintro e w4 ⟨rfl,iD,fP⟩
  obtain⟨B1,B2,B3,st0,_⟩:=HT.out
  have A4:=bG.new iD (.cells #[str (dG S key v).key,str (dG S key v).val,.int .i64 (dG S key v).kind] 131)
  have o4:=(Only.refl (fun _=>False) w4).alloc (.cells #[str (dG S key v).key,str (dG S key v).val,.int .i64 (dG S key v).kind] 131)
  have C1:=(B1.step fP).still iD o4
  have C2:=(B2.step fP).still iD o4
  have C3:=(B3.step fP).still iD o4
  have HU:=Lib.hid (And.intro C2 (And.intro ((st0.trans fP).trans (aB.still iD.lt o4)) (iD.still o4)))
  have d0:=aj C1.at_ 0
  have d1:=aj C1.at_ 1
  have e0:=aj C3.at_ 0
  have e1:=aj C3.at_ 1
  have e2:=aj C3.at_ 2
  have f0:=aj A4.at_ 0
  have f1:=aj A4.at_ 1
  have f2:=aj A4.at_ 2
  simp only [List.getElem?_toArray,List.getElem?_cons_zero,List.getElem?_cons_succ] at d0 d1 e0 e1 e2 f0 f1 f2
  clear B1 B2 B3 st0 A4 o4 C1 C2 C3 iD fP HT HG c2 a0
  go_wp2_with fail
  generalize (w4.alloc (.cells #[str (dG S key v).key,str (dG S key v).val,.int .i64 (dG S key v).kind] 131))=W5 at *
  (with_reducible refine(HP.out W5 HU.out.2.2).mono ?_)
  rintro e w6 ⟨rfl,mM,xA⟩
  obtain⟨C2,sQ,_⟩:=HU.out
  have D2:=C2.step xA
  have x0:=aj D2.at_ 0
  have x1:=aj D2.at_ 1
  have y0:=aC D2.at_ 0
  have y1:=aC D2.at_ 1
  simp only [List.getElem?_toArray,List.getElem?_cons_zero,List.getElem?_cons_succ] at x0 x1
  have HF:=Lib.hid (eu mM (sQ.trans xA) D2 (by omega) hlt (.int .i64 r) (.int .i64 seq))
  clear C2 sQ D2 mM xA HU HP d0 d1 e0 e1 e2 f0 f1 f2
  go_wp2_with fail
  obtain⟨g1,g2,g3⟩:=HF.out
  have x0:=aj g3 0
  have x1:=aj g3 1
  simp only [List.getElem?_toArray,List.getElem?_cons_zero,List.getElem?_cons_succ] at x0 x1
  exact bodyPost_ret (v:=.tuple #[.agg #[.int .i64 r,.int .i64 seq],.int .i64 0]) (by simp [results,Tryz.results26,go_sem,x0,x1]) rfl ⟨rfl,g1,g2⟩
end
section
open Go.RowKit Go.MuLone
theorem Gn (w:World) (b:Nat) (S S2:aW) (root r seq:Int) (l:List Item) (ids:List Int) (key:Bytes) (wX:Bool) (m:Nat) (h:aA w b S) (R:bq S.L root l ids) (hs:S.stop<0) (hm:l.length<2 ^ m) (hm2:m≤11) (hL:S.L.length+4+2 * m≤3998) (hg:S.given.length+60<1000000)
 (hk:jk S root key=(.ok (r,wX),S2)) :
 Calls Tryz.prog 98 #[aF b,aY root seq,str key] w fun e w'=>e=.returned (.tuple #[aY r seq,.int .i64 0])∧aA w' b S2∧aB b w w':=by
 have o1:=(Only.refl (fun _=>False) w).alloc (.cells #[.int .i64 root,.int .i64 seq] 23)
 have h1:=h.still o1
 have A1:=bG.new h (.cells #[.int .i64 root,.int .i64 seq] 23)
 have hs1:(w.alloc (.cells #[.int .i64 root,.int .i64 seq] 23)).heap.size=w.heap.size+1:=Array.size_push _
 generalize hW1:w.alloc (.cells #[.int .i64 root,.int .i64 seq] 23)=W1 at *
 have o2:=(Only.refl (fun _=>False) W1).alloc (.cells #[.int .i64 0,.int .i64 0] 23)
 have h2:=h1.still o2
 have A2:=bG.new h1 (.cells #[.int .i64 0,.int .i64 0] 23)
 rw [hs1] at A2
 have B1:=A1.still h1 o2
 have st2:=aB.still h.lt (Only.trans o1 o2 (fun _ _ q=>q))
 have HI:=Lib.hid (ER _ b S S2 root r l ids key wX m h2 R hs hm hm2 hL (by omega) hk)
 have HS:=Lib.hid (And.intro B1 (And.intro A2 st2))
 have hlt:=h.lt
 have a0:=aj B1.at_ 0
 simp only [List.getElem?_toArray,List.getElem?_cons_zero] at a0
 clear o1 o2 h1 h2 A1 A2 B1 st2 h R hk
 subst hW1
 clear hs1
 unfold aF at HI ⊢
 unfold aY
 go_enter Tryz.func98,Tryz.ntmps98
 go_wp2_with fail
 generalize ((w.alloc (.cells #[.int .i64 root,.int .i64 seq] 23)).alloc (.cells #[.int .i64 0,.int .i64 0] 23))=W at *
 (with_reducible refine HI.out.mono ?_)
 rintro e w2 ⟨rfl,hp2,st2⟩
 obtain⟨B1,B2,st0⟩:=HS.out
 have C1:=B1.step st2
 have C2:=B2.step st2
 have d1:=aj C1.at_ 1
 have x0:=aj C2.at_ 0
 have x1:=aj C2.at_ 1
 have y0:=aC C2.at_ 0
 have y1:=aC C2.at_ 1
 simp only [List.getElem?_toArray,List.getElem?_cons_zero,List.getElem?_cons_succ] at d1 x0 x1
 have HF:=Lib.hid (eu hp2 (st0.trans st2) C2 (by omega) hlt (.int .i64 r) (.int .i64 seq))
 clear B1 B2 st0 C1 C2 hp2 st2 HS HI a0
 go_wp2_with fail
 obtain⟨g1,g2,g3⟩:=HF.out
 have x0:=aj g3 0
 have x1:=aj g3 1
 simp only [List.getElem?_toArray,List.getElem?_cons_zero,List.getElem?_cons_succ] at x0 x1
 exact bodyPost_ret (v:=.tuple #[.agg #[.int .i64 r,.int .i64 seq],.int .i64 0]) (by simp [results,Tryz.results98,go_sem,x0,x1]) rfl ⟨rfl,g1,g2⟩
end
end Go.Proofs.YtbhiamcmiopnoaaGreatDoor
