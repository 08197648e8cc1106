/- Package big: a value is read back from its pages. Conditions: one goroutine; the pages hold the value. -/
import Derived.Test.YtbhiamcmiopnoaaGreatDoorZBuE
import Derived.OwnWalk
set_option maxHeartbeats 4000000
set_option maxRecDepth 100000
namespace Go.Proofs.YtbhiamcmiopnoaaGreatDoor
section
open Go.RowKit Go.MuLone
def Pn (b : Nat) : Value := .func (.method "Get") #[aF b] #[]
theorem Ib {L:List Node} {first:Nat} {v:Bytes} (h:zW L first v) {k:Nat} (hk:k<bW v.length):nodeAt L ((first:Int)+k)=some (.over (fJ v k)):=by
 have:=h k hk
 rwa [Int.natCast_add] at this
theorem sP (v:Bytes) (k:Nat):v.take (k * 232)++fJ v k=v.take ((k+1) * 232):=by
 unfold fJ
 rw [show (k+1) * 232=k * 232+232 by omega,List.take_add]
theorem zX (v:Bytes):v.take (bW v.length * 232)=v:=by
 refine List.take_of_length_le ?_
 unfold bW
 split<;>omega
theorem J2 {v:Bytes} {k:Nat} (hk:k<bW v.length):((fJ v k).length:Int)=min ((v.length:Int)-(k:Int) * 232) 232:=by
 have:=CV hk
 unfold fJ
 rw [List.length_take,List.length_drop]
 omega
theorem J3 (b : Nat) (w : World) : (binOp .eql 217 (.func (.method "Get") #[aF b] #[]) .nilFunc).run Tryz.prog w = .ok (.bool false) w := by kernel_rfl
theorem Ic (w:World) (b:Nat) (S:aW) (first:Nat) (v:Bytes) (h:aA w b S) (hs:S.stop<0) (hf:2≤first∧first+bW v.length≤4000) (hv:v.length≤2000) (hL:zW S.L first v) :
 Calls Tryz.prog 150 #[str (gD first v.length),Pn b] w fun e w'=>e=.returned (.tuple #[str v,.int .i64 0])∧aA w' b S∧aB b w w':=by
 obtain⟨i0,hi,hz0,hz1,hz2⟩:=info_parts qj
 have hne:1≤bW v.length:=by unfold bW;split<;>omega
 have HU:=Lib.hid (yh w first v.length (by omega) hv)
 have HN:=Lib.hid (fun W=>vo W v.length (by omega))
 have Q6:=jf hv
 have H0:=Lib.hid h
 have hnf:=J3 b
 unfold Pn
 go_enter Tryz.func150,Tryz.ntmps150
 go_wp2_with fail
 (with_reducible refine HU.out.mono ?_)
 rintro e w2 ⟨rfl,o2⟩
 go_wp2_with fail
 (with_reducible refine(HN.out w2).mono ?_)
 rintro e w3 ⟨rfl,rfl⟩
 go_wp2_with fail
 have HO:=Lib.hid (And.intro (H0.out.still o2) (aB.still H0.out.lt o2))
 clear o2 HU HN h
 go_loopg [9,28] (bW v.length) (fun gh ov iv wr=>∃k:Nat,gh+k=bW v.length∧iv=.int .i64 k∧wr.ownsRow 0 5 1 ov (v.take (k * 232)).length (Bf (v.take (k * 232)))∧aA wr b S∧aB b w wr∧∀j,ov.ownBlock=some j→w.heap.size≤j∧¬bn wr b j)
 case atStart=>exact⟨0,by omega,rfl,⟨rfl,.inl ⟨rfl,rfl⟩⟩,HO.out.1,HO.out.2,fun j q=>by cases q⟩
 case round=>
  obtain⟨k,u6,rfl,hown,hp,hst,hfr⟩:=hrel
  obtain⟨n0,hn0⟩:∃n0,(v.take (k * 232)).length=n0:=⟨_,rfl⟩
  have hn1:n0≤2000:=by rw [←hn0,List.length_take];omega
  rw [hn0] at hown
  obtain⟨aO,cO,rfl⟩:=ownsRow_form hown
  have Tv:=Lib.hid hn0
  clear hn0
  by_cases hk:k<bW v.length
  ·have hk1:(k:Int)<(bW v.length:Int):=by omega
   have hn:=Ib hL hk
   have hG:∀W,aA W b S→Calls Tryz.prog 255 #[.pointer (some ⟨b,0,none⟩),.int .i64 ((first:Int)+(k:Int))] W fun e w'=>e=.returned (.tuple #[.agg #[.int .i64 5,.int .i64 ((first:Int)+(k:Int)),.int .i64 0,str (fJ v k)],.int .i64 0])∧aA w' b S∧aB b W w':=fun W hW=>by
    have:=xC W b S ((first:Int)+(k:Int)) hW (by omega)
    have e:uj S ((first:Int)+(k:Int))=(.ok (.over (fJ v k)),S):=by
     rw [uo S _ (by omega),hn]
     unfold told
     rw [if_neg (by omega)]
    rw [e] at this
    exact this
   have HG:=Lib.hid hG
   have HR:=Lib.hid (And.intro hown (And.intro hst hfr))
   have HP:=Lib.hid hp
   have hw1:IntKind.i64.wrap ((k:Int)+1)=(k:Int)+1:=by exact IntWalk.i64_in _ (by omega)
   have hw2:IntKind.i64.wrap ((first:Int)+(k:Int))=(first:Int)+(k:Int):=by exact IntWalk.i64_in _ (by omega)
   have hw3:IntKind.i64.wrap ((k:Int) * 232)=(k:Int) * 232:=by exact IntWalk.i64_in _ (by omega)
   have hm:=fun n=>Gm n ⟨b,0,none⟩
   clear hG hown hst hfr hp
   unfold aF
   go_wp2_with fail
   (with_reducible refine(HG.out wr HP.out).mono ?_)
   rintro e w4 ⟨rfl,iD,fP⟩
   obtain⟨hown,hst,hfr⟩:=HR.out
   have oA:=(Only.refl (fun _=>False) w4).alloc (.cells #[.int .i64 5,.int .i64 ((first:Int)+(k:Int)),.int .i64 0,str (fJ v k)] 252)
   have bA:=dw w4 (.cells #[.int .i64 5,.int .i64 ((first:Int)+(k:Int)),.int .i64 0,str (fJ v k)] 252)
   have c0:=aj bA 0
   have c3:=aj bA 3
   simp only [List.getElem?_toArray,List.getElem?_cons_zero,List.getElem?_cons_succ] at c0 c3
   have eG:=aP (aP hown fP.only (fun j q=>(hfr j q).2)) oA (fun _ _ q=>q)
   have oh:=iD.still oA
   have sQ:=(hst.trans fP).trans (aB.still iD.lt oA)
   have Oy:∀j,(Value.slice aO n0 cO).ownBlock=some j→w.heap.size≤j∧¬bn (w4.alloc (.cells #[.int .i64 5,.int .i64 ((first:Int)+(k:Int)),.int .i64 0,str (fJ v k)] 252)) b j:=fun j hj=>⟨(hfr j hj).1,fun q=>by
    rcases fP.own j ((aD (oA.block b iD.lt id) j).1 q) with q | q
    ·exact(hfr j hj).2 q
    ·have:=(hown.lt j hj).2
     omega⟩
   have hlen:=J2 hk
   have HB:=Lib.hid (And.intro eG (And.intro oh (And.intro sQ Oy)))
   have hpl:=kW v k
   have HT:=Lib.hid (strCells_eq (fJ v k))
   clear hown hst hfr oA bA oh sQ Oy iD fP HR HP HG
   generalize Q7:(w4.alloc (.cells #[.int .i64 5,.int .i64 ((first:Int)+(k:Int)),.int .i64 0,str (fJ v k)] 252))=W5 at *
   go_wp2_with (at_builtin;refine iK _ rfl _ _ 100 9 rfl 5 i0 Tryz.underlying100 Tryz.underlying9 hi hz0 hz1 hz2 _ _ _ rfl eG ⟨(fJ v k).toArray⟩ rfl (by unfold maxLen;simp [ByteArray.size];omega) (by simp [ByteArray.size];omega) ?_;intro a' c' wa hown2 hgr hmv;have HX:=Lib.hid (And.intro hown2 (And.intro hgr hmv));clear hown2 hgr hmv)
   all_goals
    go_roundg (bW v.length-(k+1))
    case measure=>omega
    case rel=>
     obtain⟨hown2,hgr,hmv⟩:=HX.out
     obtain⟨eG,oh,sQ,Oy⟩:=HB.out
     rw [HT.out] at hown2
     have hq:Only (fun j=>(Value.slice aO n0 cO).ownBlock=some j) W5 wa:=(Only.refl _ W5).grown hgr (fun _ _ h=>h)
     have hbk:(Value.slice aO n0 cO).ownBlock≠some b:=fun e=>(Oy b e).2 (.inl rfl)
     have hpn:∀j,bn wa b j↔bn W5 b j:=aD (hq.block b oh.lt hbk)
     have hl2:(v.take ((k+1) * 232)).length=n0+(fJ v k).length:=by rw [←sP,List.length_append,Tv.out]
     refine⟨k+1,by omega,by go_num,?_,?_,?_,fun j hj=>?_⟩
     ·rw [hl2,←sP]
      simpa [Bf,ByteArray.size] using hown2
     ·obtain⟨vL,vG,hI⟩:=oh
      exact⟨vL,vG,hI.beside hq (fun j q e=>(Oy j e).2 q)⟩
     ·exact sQ.fresh H0.out.lt hq (fun j e=>(Oy j e).1)
     ·have hsz:=sQ.only.size
      rcases hmv j (by simpa [ByteArray.size] using hj) with q | q
      ·exact⟨(Oy j q).1,fun z=>(Oy j q).2 ((hpn j).1 z)⟩
      ·refine⟨by omega,fun z=>?_⟩
       have:=bM oh ((hpn j).1 z)
       omega
  ·have hk2:k=bW v.length:=by omega
   have hk1:¬(k:Int)<(bW v.length:Int):=by omega
   have htk:v.take (k * 232)=v:=by rw [hk2];exact zX v
   have hC:∀W,W=wr→(convert 100 9 (.slice aO n0 cO)).run Tryz.prog W=.ok (str v) W:=fun W e=>by
    rw [e]
    rw [htk] at hown
    refine xU wr _ v ?_
    have:n0=v.length:=by rw [←Tv.out,htk]
    rw [this] at hown ⊢
    exact hown
   have hC2:=hC wr rfl
   have HF:=Lib.hid (And.intro hp hst)
   clear hown hfr hp hst hC htk
   go_wp2_with fail
   go_ret2
   exact⟨rfl,HF.out⟩
end
section
open Go.RowKit Go.MuLone
theorem MU (w:World) (b:Nat) (S:aW) (x:Item) (v:Bytes) (h:aA w b S) (hs:S.stop<0) (hx:Sem S.L x v) :
 Calls Tryz.prog 101 #[aF b,EO x] w fun e w'=>e=.returned (.tuple #[str v,.int .i64 0])∧aA w' b S∧aB b w w':=by
 have o1:=(Only.refl (fun _=>False) w).alloc (.cells #[str x.key,str x.val,.int .i64 x.kind] 131)
 have h1:=h.still o1
 have st1:=aB.still h.lt o1
 have bA:=dw w (.cells #[str x.key,str x.val,.int .i64 x.kind] 131)
 have c1:=aj bA 1
 have c2:=aj bA 2
 simp only [List.getElem?_toArray,List.getElem?_cons_zero,List.getElem?_cons_succ] at c1 c2
 have hnp:=(bG.new h (.cells #[str x.key,str x.val,.int .i64 x.kind] 131)).not
 clear bA o1 h
 unfold EO
 cases hx with
 | plain k v hv=>
  have HH:=Lib.hid (And.intro h1 st1)
  clear h1 st1 hv hnp
  unfold aF
  go_enter Tryz.func101,Tryz.ntmps101
  go_wp2_with fail
  go_ret2
  exact⟨rfl,HH.out⟩
 | far k v first hv hf hL=>
  have HN:Hid (∀W W':World,(W.cell? ⟨w.heap.size,1,none⟩=some (str (gD first v.length))∧Hid (aA W b S∧aB b w W∧¬bn W b w.heap.size))→aB b W W'→aA W' b S→(W'.cell? ⟨w.heap.size,1,none⟩=some (str (gD first v.length))∧Hid (aA W' b S∧aB b w W'∧¬bn W' b w.heap.size))):=Lib.hid (fun W W' h st hp=>⟨(st.only.cell (p:=⟨w.heap.size,1,none⟩) (lt_of_cell h.1) h.2.out.2.2).trans h.1,Lib.hid ⟨hp,h.2.out.2.1.trans st,fun q=>(st.own _ q).elim h.2.out.2.2 (fun q=>by have:w.heap.size<W.heap.size:=lt_of_cell h.1;omega)⟩⟩)
  have HR:=Lib.hid (fun W (h:W.cell? ⟨w.heap.size,1,none⟩=some (str (gD first v.length))∧Hid (aA W b S∧aB b w W∧¬bn W b w.heap.size))=>Ic W b S first v h.2.out.1 hs hf hv.2 hL)
  have H1:Hid (aA (w.alloc (.cells #[str k,str (gD first v.length),.int .i64 1] 131)) b S∧aB b w (w.alloc (.cells #[str k,str (gD first v.length),.int .i64 1] 131))∧¬bn (w.alloc (.cells #[str k,str (gD first v.length),.int .i64 1] 131)) b w.heap.size):=Lib.hid ⟨h1,st1,hnp⟩
  unfold Pn at HR
  clear h1 st1 hv hf hL hnp
  unfold aF at *
  go_enter Tryz.func101,Tryz.ntmps101
  go_wp2_with fail
  generalize hW1:w.alloc (.cells #[str k,str (gD first v.length),.int .i64 1] 131)=W1 at *
  go_region_held3 (fun w'=>w'.cell? ⟨w.heap.size,1,none⟩=some (str (gD first v.length))∧Hid (aA w' b S∧aB b w w'∧¬bn w' b w.heap.size)) (first | exact⟨c1,H1⟩ | exact HN.out _ _ ⟨c1,H1⟩ (aB.still H1.out.1.lt (Only.refl _ _).drew) (H1.out.1.still (Only.refl _ _).drew) | exact HN.out _ _ (by assumption) jR hp3) (first |((with_reducible refine(HR.out _ ?hh).mono ?_);(case hh=>assumption);rintro _ w3 ⟨rfl,hp3,jR⟩))
  rename_i hH
  have HE:=Lib.hid (And.intro hH.2.out.1 hH.2.out.2.1)
  clear hH jR hp3 HR HN H1
  go_wp2_with fail
  go_ret2
  exact⟨rfl,HE.out⟩
inductive Ie (L:List Node) (l:List Item) (key:Bytes):Bytes→Bool→Int→Prop
 | bad (h:cu key=false):Ie L l key [] false 1
 | none (hw:cu key=true) (h:aS l key=none):Ie L l key [] false 0
 | kind (x:Item) (hw:cu key=true) (h:aS l key=some x) (hk:x.kind=2):Ie L l key [] false 21
 | some (x:Item) (v:Bytes) (hw:cu key=true) (h:aS l key=some x) (hv:Sem L x v):Ie L l key v true 0
def J4 (w:World) (b:Nat) (S:aW) (l:List Item) (key:Bytes):Ending→World→Prop:=fun e w'=>∃v ok er,e=.returned (.tuple #[str v,.bool ok,.int .i64 er])∧Ie S.L l key v ok er∧aA w' b S∧aB b w w'
theorem uq {l:List Item} {k:Bytes} {x:Item} (h:aS l k=Option.some x):x∈l∧x.key=k:=by
 unfold aS at h
 split at h
 ·rename_i y r hb
  split at h
  ·rename_i hk
   cases h
   refine⟨(List.dropWhile_suffix _).subset (?_:x∈behind l k),hk⟩
   rw [hb]
   simp
  ·cases h
 ·cases h
theorem Sem.Q8 {L:List Node} {x:Item} {v:Bytes} (h:Sem L x v):x.kind=0∨x.kind=1:=by
 cases h
 ·exact .inl rfl
 ·exact .inr rfl
theorem J5 (w:World) (b:Nat) (S:aW) (root seq:Int) (key:Bytes) (h:aA w b S) (hkl:key.length≤1000000) (hwd:cu key=false) :
 Calls Tryz.prog 27 #[aF b,aY root seq,str key] w fun e w'=>e=.returned (.tuple #[str [],.bool false,.int .i64 1])∧aA w' b S∧aB b w w':=by
 have o1:=(Only.refl (fun _=>False) w).alloc (.cells #[.int .i64 root,.int .i64 seq] 23)
 have h1:=h.still o1
 have st1:=aB.still h.lt o1
 have bA:=dw w (.cells #[.int .i64 root,.int .i64 seq] 23)
 have a0:=aj bA 0
 have a1:=aj bA 1
 simp only [List.getElem?_toArray,List.getElem?_cons_zero,List.getElem?_cons_succ] at a0 a1
 have HI:=Lib.hid (CW _ b S root seq key h1 hkl hwd)
 have HS:=Lib.hid st1
 clear bA o1 h1 st1 h
 unfold aF at *
 unfold aY at *
 go_enter Tryz.func27,Tryz.ntmps27
 go_wp2_with fail
 generalize (w.alloc (.cells #[.int .i64 root,.int .i64 seq] 23))=W at *
 (with_reducible refine HI.out.mono ?_)
 rintro e w2 ⟨rfl,hp2,st2⟩
 have A3:=bG.new hp2 (.cells #[str [],str [],.int .i64 0] 131)
 have o3:=(Only.refl (fun _=>False) w2).alloc (.cells #[str [],str [],.int .i64 0] 131)
 have HF:=Lib.hid (And.intro (hp2.still o3) ((HS.out.trans st2).trans (aB.still hp2.lt o3)))
 have c0:=aj A3.at_ 0
 have c1:=aj A3.at_ 1
 have c2:=aj A3.at_ 2
 simp only [List.getElem?_toArray,List.getElem?_cons_zero,List.getElem?_cons_succ] at c0 c1 c2
 clear A3 o3 hp2 st2 HS HI a0 a1
 go_wp2_with fail
 go_ret3
 exact⟨rfl,HF.out⟩
theorem Ig (w:World) (b:Nat) (S:aW) (root seq:Int) (l:List Item) (ids:List Int) (key:Bytes) (h:aA w b S) (hkl:key.length≤1000000) (R:bq S.L root l ids) (hs:S.stop<0) (qw:l.length<2 ^ 11) (hwd:cu key=true) (hx:aS l key=none) :
 Calls Tryz.prog 27 #[aF b,aY root seq,str key] w fun e w'=>e=.returned (.tuple #[str [],.bool false,.int .i64 0])∧aA w' b S∧aB b w w':=by
 have o1:=(Only.refl (fun _=>False) w).alloc (.cells #[.int .i64 root,.int .i64 seq] 23)
 have h1:=h.still o1
 have st1:=aB.still h.lt o1
 have bA:=dw w (.cells #[.int .i64 root,.int .i64 seq] 23)
 have a0:=aj bA 0
 have a1:=aj bA 1
 simp only [List.getElem?_toArray,List.getElem?_cons_zero,List.getElem?_cons_succ] at a0 a1
 have HI:=Lib.hid (ji _ b S root seq l ids key h1 R hs qw hkl hwd)
 unfold gH at HI
 rw [hx] at HI
 unfold iG at HI
 have HS:=Lib.hid st1
 clear hx
 clear bA o1 h1 st1 h R
 unfold aF at *
 unfold aY at *
 go_enter Tryz.func27,Tryz.ntmps27
 go_wp2_with fail
 generalize (w.alloc (.cells #[.int .i64 root,.int .i64 seq] 23))=W at *
 (with_reducible refine HI.out.mono ?_)
 rintro e w2 ⟨rfl,hp2,st2⟩
 have A3:=bG.new hp2 (.cells #[str [],str [],.int .i64 0] 131)
 have o3:=(Only.refl (fun _=>False) w2).alloc (.cells #[str [],str [],.int .i64 0] 131)
 have HF:=Lib.hid (And.intro (hp2.still o3) ((HS.out.trans st2).trans (aB.still hp2.lt o3)))
 have c0:=aj A3.at_ 0
 have c1:=aj A3.at_ 1
 have c2:=aj A3.at_ 2
 simp only [List.getElem?_toArray,List.getElem?_cons_zero,List.getElem?_cons_succ] at c0 c1 c2
 clear A3 o3 hp2 st2 HS HI a0 a1
 go_wp2_with fail
 go_ret3
 exact⟨rfl,HF.out⟩
theorem Ih (w:World) (b:Nat) (S:aW) (root seq:Int) (l:List Item) (ids:List Int) (key:Bytes) (x:Item) (h:aA w b S) (hkl:key.length≤1000000) (R:bq S.L root l ids) (hs:S.stop<0) (qw:l.length<2 ^ 11) (hwd:cu key=true) (hx:aS l key=some x) (hx2:x.kind=2) :
 Calls Tryz.prog 27 #[aF b,aY root seq,str key] w fun e w'=>e=.returned (.tuple #[str [],.bool false,.int .i64 21])∧aA w' b S∧aB b w w':=by
 have o1:=(Only.refl (fun _=>False) w).alloc (.cells #[.int .i64 root,.int .i64 seq] 23)
 have h1:=h.still o1
 have st1:=aB.still h.lt o1
 have bA:=dw w (.cells #[.int .i64 root,.int .i64 seq] 23)
 have a0:=aj bA 0
 have a1:=aj bA 1
 simp only [List.getElem?_toArray,List.getElem?_cons_zero,List.getElem?_cons_succ] at a0 a1
 obtain⟨xk,xv,xd⟩:=x
 have hx2:xd=2:=hx2
 subst hx2
 have HI:=Lib.hid (ji _ b S root seq l ids key h1 R hs qw hkl hwd)
 unfold gH at HI
 rw [hx] at HI
 unfold iG iA aJ at HI
 have HS:=Lib.hid st1
 clear hx
 clear bA o1 h1 st1 h R
 unfold aF at *
 unfold aY at *
 go_enter Tryz.func27,Tryz.ntmps27
 go_wp2_with fail
 generalize (w.alloc (.cells #[.int .i64 root,.int .i64 seq] 23))=W at *
 (with_reducible refine HI.out.mono ?_)
 rintro e w2 ⟨rfl,hp2,st2⟩
 have A3:=bG.new hp2 (.cells #[str xk,str xv,.int .i64 2] 131)
 have o3:=(Only.refl (fun _=>False) w2).alloc (.cells #[str xk,str xv,.int .i64 2] 131)
 have HF:=Lib.hid (And.intro (hp2.still o3) ((HS.out.trans st2).trans (aB.still hp2.lt o3)))
 have c0:=aj A3.at_ 0
 have c1:=aj A3.at_ 1
 have c2:=aj A3.at_ 2
 simp only [List.getElem?_toArray,List.getElem?_cons_zero,List.getElem?_cons_succ] at c0 c1 c2
 clear A3 o3 hp2 st2 HS HI a0 a1
 go_wp2_with fail
 go_ret3
 exact⟨rfl,HF.out⟩
theorem zV (w:World) (b:Nat) (S:aW) (root seq:Int) (l:List Item) (ids:List Int) (key:Bytes) (x:Item) (v:Bytes) (h:aA w b S) (hkl:key.length≤1000000) (R:bq S.L root l ids) (hs:S.stop<0) (qw:l.length<2 ^ 11) (hwd:cu key=true) (hx:aS l key=some x) (hv:Sem S.L x v) :
 Calls Tryz.prog 27 #[aF b,aY root seq,str key] w fun e w'=>e=.returned (.tuple #[str v,.bool true,.int .i64 0])∧aA w' b S∧aB b w w':=by
 have o1:=(Only.refl (fun _=>False) w).alloc (.cells #[.int .i64 root,.int .i64 seq] 23)
 have h1:=h.still o1
 have st1:=aB.still h.lt o1
 have bA:=dw w (.cells #[.int .i64 root,.int .i64 seq] 23)
 have a0:=aj bA 0
 have a1:=aj bA 1
 simp only [List.getElem?_toArray,List.getElem?_cons_zero,List.getElem?_cons_succ] at a0 a1
 have HI:=Lib.hid (ji _ b S root seq l ids key h1 R hs qw hkl hwd)
 unfold gH at HI
 rw [hx] at HI
 unfold iG iA aJ at HI
 have HS:=Lib.hid st1
 clear hx
 have HV:=Lib.hid (fun W hp=>MU W b S x v hp hs hv)
 have hk3:(x.kind == 2)=false:=by rcases hv.Q8 with q | q<;>rw [q]<;>rfl
 clear hv
 unfold EO at HV
 clear bA o1 h1 st1 h R
 unfold aF at *
 unfold aY at *
 go_enter Tryz.func27,Tryz.ntmps27
 go_wp2_with fail
 generalize (w.alloc (.cells #[.int .i64 root,.int .i64 seq] 23))=W at *
 (with_reducible refine HI.out.mono ?_)
 rintro e w2 ⟨rfl,hp2,st2⟩
 have A3:=bG.new hp2 (.cells #[str x.key,str x.val,.int .i64 x.kind] 131)
 have o3:=(Only.refl (fun _=>False) w2).alloc (.cells #[str x.key,str x.val,.int .i64 x.kind] 131)
 have HF:=Lib.hid (And.intro (hp2.still o3) ((HS.out.trans st2).trans (aB.still hp2.lt o3)))
 have c0:=aj A3.at_ 0
 have c1:=aj A3.at_ 1
 have c2:=aj A3.at_ 2
 simp only [List.getElem?_toArray,List.getElem?_cons_zero,List.getElem?_cons_succ] at c0 c1 c2
 clear A3 o3 hp2 st2 HS HI a0 a1
 go_wp2_with fail
 (with_reducible refine(HV.out _ HF.out.1).mono ?_)
 rintro e w4 ⟨rfl,iD,fP⟩
 have HG:=Lib.hid (And.intro iD (HF.out.2.trans fP))
 clear iD fP HF HV c0 c1 c2
 go_wp2_with fail
 go_ret3
 exact⟨rfl,HG.out⟩
theorem MV (w:World) (b:Nat) (S:aW) (root seq:Int) (l:List Item) (ids:List Int) (key:Bytes) (h:aA w b S) (hkl:key.length≤1000000) (R:bq S.L root l ids) (hs:S.stop<0) (qw:l.length<2 ^ 11) (hv:∀x∈l,x.kind=2∨∃v,Sem S.L x v) :
 Calls Tryz.prog 27 #[aF b,aY root seq,str key] w (J4 w b S l key):=by
 cases hw:cu key with
 | false=>exact(J5 w b S root seq key h hkl hw).mono fun e w' q=>⟨_,_,_,q.1,.bad hw,q.2⟩
 | true=>
  cases hx:aS l key with
  | none=>exact(Ig w b S root seq l ids key h hkl R hs qw hw hx).mono fun e w' q=>⟨_,_,_,q.1,.none hw hx,q.2⟩
  | some x=>
   rcases hv x (uq hx).1 with h2 |⟨v,hv⟩
   ·exact(Ih w b S root seq l ids key x h hkl R hs qw hw hx h2).mono fun e w' q=>⟨_,_,_,q.1,.kind x hw hx h2,q.2⟩
   ·exact(zV w b S root seq l ids key x v h hkl R hs qw hw hx hv).mono fun e w' q=>⟨_,_,_,q.1,.some x v hw hx hv,q.2⟩
end
end Go.Proofs.YtbhiamcmiopnoaaGreatDoor
