/- Buckets within buckets, act by act: how many pages, how many items there may be. Conditions: at most sixty acts, values of 30000 bytes together. -/
import Derived.Test.YtbhiamcmiopnoaaGreatDoorZBu22
import Derived.Test.YtbhiamcmiopnoaaGreatDoorZOpL
import Derived.Test.YtbhiamcmiopnoaaGreatDoorZBuG
namespace Go.Proofs.YtbhiamcmiopnoaaGreatDoor
section
open Go.RowKit
def jQ (n:Nat):Nat:=if n=0 then 0 else n.log2+1
theorem LB (n:Nat):n<2 ^ jQ n:=by
 unfold jQ
 split
 ·omega
 ·exact Nat.lt_log2_self
def pU:Nat→Nat
 | 0=>0
 | i+1=>pU i+5 * (2+2 * jQ (i+1))
theorem Ja:∀i,i<61→pU i+30+6 * (2+2 * jQ (i+1))+190≤3998∧jQ (i+1)≤11:=by decide +kernel
theorem H8:∀i,i<62→pU i+30+6 * (2+2 * jQ (i+1))+192≤3998+38∧jQ (i+1)≤11:=by decide +kernel
theorem Jb:∀i,i<62→pU i+191≤3900:=by decide +kernel
theorem y9 (v:Bytes):(dN v).length≤v.length / 232+1:=by
 unfold dN parts
 split
 ·simp
 ·simp only [List.length_map,List.length_range]
  unfold bW
  split<;>omega
structure Goes (c i V:Nat) (S:aW) (R:Path→Option Rec) (r0:Rec):Prop where
 held:Held S R [] []
 at_:R []=some r0
 full:Full S R
 len:S.L.length+c≤pU i+i+V / 232
 given:S.given.length≤4200 * i
 few:∀p r,R p=some r→r.l.length≤i∧r.seq≤(i:Int)
theorem LC (i:Nat):pU i≤pU (i+1):=by
 rw [pU]
 omega
theorem Goes.skip {c i V:Nat} {S:aW} {R:Path→Option Rec} {r0:Rec} (h:Goes c i V S R r0) (u:Nat):Goes c (i+1) (V+u) S R r0:=
 ⟨h.held,h.at_,h.full,by have:=h.len;have:=LC i;have:V / 232≤(V+u) / 232:=Nat.div_le_div_right (by omega);omega,by have:=h.given;omega,fun p r hp=>by have:=h.few p r hp;omega⟩
def Cm:Path→Option Rec:=fun q=>if q=[] then some fH else none
theorem Goes.start:Goes 0 0 0 dA Cm fH:=by
 have h1:∀p r,Cm p=some r→p=[]∧r=fH:=fun p r h=>by
  unfold Cm at h
  split at h
  ·cases h
   exact⟨by assumption,rfl⟩
  ·cases h
 refine⟨⟨⟨fun p r h=>?_,⟨fH,rfl⟩,fun p r x h hx=>?_,fun p k r h=>?_,fun p r x h hx=>?_,fun p r h=>?_,fun p q r r' hne hp hq=>?_⟩,fun p r h _ j hj=>?_,(fun j hj=>by cases hj),rfl,rfl,rfl,List.nodup_nil⟩,rfl,fun j h2 h3=>?_,Nat.zero_le _,Nat.zero_le _,fun p r h=>?_⟩
 ·obtain⟨rfl,rfl⟩:=h1 p r h
  exact⟨.none,by decide,by decide,by decide⟩
 ·obtain⟨rfl,rfl⟩:=h1 p r h
  cases hx
 ·have:=(h1 _ r h).1
  simp at this
 ·obtain⟨rfl,rfl⟩:=h1 p r h
  cases hx
 ·obtain⟨rfl,rfl⟩:=h1 p r h
  simp
 ·exact absurd ((h1 p r hp).1.trans (h1 q r' hq).1.symm) hne
 ·obtain⟨rfl,rfl⟩:=h1 p r h
  cases hj
 ·simp [dA] at h3
  omega
 ·obtain⟨rfl,rfl⟩:=h1 p r h
  exact⟨Nat.le_refl _,by decide⟩
theorem kC.NT {m i:Nat} {S:aW} {R:Path→Option Rec} {p:Path} {r:Rec} {kind:Int} {key val:Bytes} {S1:aW} {R1:Path→Option Rec} {r1:Rec} (h:kC m S R p r kind key val S1 R1 r1) (hp:R p=some r) (hf:∀p r,R p=some r→r.l.length≤i∧r.seq≤(i:Int)):∀q rq,R1 q=some rq→rq.l.length≤i+1∧rq.seq≤((i+1:Nat):Int):=by
 intro q rq hq
 have h0:=hf p r hp
 by_cases Jc:q=p
 ·subst Jc
  rw [h.at_] at hq
  cases hq
  refine⟨?_,by rw [h.seq];split<;>omega⟩
  by_cases k1:kind=1
  ·rw [(h.put k1).1];have:=jD r.l (dG S key val);omega
  by_cases k2:kind=2
  ·rw [h.del k2];have:=kZ r.l key;omega
  by_cases k3:kind=3
  ·rw [(h.made k3).1];have:=jD r.l (gT key fH);omega
  by_cases k4:kind=4
  ·rw [(h.gone k4).1];have:=kZ r.l key;omega
  rw [h.none k1 k2 k3 k4];omega
 ·have old:R q=some rq→rq.l.length≤i+1∧rq.seq≤((i+1:Nat):Int):=fun hq=>by
   have:=hf q rq hq
   omega
  by_cases hst:¬(p++[key] <+: q)∨kind≠3∧kind≠4
  ·rw [h.stay q Jc hst] at hq
   exact old hq
  ·have hpre:p++[key] <+: q:=Classical.byContradiction fun z=>hst (.inl z)
   by_cases k3:kind=3
   ·by_cases hqk:q=p++[key]
    ·subst hqk
     rw [(h.made k3).2.1] at hq
     cases hq
     exact⟨Nat.zero_le _,by show (0:Int)≤_;omega⟩
    ·rw [(h.made k3).2.2 q Jc hqk] at hq
     exact old hq
   ·have k4:kind=4:=Classical.byContradiction fun z=>hst (.inr ⟨k3,z⟩)
    rw [(h.gone k4).2 q hpre] at hq
    cases hq
theorem LD {L L':List Node} {R R':Path→Option Rec} {q:Path} {r':Rec} (h:View L' R' q=View L R q) (hq:R' q=some r'):∃r,R q=some r∧r'.l.length=r.l.length∧r'.seq=r.seq:=by
 unfold View at h
 rw [hq] at h
 cases hr:R q with
 | none=>rw [hr] at h;cases h
 | some r=>
  rw [hr] at h
  simp only [Option.map_some,Option.some.injEq,Prod.mk.injEq] at h
  have:=congrArg List.length h.2
  simp only [List.length_map] at this
  exact⟨r,rfl,this,h.1⟩
theorem Goes.act {c i V:Nat} {S S':aW} {R R':Path→Option Rec} {r0 r':Rec} {kind:Int} {path key val:Bytes} (h:Goes c i V S R r0) (A:AA (jQ (i+1)) S R kind path key val S' R' r') (hl:S.L.length≤3998):Goes c (i+1) (V+val.length) S' R' r':=by
 obtain⟨r,S1,R1,r1,hr,hfe,hact,OP,ST⟩:=A.ex
 have hn:=bk.AB path
 have hmul:(bk.gM path).length * (2+2 * jQ (i+1))≤4 * (2+2 * jQ (i+1)):=Nat.mul_le_mul_right _ hn
 have hcs:(if kind=1 then (dN val).length else 0)≤val.length / 232+1:=by
  split
  ·exact y9 val
  ·omega
 have hdiv:V / 232+val.length / 232≤(V+val.length) / 232:=by
  rw [Nat.le_div_iff_mul_le (by omega),Nat.add_mul]
  have:=Nat.div_mul_le_self V 232
  have:=Nat.div_mul_le_self val.length 232
  omega
 refine⟨ST.held,ST.at_,ST.full (OP.full h.full),?_,?_,fun p rq hq=>?_⟩
 ·have:=ST.len
  have:=OP.len
  have:=h.len
  rw [pU]
  omega
 ·have:=ST.given
  have:=OP.given
  have:=h.given
  have:(bk.gM path).length * 33≤4 * 33:=Nat.mul_le_mul_right _ hn
  omega
 ·obtain⟨X6,h1,h2,h3⟩:=LD (ST.same p) hq
  have:=OP.NT hr h.few p X6 h1
  rw [h2,h3]
  exact this
theorem Goes.wants {c i V:Nat} {S:aW} {R:Path→Option Rec} {r0:Rec} (h:Goes c i V S R r0) (hi:i<62) (hr:pU i+30+6 * (2+2 * jQ (i+1))+(i+V / 232)≤3998+c∧jQ (i+1)≤11) :
 jQ (i+1)≤11∧(∀p r,R p=some r→r.l.length+1<2 ^ jQ (i+1))∧(∀p r,R p=some r→r.seq+1≤1000000)∧S.L.length+30+6 * (2+2 * jQ (i+1))≤3998∧S.given.length≤900000:=by
 have h2:=LB (i+1)
 refine⟨hr.2,fun p r hp=>?_,fun p r hp=>?_,?_,?_⟩
 ·have:=h.few p r hp
  omega
 ·have:=h.few p r hp
  omega
 ·have:=h.len
  omega
 ·have:=h.given
  omega
end
section
open Go.RowKit
theorem kC.view {m:Nat} {S:aW} {R:Path→Option Rec} {p:Path} {r:Rec} {kind:Int} {key val:Bytes} {S1:aW} {R1:Path→Option Rec} {r1:Rec} (h:kC m S R p r kind key val S1 R1 r1) (H:Held S R [] []) (hp:R p=some r) {q:Path} (hq:q≠p) (hs:¬(p++[key] <+: q)∨kind≠3∧kind≠4):View S1.L R1 q=View S.L R q:=by
 have h1:=H.AJ hp hq h.other
 unfold View at h1 ⊢
 rw [h.stay q hq hs]
 exact h1
theorem AA.view {m:Nat} {S:aW} {R:Path→Option Rec} {kind:Int} {path key val:Bytes} {S':aW} {R':Path→Option Rec} {r':Rec} (A:AA m S R kind path key val S' R' r') (H:Held S R [] []) {q:Path} (hq:¬bk.gM path <+: q):View S'.L R' q=View S.L R q:=by
 obtain⟨r,S1,R1,r1,hr,hfe,hact,OP,ST⟩:=A.ex
 rw [ST.same q]
 exact OP.view H hr (fun e=>hq (by rw [e];exact List.prefix_refl _)) (.inl fun z=>hq ((List.prefix_append _ _).trans z))
theorem FY {s:Bytes} (h:bk.nY s=0) (hne:s≠[]):bk.gM s≠[]:=by
 unfold bk.nY at h
 unfold bk.gM
 split at h
 ·rename_i h1
  rw [if_pos ⟨hne,h1.resolve_left hne⟩]
  exact Hr s
 ·cases h
theorem za:∀(A B:List Int),A.Nodup→(∀j∈A,j∈B)→A.length≤B.length
 | [],B,_,_=>Nat.zero_le _
 | a :: A,B,hn,hs=>by
  have ha:=hs a (by simp)
  have h1:=za A (B.erase a) (List.nodup_cons.1 hn).2 fun j hj=>by
   have hne:j≠a:=fun e=>(List.nodup_cons.1 hn).1 (by rw [←e];exact hj)
   exact(List.mem_erase_of_ne hne).2 (hs j (by simp [hj]))
  rw [List.length_erase_of_mem ha] at h1
  have:=List.length_pos_of_mem ha
  rw [List.length_cons]
  omega
theorem Jd {S:aW} {R:Path→Option Rec} (H:Held S R [] []) (F:Full S R) (hno:∀q r,R q=some r→r.own=[]):S.given.length=S.L.length:=by
 have h1:=nZ S.L.length S.given H.nodup fun j hj=>by have:=H.there j hj;omega
 have h2:=za ((List.range S.L.length).map fun k=>((k+2:Nat):Int)) S.given (List.Pairwise.map _ (fun a b hab e=>hab (by omega)) List.nodup_range) fun j hj=>by
  obtain⟨k,hk,rfl⟩:=List.mem_map.1 hj
  have hk2:=List.mem_range.1 hk
  rcases F ((k+2:Nat):Int) (by omega) (by omega) with ⟨q,r,hq,hj⟩ | h
  ·rw [hno q r hq] at hj
   cases hj
  ·exact h
 simp at h2
 omega
def og (L:List Node) (R:Path→Option Rec):Prop:=View L R []=some (0,[([120],none)])
theorem og.item {L:List Node} {R:Path→Option Rec} {r:Rec} (h:og L R) (hr:R []=some r):r.seq=0∧∃x,r.l=[x]∧x.key=[120]∧x.kind=2:=by
 unfold og View at h
 rw [hr] at h
 simp only [Option.map_some,Option.some.injEq,Prod.mk.injEq] at h
 obtain⟨h1,h2⟩:=h
 refine⟨h1,?_⟩
 match hl:r.l with
 | []=>rw [hl] at h2;cases h2
 | [x]=>
  rw [hl] at h2
  simp only [List.map_cons,List.map_nil,List.cons.injEq,and_true,vw,Prod.mk.injEq] at h2
  refine⟨x,rfl,h2.1,?_⟩
  by_cases hk:x.kind=2
  ·exact hk
  ·rw [if_neg hk] at h2
   cases h2.2
 | x :: y :: l=>rw [hl] at h2;simp at h2
theorem LG {x:Item} {l:List Item} (hl:l=[x]):aS l x.key=some x:=by
 subst hl
 have h:decide (Keyed.key x<x.key)=false:=decide_eq_false (List.lt_irrefl _)
 unfold aS behind
 simp [List.dropWhile,h]
theorem og.one {L:List Node} {R:Path→Option Rec} {r:Rec} (h:og L R) (hr:R []=some r):mq r.l [120]=0:=by
 obtain⟨_,x,hl,hk,h2⟩:=h.item hr
 have hf:=LG hl
 rw [hk] at hf
 unfold mq
 rw [if_neg (by decide +kernel),hf]
 simp [h2]
theorem Held.alone {S:aW} {R:Path→Option Rec} {r:Rec} (H:Held S R [] []) (hr:R []=some r) (hl:r.l=[]):∀q rq,R q=some rq→q=[]:=by
 intro q rq hq
 cases q with
 | nil=>rfl
 | cons k q=>
  obtain⟨r1,h1⟩:=H.prefix q.length (k :: q) rq (p:=[k]) (by simp;omega) hq ⟨q,rfl⟩
  obtain⟨r0,x,h2,h3,_⟩:=H.dh.up [] k r1 h1 (by simp)
  rw [hr] at h2
  cases h2
  rw [hl] at h3
  cases h3
structure Bare (S:aW) (R:Path→Option Rec) (r:Rec):Prop where
 held:Held S R [] []
 at_:R []=some r
 l:r.l=[]
 root:r.root=0
 seq:r.seq=0
 alone:∀q rq,R q=some rq→q=[]
 own:r.own=[]
 given:S.given.length=S.L.length
theorem Dropped.last {m:Nat} {S:aW} {R:Path→Option Rec} {r:Rec} {S2:aW} {r2:Rec} (D:Dropped m S R [] r [120] S2 r2) (hx:og S.L R) (hr:R []=some r) (F:Full S R) :
 ∃R2:Path→Option Rec,Bare S2 R2 r2:=by
 have hat:(_root_.Go.Proofs.YtbhiamcmiopnoaaGreatDoor.prune (upd R [] r2) ([]++[[120]])) []=some r2:=nT iF (bV _ _ _)
 have hl:r2.l=[]:=by
  obtain⟨_,x,hl,hk,h2⟩:=hx.item hr
  rw [D.l,hl,←hk]
  have h:decide (Keyed.key x<x.key)=false:=decide_eq_false (List.lt_irrefl _)
  unfold bU behind ahead
  simp [List.dropWhile,List.takeWhile,h]
 have ht:=(D.held.dh.tree [] r2 hat).1
 rw [hl] at ht
 have hz:r2.root=0∧r2.ids=[]:=⟨ht.zero.2 rfl,List.eq_nil_of_length_eq_zero (by have:=ht.many;simpa using this)⟩
 have hal:=D.held.alone hat hl
 have hno:∀q rq,(_root_.Go.Proofs.YtbhiamcmiopnoaaGreatDoor.prune (upd R [] r2) ([]++[[120]])) q=some rq→rq.own=[]:=fun q rq hq=>by
  have:=hal q rq hq
  subst this
  rw [hat] at hq
  cases hq
  unfold Rec.own
  rw [hl,hz.2]
  rfl
 exact⟨_,D.held,hat,hl,hz.1,by rw [D.seq];exact(hx.item hr).1,hal,hno [] r2 hat,Jd D.held (D.full F) hno⟩
end
section
open Go.RowKit Go.MuLone
def mE (p:Bytes):Bytes:=if p=[] then [120] else [120,47]++p
theorem LH (p:Bytes):mE p≠[]:=by
 unfold mE
 split<;>simp
theorem Je (p:Bytes):(mE p).length≤p.length+2:=by
 unfold mE
 split<;>simp
def JQ (w:World) (b c i V:Nat) (S:aW) (R:Path→Option Rec) (r0:Rec):Ending→World→Prop:=fun e w'=>∃(er root seq:Int) (S':aW) (R':Path→Option Rec) (r':Rec),e=.returned (.tuple #[aY root seq,.int .i64 er])∧
 ((er≠0∧Goes c (i+1) V S' R' r'∧r'=r0)∨(er=0∧Goes c (i+1) V S' R' r'∧root=r'.root∧seq=r'.seq))∧View S'.L R' []=View S.L R []∧aA w' b S'∧aB b w w'
theorem Ox (w:World) (b c i V:Nat) (S:aW) (R:Path→Option Rec) (r0:Rec) (kind:Int) (path key val:Bytes) (hM:kT w) (h:aA w b S) (G:Goes c i V S R r0) (hi:i<62) (hr:pU i+30+6 * (2+2 * jQ (i+1))+(i+V / 232)≤3998+c∧jQ (i+1)≤11) (hpl:path.length≤20) (hkl:key.length≤1000000) :
 Calls Tryz.prog 20 #[aF b,aY r0.root r0.seq,.agg #[.int .i64 kind,str (mE path),str key,str val]] w (JQ w b c i (V+val.length) S R r0):=by
 have hw:=G.wants hi hr
 have hx:=Je path
 refine(Qh w b (jQ (i+1)) S R r0 kind (mE path) key val hM h G.held G.at_ hw.1 hw.2.1 hw.2.2.1 (by omega) hkl hw.2.2.2.1 hw.2.2.2.2).mono fun e w' q=>?_
 rcases q with ⟨er,q1,q2,q3,q4,q5⟩ |⟨S',R',r',q1,q2,q3,q4,q5⟩
 ·exact⟨er,_,_,S,R,r0,q3,.inl ⟨q1,G.skip _,rfl⟩,rfl,q4,q5⟩
 ·refine⟨0,_,_,S',R',r',q2,.inr ⟨rfl,G.act q3 (by omega),rfl,rfl⟩,q3.view G.held fun z=>?_,q4,q5⟩
  exact FY q3.pe (LH path) (List.prefix_nil.1 z)
theorem kC.LJ {m:Nat} {S:aW} {R:Path→Option Rec} {r:Rec} {v:Bytes} {S1:aW} {R1:Path→Option Rec} {r1:Rec} (h:kC m S R [] r 3 [120] v S1 R1 r1) (hl:r.l=[]) (hs:r.seq=0):og S1.L R1:=by
 have h1:=(h.made rfl).1
 have h2:=h.seq
 rw [if_pos (.inr (.inr (.inl rfl))),hs] at h2
 rw [hl] at h1
 unfold og View
 rw [h.at_]
 simp only [Option.map_some,Option.some.injEq,Prod.mk.injEq]
 refine⟨h2,?_⟩
 rw [h1]
 rfl
theorem LK:kS 3 [] [120] []=0:=by decide +kernel
theorem kC.top {m:Nat} {S:aW} {R:Path→Option Rec} {r:Rec} {kind:Int} {key val:Bytes} {S1:aW} {R1:Path→Option Rec} {r1:Rec} (h:kC m S R [] r kind key val S1 R1 r1) (hr:R []=some r) (ha:kS kind r.l key val=0):AA m S R kind [] key val S1 R1 r1:=
 ⟨rfl,r,S1,R1,r1,hr,rfl,ha,h,pV.nil h.held h.at_⟩
theorem Qi (w:World) (b:Nat) (h:aA w b dA):Calls Tryz.prog 23 #[aF b,aY 0 0,str [120]] w fun e w'=>∃S1 R1 r1,e=.returned (.tuple #[aY r1.root r1.seq,.int .i64 0])∧Goes 0 1 0 S1 R1 r1∧og S1.L R1∧aA w' b S1∧aB b w w':=by
 have G:=Goes.start
 have A:y8 b 1 dA Cm [] fH [120]:=⟨G.held,G.at_,fun p r hp=>by have:=(G.few p r hp).1;omega,by omega,by simp,by simp [dA],by simp [dA],by decide⟩
 refine(xM w b 1 dA Cm [] fH [120] [] h A (by simp)).mono fun e w' q=>?_
 rcases q with ⟨er,q1,q2,_⟩ |⟨S1,R1,r1,q1,q2,q3,q4,q5⟩
 ·exact absurd (q2.trans LK) q1
 ·exact⟨S1,R1,r1,q2,G.act (kind:=3) (path:=[]) (key:=[120]) (val:=[]) (by rw [show jQ (0+1)=1 by decide +kernel];exact q3.top G.at_ q1) (by simp [dA]),q3.LJ rfl rfl,q4,q5⟩
theorem Qj (w:World) (b i V:Nat) (S:aW) (R:Path→Option Rec) (r0:Rec) (h:aA w b S) (G:Goes 0 i V S R r0) (hx:og S.L R) (hi:i<62) (hL:S.L.length≤3900) :
 Calls Tryz.prog 24 #[aF b,aY r0.root r0.seq,str [120]] w fun e w'=>∃S2 R2 r2,e=.returned (.tuple #[aY 0 0,.int .i64 0])∧Bare S2 R2 r2∧S2.L.length≤3950∧aA w' b S2∧aB b w w':=by
 have hg:=G.given
 refine(En w b S R [] r0 [120] 6 h G.held (fun p r hp=>by have:=(G.few p r hp).1;omega) (by omega) G.at_ (by simp) (hx.one G.at_) (by omega) (by omega)).mono fun e w' q=>?_
 obtain⟨S2,r2,rfl,D,h2,st⟩:=q
 obtain⟨R2,B⟩:=D.last hx G.at_ G.full
 have hl:=D.len
 exact⟨S2,R2,r2,by rw [B.root,B.seq],B,by omega,h2,st⟩
theorem SA (w:World) (b:Nat) (S:aW) (R:Path→Option Rec) (r:Rec) (h:aA w b S) (B:Bare S R r) (hL:S.L.length≤3950) :
 Calls Tryz.prog 21 #[aF b,aY 0 0] w fun e w'=>∃a c,e=.returned (.tuple #[.slice a 0 c,.int .i64 0])∧aA w' b S∧aB b w w':=by
 have hr:aY 0 0=aY r.root r.seq:=by rw [B.root,B.seq]
 rw [hr]
 refine(GY w b S R [] r h B.held (by omega) (fun p r' hp=>?_) B.at_ (fun q r' hq _=>by rw [B.alone q r' hq];simp)).mono fun e w' q=>?_
 ·have:=B.alone p r' hp
  subst this
  rw [B.at_] at hp
  cases hp
  rw [B.l]
  decide
 ·obtain⟨v,os,rfl,ho,hos,h2,st⟩:=q
  have hn:os=[]:=List.eq_nil_iff_forall_not_mem.2 fun j hj=>by
   obtain⟨q,rq,hq,_,hj2⟩:=(hos.2 j).1 hj
   have:=B.alone q rq hq
   subst this
   rw [B.at_] at hq
   cases hq
   rw [B.own] at hj2
   cases hj2
  subst hn
  obtain⟨a,c,rfl⟩:=ownsRow_form ho.own
  exact⟨a,c,by simp [dM],h2,st⟩
theorem NV (w:World) (b:Nat) (S:aW) (R:Path→Option Rec) (r:Rec) (h:aA w b S) (B:Bare S R r) (hL:S.L.length≤3950) :
 Calls Tryz.prog 23 #[aF b,aY 0 0,str [120]] w fun e w'=>∃S1 R1 r1,e=.returned (.tuple #[aY r1.root r1.seq,.int .i64 0])∧kC 1 S R [] r 3 [120] [] S1 R1 r1∧aA w' b S1∧aB b w w':=by
 have hr:aY 0 0=aY r.root r.seq:=by rw [B.root,B.seq]
 have hgv:=B.given
 rw [hr]
 have A:y8 b 1 S R [] r [120]:=⟨B.held,B.at_,fun p r' hp=>by
  have:=B.alone p r' hp
  subst this
  rw [B.at_] at hp
  cases hp
  rw [B.l]
  decide,by omega,by simp,by omega,by omega,by rw [B.seq];decide⟩
 refine(xM w b 1 S R [] r [120] [] h A (by simp)).mono fun e w' q=>?_
 rcases q with ⟨er,q1,q2,_⟩ |⟨S1,R1,r1,q1,q2,q3,q4,q5⟩
 ·rw [B.l] at q2
  exact absurd (q2.trans LK) q1
 ·exact⟨S1,R1,r1,q2,q3,q4,q5⟩
theorem zT (w:World) (b:Nat) (S:aW) (h:aA w b S) (k:Bytes) (t:TypeId):aA (w.alloc (.cells #[str k] t)) b S∧aB b w (w.alloc (.cells #[str k] t))∧Names (w.alloc (.cells #[str k] t)) b (.slice (some ⟨w.heap.size,0,none⟩) 1 1) [k]:=by
 have o:=(Only.refl (fun _=>False) w).alloc (.cells #[str k] t)
 have A:=bG.new h (.cells #[str k] t)
 refine⟨h.still o,aB.still h.lt o,?_,fun j q=>?_⟩
 ·refine bL.some (enc:=bk.qd) (k:=1) w.heap.size 0 1 [k] fun i x j u hx hu=>?_
  match i,hx with
  | 0,hx=>
   cases hx
   match j,hu with
   | 0,hu=>cases hu;exact aj A.at_ 0
   | j+1,hu=>cases hu
  | i+1,hx=>cases hx
 ·have e:w.heap.size=j:=by
   unfold bI at q
   simpa using q
  subst e
  exact⟨A.not,jU A.at_⟩
theorem Qk (w:World) (b g c:Nat) (S S1:aW) (R R1:Path→Option Rec) (r r1:Rec) (h:aA w b S1) (B:Bare S R r) (hL:S.L.length≤3950) (P:kC 1 S R [] r 3 [120] [] S1 R1 r1) (hN:Names w b (.slice (some ⟨g,0,none⟩) 1 c) [[120]]) :
 Calls Tryz.prog 25 #[aF b,aY r1.root r1.seq,.slice (some ⟨g,0,none⟩) 1 c] w fun e w'=>e=.returned (.tuple #[aY 0 0,.int .i64 0])∧aA w' b S1∧aB b w w':=by
 have hl:=P.len
 rw [if_neg (by decide)] at hl
 have hone:mq r1.l [120]=0:=(P.LJ B.l B.seq).one P.at_
 have hfe:gU R1 [] [[120]]=0:=by
  rw [tX P.at_,if_pos hone]
  rfl
 refine(Eo w b S1 R1 [] r1 (some ⟨g,0,none⟩) c [[120]] h P.held P.at_ (by omega) (fun p r' hp=>?_) hN (by simp) (by simp)).mono fun e w' q=>?_
 ·have:=(P.NT (i:=0) B.at_ (fun p r2 hp=>by
   have:=B.alone p r2 hp
   subst this
   rw [B.at_] at hp
   cases hp
   rw [B.l,B.seq]
   exact⟨Nat.le_refl _,Int.le_refl _⟩) p r' hp).1
  omega
 ·obtain⟨root,seq,er,rfl,her,hz,_,h2,st⟩:=q
  rw [hfe] at her
  subst her
  obtain⟨r3,h3,rfl,rfl⟩:=hz rfl
  have h4:R1 ([]++[[120]])=some fH:=(P.made rfl).2.1
  rw [h4] at h3
  cases h3
  exact⟨rfl,h2,st⟩
end
end Go.Proofs.YtbhiamcmiopnoaaGreatDoor
