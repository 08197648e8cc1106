/- ref19.Path: a path's names. Conditions: one goroutine; a path shorter than a million bytes. -/
import Derived.Test.YtbhiamcmiopnoaaGreatDoorZPathX
import Derived.Test.YtbhiamcmiopnoaaGreatDoorZBkS
set_option maxRecDepth 100000
namespace Go.Proofs.YtbhiamcmiopnoaaGreatDoor.bk
open Go.RowKit
theorem JN {l:Bytes} {i:Nat} {x:UInt8} (h:l[i]? = some x):∀h':i<(⟨l.toArray⟩:ByteArray).size,(⟨l.toArray⟩:ByteArray)[i]'h'=x:=by
 intro h'
 have hi:i<l.length:=by
  have h2:i<l.toArray.size:=h'
  simpa using h2
 have h3:l[i]'hi=x:=by
  rw [List.getElem?_eq_getElem hi] at h
  exact Option.some.inj h
 rw [←h3]
 rfl
structure Cut (s:Bytes) (i a:Nat) (P:List Bytes):Prop where
 le:a≤i∧i≤s.length+1
 go:i≤s.length→P++bQ (s.drop a)=bQ s
 no:∀k,a≤k→k<i→s[k]?≠some (47:UInt8)
 fin:i=s.length+1→P=bQ s
theorem Cut.start (s:Bytes):Cut s 0 0 []:=⟨by omega,fun _=>by simp,fun k h1 h2=>by omega,fun h=>by omega⟩
theorem Cut.stay {s:Bytes} {i a:Nat} {P:List Bytes} (h:Cut s i a P) (hi:i<s.length) (hc:s[i]?≠some (47:UInt8)):Cut s (i+1) a P:=
 ⟨by have:=h.le;omega,fun _=>h.go (by omega),fun k h1 h2=>by
  by_cases hk:k=i
  ·subst hk;exact hc
  ·exact h.no k h1 (by omega),fun q=>by omega⟩
theorem Cut.next {s:Bytes} {i a:Nat} {P:List Bytes} (h:Cut s i a P) (ha:a≤s.length) (hi:i=s.length∨s[i]? = some (47:UInt8)) (hi2:i≤s.length):Cut s (i+1) (i+1) (P++[(s.take i).drop a]):=by
 rw [List.drop_take]
 have h1:=h.le
 have h2:=h.go hi2
 have hno:∀k:Nat,k<i-a→(s.drop a)[k]?≠some (47:UInt8):=fun k hk=>by
  rw [List.getElem?_drop]
  exact h.no (a+k) (by omega) (by omega)
 refine⟨by omega,fun h3=>?_,fun k h3 h4=>by omega,fun h3=>?_⟩
 ·have hc:s[i]? = some (47:UInt8):=hi.resolve_left (by omega)
  have h4:(s.drop a)[i-a]? = some (47:UInt8):=by
   rw [List.getElem?_drop,show a+(i-a)=i by omega]
   exact hc
  rw [om h4 hno,List.drop_drop,show a+(i-a+1)=i+1 by omega] at h2
  rw [←h2,List.append_assoc]
  rfl
 ·have hi3:i=s.length:=by omega
  have hm:bQ (s.drop a)=[s.drop a]:=mD fun k q=>by
   have hk:k<(s.drop a).length:=(List.getElem?_eq_some_iff.1 q).1
   rw [List.length_drop] at hk
   exact hno k (by omega) q
  rw [hm] at h2
  rw [←h2,List.take_of_length_le (by rw [List.length_drop];omega)]
end Go.Proofs.YtbhiamcmiopnoaaGreatDoor.bk
namespace Go.Proofs.YtbhiamcmiopnoaaGreatDoor.bk
open Go.RowKit
def gM (s:Bytes):List Bytes:=if s≠[]∧sN s=true then bQ s else []
def nY (s:Bytes):Int:=if s=[]∨sN s=true then 0 else 1
theorem Jl (l:List Bytes):l.flatMap qd=l.map str:=by
 induction l with
 | nil=>rfl
 | cons x l ih=>rw [List.flatMap_cons,ih];rfl
theorem F7 {w:World} {g:Nat} {l:List Bytes} (h:lF w g l) (hn:l.length≤maxLen):w.ownsRow 0 9 1 (.slice (some ⟨g,0,none⟩) l.length l.length) l.length (l.flatMap qd):=by
 rw [Jl]
 refine⟨by simp,.inr ⟨g,l.length,(l.map str).toArray,rfl,Nat.zero_le _,h,Nat.le_refl _,hn,by simp,?_⟩⟩
 show (l.map str).toArray.toList.take (l.length * 1)=l.map str
 rw [Nat.mul_one]
 exact List.take_of_length_le (by simp)
def AP (w:World) (s:Bytes):Ending→World→Prop:=fun e w'=>∃v,e=.returned (.tuple #[v,.int .i64 (nY s)])∧w'.ownsRow 0 9 1 v (gM s).length ((gM s).flatMap qd)∧(∀b,fI v b→w.heap.size≤b)∧Only (fun _=>False) w w'
theorem AB (s:Bytes):(gM s).length≤4:=by
 unfold gM
 split
 ·rename_i h
  have h2:=h.2
  unfold sN at h2
  simp only [Bool.and_eq_true,decide_eq_true_eq] at h2
  exact h2.1
 ·simp
theorem Mc (w:World) (s:Bytes) (hs2:s.length<1000000) (hm:kT w):Calls Tryz.prog 9 #[str s] w (AP w s):=by
 by_cases hse:s=[]
 ·subst hse
  go_enter Tryz.func9,Tryz.ntmps9
  go_wp2_with fail
  go_ret2
  exact⟨.slice none 0 0,by unfold nY;rw [if_pos (.inl rfl)];rfl,⟨rfl,.inl ⟨rfl,rfl⟩⟩,fun b q=>by simp [fI,Value.ownBlock] at q,Only.refl _ _⟩
 ·refine(Gd w s hse hs2 hm).mono fun e w' h=>?_
  unfold tZ at h
  by_cases hp:sN s=true
  ·rw [if_pos hp] at h
   obtain⟨g,rfl,hr,hg,ho⟩:=h
   have e1:gM s=bQ s:=if_pos ⟨hse,hp⟩
   refine⟨_,by rw [nY,if_pos (.inr hp)],by rw [e1];exact F7 hr (by have:=vZ s;unfold maxLen;omega),fun b q=>?_,ho⟩
   cases q
   exact hg
  ·rw [if_neg hp] at h
   obtain⟨rfl,ho⟩:=h
   have e1:gM s=[]:=if_neg fun q=>hp q.2
   refine⟨.slice none 0 0,by rw [nY,if_neg (fun q=>q.elim hse hp)],by rw [e1];exact⟨rfl,.inl ⟨rfl,rfl⟩⟩,fun b q=>by simp [fI,Value.ownBlock] at q,ho⟩
end Go.Proofs.YtbhiamcmiopnoaaGreatDoor.bk
